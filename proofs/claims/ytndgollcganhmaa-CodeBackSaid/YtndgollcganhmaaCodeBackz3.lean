/- Part 3 of a proof: contracts and plain laws of what the statement reaches. No condition. -/
import Derived.Test.YtndgollcganhmaaCodeBackz1
import Derived.Test.YtndgollcganhmaaCodeBackz2
set_option linter.unusedVariables false
set_option linter.unusedSimpArgs false
namespace Go.Proofs.Ytndgollcganhmaa
open Go.RowKit
theorem tx_nil {l : List UInt8} (h : l.isEmpty = true) : (tx l).toList = [] := by
  cases l with
  | nil => rw [ByteArray.toList_eq]; rfl
  | cons a l => simp at h
theorem tx_cons {l : List UInt8} (h : l.isEmpty = false) : ¬ (tx l).toList = [] := by
  cases l with
  | nil => simp at h
  | cons a l => rw [ByteArray.toList_eq]; simp [tx]
theorem set_bel {B b j : Nat} {w W : World} {u : Value} (h : Below B w W) (hb : B ≤ b) : Below B w (W.setCell ⟨b, j, none⟩ u) := h.setCell (p := ⟨b, j, none⟩) hb u
def getE (s : Rst) (rb : Bool) (x y : Value) : Ending := if (s.2 || !s.1.isEmpty || !rb) = true then .returned (.tuple #[x, .int .i64 13]) else .returned (.tuple #[y, .int .i64 0])
theorem getE1 {s : Rst} {rb : Bool} {x y : Value} (h : s.2 = true) : .returned (.tuple #[x, .int .i64 13]) = getE s rb x y := by simp [getE, h]
theorem getE2 {s : Rst} {rb : Bool} {x y : Value} (h : s.1.isEmpty = false) : .returned (.tuple #[x, .int .i64 13]) = getE s rb x y := by simp [getE, h]
theorem getE3 {s : Rst} {x y : Value} : .returned (.tuple #[x, .int .i64 13]) = getE s false x y := by simp [getE]
theorem getE4 {s : Rst} {x y : Value} (h : s.2 = false) (h2 : s.1.isEmpty = true) : .returned (.tuple #[y, .int .i64 0]) = getE s true x y := by simp only [getE, h, h2]; rfl
section
variable (g : Nat)
set_option maxHeartbeats 8000000 in
set_option maxRecDepth 100000 in
theorem get0_any (a0 : ByteArray) (w : World) (hl : a0.data.toList.length ≤ 100000) (hkk : (numF (a0.data.toList, false)).1 ≠ 1 ∧ (numF (a0.data.toList, false)).1 ≠ 2 ∧ (numF (a0.data.toList, false)).1 ≠ 3) (rb : Bool)
    (HR : ∀ W, Calls Try.prog 26 #[.agg (recC (numF (a0.data.toList, false)).1 (.slice none 0 0) 0 0 0 0 0 (.slice none 0 0) 0 0 (.slice none 0 0))] W fun e w' => e = .returned (.bool rb) ∧ Below W.heap.size W w') :
    Calls Try.prog 30 #[.string a0] w fun e w' => e = getE (numF (a0.data.toList, false)).2 rb (.agg (recC 0 (.slice none 0 0) 0 0 0 0 0 (.slice none 0 0) 0 0 (.slice none 0 0))) (.agg (recC (numF (a0.data.toList, false)).1 (.slice none 0 0) 0 0 0 0 0 (.slice none 0 0) 0 0 (.slice none 0 0))) ∧ Below w.heap.size w w' := by
  have hl0 : (numF (a0.data.toList, false)).2.1.length ≤ a0.data.toList.length := numF_rest (a0.data.toList, false)
  have HN := Lib.hid fun W (h : FA (w.heap.size + 1) (a0.data.toList, false) W) => number_any (w.heap.size + 1) (a0.data.toList, false) W h hl
  obtain ⟨k, hk⟩ : ∃ q, q = (numF (a0.data.toList, false)).1 := ⟨_, rfl⟩
  obtain ⟨s0, hs0⟩ : ∃ q, q = (numF (a0.data.toList, false)).2 := ⟨_, rfl⟩
  rw [← hk, ← hs0] at HN
  rw [← hk] at hkk
  rw [← hs0] at hl0
  have HR := Lib.hid HR
  rw [← hk] at HR
  rw [← hk, ← hs0]
  unfold recC at *
  clear hk hs0
  go_enter Try.func30, Try.ntmps30
  go_wp2_with fail
  refine (HN.out _ ?_).mono ?_
  case refine_1 =>
    have := blk_new (w.alloc (.cells (recC 0 (.slice none 0 0) 0 0 0 0 0 (.slice none 0 0) 0 0 (.slice none 0 0)) 50)) (.cells #[.string a0, .bool false] 81)
    rw [size_alloc] at this
    unfold FA
    rw [tx_of]
    exact this
  rintro e w1 ⟨rfl, hp⟩
  have hZ := hp.stay (blk_new1 w (.cells (recC 0 (.slice none 0 0) 0 0 0 0 0 (.slice none 0 0) 0 0 (.slice none 0 0)) 50) (.cells #[.string a0, .bool false] 81)) (by omega)
  have hsz1 := hp.2.size
  simp only [size_alloc] at hsz1
  have HP1 := Lib.hid hp
  have HZ := Lib.hid hZ
  clear hp hZ HN
  have hbw : Below w.heap.size w w1 := ⟨HP1.out.2.os, HP1.out.2.tape, HP1.out.2.output, by omega, fun i hi => (HP1.out.2.block i (by simp only [size_alloc]; omega) (by simp; omega)).trans ((Lib.alloc_old _ _ _ (by rw [size_alloc]; omega)).trans (Lib.alloc_old _ _ _ hi))⟩
  have HX := Lib.hid (blk_new w1 (.cells (recC k (.slice none 0 0) 0 0 0 0 0 (.slice none 0 0) 0 0 (.slice none 0 0)) 50))
  have hZ := (Lib.alloc_old w1 (.cells (recC k (.slice none 0 0) 0 0 0 0 0 (.slice none 0 0) 0 0 (.slice none 0 0)) 50) _ (blk_lt HZ.out)).trans HZ.out
  have HF := Lib.hid (HP1.out.1.far (World.grownBy_alloc w1 (.cells (recC k (.slice none 0 0) 0 0 0 0 0 (.slice none 0 0) 0 0 (.slice none 0 0)) 50) none) (by simp))
  have HB := Lib.hid (hbw.alloc (by omega) (.cells (recC k (.slice none 0 0) 0 0 0 0 0 (.slice none 0 0) 0 0 (.slice none 0 0)) 50))
  clear HZ hbw
  have HZ := Lib.hid hZ
  unfold recC at *
  clear hZ HP1
  go_upto_region 4 with fail
  refine name_world (fun W hW => ?_)
  rw [← hW] at HX HZ HF HB
  clear hW
  obtain ⟨r, hr⟩ : ∃ r, r = w1.heap.size := ⟨_, rfl⟩
  simp only [← hr]
  rw [← hr] at HX hsz1
  clear hr
  have k1 : ((k : Int) == 1) = false := by simp; omega
  have k2 : ((k : Int) == 2) = false := by simp; omega
  have k3 : ((k : Int) == 3) = false := by simp; omega
  have cg0 : W.cell? ⟨w.heap.size + 1, 0, none⟩ = some (.string (tx s0.1)) := blk_cell HF.out rfl
  have cg1 : W.cell? ⟨w.heap.size + 1, 1, none⟩ = some (.bool s0.2) := blk_cell HF.out rfl
  have hgW := blk_lt HF.out
  have zf := fun j => Lib.frozen_of_heap HZ.out j
  have z0 : W.cell? ⟨w.heap.size, 0, none⟩ = some (.int .i64 0) := blk_cell HZ.out rfl
  have z1 : W.cell? ⟨w.heap.size, 1, none⟩ = some (.slice none 0 0) := blk_cell HZ.out rfl
  have z2 : W.cell? ⟨w.heap.size, 2, none⟩ = some (.int .i64 0) := blk_cell HZ.out rfl
  have z3 : W.cell? ⟨w.heap.size, 3, none⟩ = some (.int .i64 0) := blk_cell HZ.out rfl
  have z4 : W.cell? ⟨w.heap.size, 4, none⟩ = some (.int .i64 0) := blk_cell HZ.out rfl
  have z5 : W.cell? ⟨w.heap.size, 5, none⟩ = some (.int .i64 0) := blk_cell HZ.out rfl
  have z6 : W.cell? ⟨w.heap.size, 6, none⟩ = some (.int .i64 0) := blk_cell HZ.out rfl
  have z7 : W.cell? ⟨w.heap.size, 7, none⟩ = some (.slice none 0 0) := blk_cell HZ.out rfl
  have z8 : W.cell? ⟨w.heap.size, 8, none⟩ = some (.int .i64 0) := blk_cell HZ.out rfl
  have z9 : W.cell? ⟨w.heap.size, 9, none⟩ = some (.int .i64 0) := blk_cell HZ.out rfl
  have z10 : W.cell? ⟨w.heap.size, 10, none⟩ = some (.slice none 0 0) := blk_cell HZ.out rfl
  have x0 : W.cell? ⟨r, 0, none⟩ = some (.int .i64 k) := blk_cell HX.out rfl
  have x1 : W.cell? ⟨r, 1, none⟩ = some (.slice none 0 0) := blk_cell HX.out rfl
  have x2 : W.cell? ⟨r, 2, none⟩ = some (.int .i64 0) := blk_cell HX.out rfl
  have x3 : W.cell? ⟨r, 3, none⟩ = some (.int .i64 0) := blk_cell HX.out rfl
  have x4 : W.cell? ⟨r, 4, none⟩ = some (.int .i64 0) := blk_cell HX.out rfl
  have x5 : W.cell? ⟨r, 5, none⟩ = some (.int .i64 0) := blk_cell HX.out rfl
  have x6 : W.cell? ⟨r, 6, none⟩ = some (.int .i64 0) := blk_cell HX.out rfl
  have x7 : W.cell? ⟨r, 7, none⟩ = some (.slice none 0 0) := blk_cell HX.out rfl
  have x8 : W.cell? ⟨r, 8, none⟩ = some (.int .i64 0) := blk_cell HX.out rfl
  have x9 : W.cell? ⟨r, 9, none⟩ = some (.int .i64 0) := blk_cell HX.out rfl
  have x10 : W.cell? ⟨r, 10, none⟩ = some (.slice none 0 0) := blk_cell HX.out rfl
  rcases Bool.eq_false_or_eq_true s0.2 with hb | hb
  · rw [hb] at cg1
    go_wp2_with fail
    refine bodyPost_ret (v := .tuple #[.agg #[.int .i64 0, .slice none 0 0, .int .i64 0, .int .i64 0, .int .i64 0, .int .i64 0, .int .i64 0, .slice none 0 0, .int .i64 0, .int .i64 0, .slice none 0 0], .int .i64 13]) ?_ rfl ?_
    · simp [results, Try.results30, go_sem, z0, z1, z2, z3, z4, z5, z6, z7, z8, z9, z10]
    · exact ⟨getE1 hb, by (with_reducible (repeat (refine set_bel ?_ (Nat.le_refl _)))); exact HB.out⟩
  · rw [hb] at cg1
    rcases Bool.eq_false_or_eq_true s0.1.isEmpty with he | he
    · have hne2 := tx_nil he
      go_wp2_with fail
      refine (HR.out _).mono ?_
      rintro e w9 ⟨rfl, hbR⟩
      have HZ9 := Lib.hid ((hbR.block _ (blk_lt HZ.out)).trans HZ.out)
      have HX9 := Lib.hid ((hbR.block _ (blk_lt HX.out)).trans HX.out)
      have hsz9 := hbR.size
      have HB9 := Lib.hid (HB.out.trans (hbR.mono HB.out.size))
      clear z0 z1 z2 z3 z4 z5 z6 z7 z8 z9 z10 x0 x1 x2 x3 x4 x5 x6 x7 x8 x9 x10
      clear hbR zf
      have zf := fun j => Lib.frozen_of_heap HZ9.out j
      have z0 : w9.cell? ⟨w.heap.size, 0, none⟩ = some (.int .i64 0) := blk_cell HZ9.out rfl
      have z1 : w9.cell? ⟨w.heap.size, 1, none⟩ = some (.slice none 0 0) := blk_cell HZ9.out rfl
      have z2 : w9.cell? ⟨w.heap.size, 2, none⟩ = some (.int .i64 0) := blk_cell HZ9.out rfl
      have z3 : w9.cell? ⟨w.heap.size, 3, none⟩ = some (.int .i64 0) := blk_cell HZ9.out rfl
      have z4 : w9.cell? ⟨w.heap.size, 4, none⟩ = some (.int .i64 0) := blk_cell HZ9.out rfl
      have z5 : w9.cell? ⟨w.heap.size, 5, none⟩ = some (.int .i64 0) := blk_cell HZ9.out rfl
      have z6 : w9.cell? ⟨w.heap.size, 6, none⟩ = some (.int .i64 0) := blk_cell HZ9.out rfl
      have z7 : w9.cell? ⟨w.heap.size, 7, none⟩ = some (.slice none 0 0) := blk_cell HZ9.out rfl
      have z8 : w9.cell? ⟨w.heap.size, 8, none⟩ = some (.int .i64 0) := blk_cell HZ9.out rfl
      have z9 : w9.cell? ⟨w.heap.size, 9, none⟩ = some (.int .i64 0) := blk_cell HZ9.out rfl
      have z10 : w9.cell? ⟨w.heap.size, 10, none⟩ = some (.slice none 0 0) := blk_cell HZ9.out rfl
      have x0 : w9.cell? ⟨r, 0, none⟩ = some (.int .i64 k) := blk_cell HX9.out rfl
      have x1 : w9.cell? ⟨r, 1, none⟩ = some (.slice none 0 0) := blk_cell HX9.out rfl
      have x2 : w9.cell? ⟨r, 2, none⟩ = some (.int .i64 0) := blk_cell HX9.out rfl
      have x3 : w9.cell? ⟨r, 3, none⟩ = some (.int .i64 0) := blk_cell HX9.out rfl
      have x4 : w9.cell? ⟨r, 4, none⟩ = some (.int .i64 0) := blk_cell HX9.out rfl
      have x5 : w9.cell? ⟨r, 5, none⟩ = some (.int .i64 0) := blk_cell HX9.out rfl
      have x6 : w9.cell? ⟨r, 6, none⟩ = some (.int .i64 0) := blk_cell HX9.out rfl
      have x7 : w9.cell? ⟨r, 7, none⟩ = some (.slice none 0 0) := blk_cell HX9.out rfl
      have x8 : w9.cell? ⟨r, 8, none⟩ = some (.int .i64 0) := blk_cell HX9.out rfl
      have x9 : w9.cell? ⟨r, 9, none⟩ = some (.int .i64 0) := blk_cell HX9.out rfl
      have x10 : w9.cell? ⟨r, 10, none⟩ = some (.slice none 0 0) := blk_cell HX9.out rfl
      cases rb
      · skip
        go_wp2_with fail
        refine bodyPost_ret (v := .tuple #[.agg #[.int .i64 0, .slice none 0 0, .int .i64 0, .int .i64 0, .int .i64 0, .int .i64 0, .int .i64 0, .slice none 0 0, .int .i64 0, .int .i64 0, .slice none 0 0], .int .i64 13]) ?_ rfl ?_
        · simp [results, Try.results30, go_sem, z0, z1, z2, z3, z4, z5, z6, z7, z8, z9, z10]
        · exact ⟨getE3, by (with_reducible (repeat (refine set_bel ?_ (Nat.le_refl _)))); exact HB9.out⟩
      · skip
        go_wp2_with fail
        refine bodyPost_ret (v := .tuple #[.agg #[.int .i64 k, .slice none 0 0, .int .i64 0, .int .i64 0, .int .i64 0, .int .i64 0, .int .i64 0, .slice none 0 0, .int .i64 0, .int .i64 0, .slice none 0 0], .int .i64 0]) ?_ rfl ?_
        · simp [results, Try.results30, go_sem, z0, z1, z2, z3, z4, z5, z6, z7, z8, z9, z10, x0, x1, x2, x3, x4, x5, x6, x7, x8, x9, x10]
        · exact ⟨getE4 hb he, by (with_reducible (repeat (refine set_bel ?_ (Nat.le_refl _)))); exact HB9.out⟩
    · have hne2 := tx_cons he
      go_wp2_with fail
      refine bodyPost_ret (v := .tuple #[.agg #[.int .i64 0, .slice none 0 0, .int .i64 0, .int .i64 0, .int .i64 0, .int .i64 0, .int .i64 0, .slice none 0 0, .int .i64 0, .int .i64 0, .slice none 0 0], .int .i64 13]) ?_ rfl ?_
      · simp [results, Try.results30, go_sem, z0, z1, z2, z3, z4, z5, z6, z7, z8, z9, z10]
      · exact ⟨getE2 he, by (with_reducible (repeat (refine set_bel ?_ (Nat.le_refl _)))); exact HB.out⟩
set_option maxHeartbeats 8000000 in
set_option maxRecDepth 100000 in
theorem get2_any (a0 : ByteArray) (w : World) (hl : a0.data.toList.length ≤ 100000) (hkk : (numF (a0.data.toList, false)).1 = 2) (rb : Bool)
    (HR : ∀ W A c, W.ownsRow w.heap.size 41 2 (.slice A (labsF (numF (numF (a0.data.toList, false)).2).1 [] (numF (numF (a0.data.toList, false)).2).2).1.length c) (labsF (numF (numF (a0.data.toList, false)).2).1 [] (numF (numF (a0.data.toList, false)).2).2).1.length (labsC (labsF (numF (numF (a0.data.toList, false)).2).1 [] (numF (numF (a0.data.toList, false)).2).2).1) → Calls Try.prog 26 #[.agg (recC 2 (.slice none 0 0) 0 0 0 0 0 (.slice A (labsF (numF (numF (a0.data.toList, false)).2).1 [] (numF (numF (a0.data.toList, false)).2).2).1.length c) 0 0 (.slice none 0 0))] W fun e w' => e = .returned (.bool rb) ∧ Below W.heap.size W w') :
    Calls Try.prog 30 #[.string a0] w fun e w' => ∃ A c, e = getE (labsF (numF (numF (a0.data.toList, false)).2).1 [] (numF (numF (a0.data.toList, false)).2).2).2 rb (.agg (recC 0 (.slice none 0 0) 0 0 0 0 0 (.slice none 0 0) 0 0 (.slice none 0 0))) (.agg (recC 2 (.slice none 0 0) 0 0 0 0 0 (.slice A (labsF (numF (numF (a0.data.toList, false)).2).1 [] (numF (numF (a0.data.toList, false)).2).2).1.length c) 0 0 (.slice none 0 0))) ∧ Hid (w'.ownsRow w.heap.size 41 2 (.slice A (labsF (numF (numF (a0.data.toList, false)).2).1 [] (numF (numF (a0.data.toList, false)).2).2).1.length c) (labsF (numF (numF (a0.data.toList, false)).2).1 [] (numF (numF (a0.data.toList, false)).2).2).1.length (labsC (labsF (numF (numF (a0.data.toList, false)).2).1 [] (numF (numF (a0.data.toList, false)).2).2).1)) ∧ Below w.heap.size w w' := by
  have hl0 : (numF (a0.data.toList, false)).2.1.length ≤ a0.data.toList.length := numF_rest (a0.data.toList, false)
  have HN := Lib.hid fun W (h : FA (w.heap.size + 1) (a0.data.toList, false) W) => number_any (w.heap.size + 1) (a0.data.toList, false) W h hl
  rw [hkk] at HN
  obtain ⟨s0, hs0⟩ : ∃ q, q = (numF (a0.data.toList, false)).2 := ⟨_, rfl⟩
  rw [← hs0] at HN HR hl0
  rw [← hs0]
  have HL := Lib.hid fun W (h : FA (w.heap.size + 1) s0 W) => flabels_any (w.heap.size + 1) s0 W h (by omega)
  obtain ⟨L, hL⟩ : ∃ q, q = (labsF (numF s0).1 [] (numF s0).2).1 := ⟨_, rfl⟩
  obtain ⟨s, hs⟩ : ∃ q, q = (labsF (numF s0).1 [] (numF s0).2).2 := ⟨_, rfl⟩
  rw [← hL] at HR
  rw [← hL, ← hs] at HL
  rw [← hL, ← hs]
  have HR := Lib.hid HR
  clear hkk hL hs
  unfold recC at *
  clear hs0
  go_enter Try.func30, Try.ntmps30
  go_wp2_with fail
  refine (HN.out _ ?_).mono ?_
  case refine_1 =>
    have := blk_new (w.alloc (.cells (recC 0 (.slice none 0 0) 0 0 0 0 0 (.slice none 0 0) 0 0 (.slice none 0 0)) 50)) (.cells #[.string a0, .bool false] 81)
    rw [size_alloc] at this
    unfold FA
    rw [tx_of]
    exact this
  rintro e w1 ⟨rfl, hp⟩
  have hZ := hp.stay (blk_new1 w (.cells (recC 0 (.slice none 0 0) 0 0 0 0 0 (.slice none 0 0) 0 0 (.slice none 0 0)) 50) (.cells #[.string a0, .bool false] 81)) (by omega)
  have hsz1 := hp.2.size
  simp only [size_alloc] at hsz1
  have HP1 := Lib.hid hp
  have HZ := Lib.hid hZ
  clear hp hZ HN
  have hbw : Below w.heap.size w w1 := ⟨HP1.out.2.os, HP1.out.2.tape, HP1.out.2.output, by omega, fun i hi => (HP1.out.2.block i (by simp only [size_alloc]; omega) (by simp; omega)).trans ((Lib.alloc_old _ _ _ (by rw [size_alloc]; omega)).trans (Lib.alloc_old _ _ _ hi))⟩
  have HX := Lib.hid (blk_new w1 (.cells (recC 2 (.slice none 0 0) 0 0 0 0 0 (.slice none 0 0) 0 0 (.slice none 0 0)) 50))
  have hZ := (Lib.alloc_old w1 (.cells (recC 2 (.slice none 0 0) 0 0 0 0 0 (.slice none 0 0) 0 0 (.slice none 0 0)) 50) _ (blk_lt HZ.out)).trans HZ.out
  have HF := Lib.hid (HP1.out.1.far (World.grownBy_alloc w1 (.cells (recC 2 (.slice none 0 0) 0 0 0 0 0 (.slice none 0 0) 0 0 (.slice none 0 0)) 50) none) (by simp))
  have HB := Lib.hid (hbw.alloc (by omega) (.cells (recC 2 (.slice none 0 0) 0 0 0 0 0 (.slice none 0 0) 0 0 (.slice none 0 0)) 50))
  clear HZ hbw
  have HZ := Lib.hid hZ
  unfold recC at *
  clear hZ HP1
  go_upto_region 4 with fail
  refine name_world (fun W hW => ?_)
  rw [← hW] at HX HZ HF HB
  clear hW
  obtain ⟨r, hr⟩ : ∃ r, r = w1.heap.size := ⟨_, rfl⟩
  simp only [← hr]
  rw [← hr] at HX hsz1
  clear hr
  go_wp2_with fail
  refine (HL.out W HF.out).mono ?_
  rintro e W1 ⟨v, rfl, HO, hp⟩
  have HO := Lib.hid (row_mono HO.out HB.out.size)
  have hZ := hp.stay HZ.out (by omega)
  have hX := hp.stay HX.out (by omega)
  have hzr := row_type HO.out hZ (by decide)
  have hxr := row_type HO.out hX (by decide)
  have hB := HB.out.grown hp.2 HB.out.size (fun k e => by obtain rfl := Option.some.inj e; omega)
  have xf := fun j => Lib.frozen_of_heap hX j
  have x7 := blk_cell hX (j := 7) rfl
  obtain ⟨A, c, rfl⟩ := row_form HO.out
  have HX1 := Lib.hid hX
  have HZ1 := Lib.hid hZ
  have HB1 := Lib.hid hB
  have HP1 := Lib.hid hp
  clear hX hZ hB hp HX HZ HB HF
  go_upto_region 17 with fail
  have HX := Lib.hid (set_heap (j := 7) HX1.out (.slice A L.length c))
  have HZ := Lib.hid ((Below.heap_setCell W1 ⟨r, 7, none⟩ (.slice A L.length c) w.heap.size (fun e => by have : w.heap.size = r := e; omega)).trans HZ1.out)
  have HF := Lib.hid (show FA (w.heap.size + 1) s (W1.setCell ⟨r, 7, none⟩ (.slice A L.length c)) from (Below.heap_setCell W1 ⟨r, 7, none⟩ (.slice A L.length c) (w.heap.size + 1) (fun e => by have : w.heap.size + 1 = r := e; omega)).trans HP1.out.1)
  have HB := Lib.hid (set_bel (j := 7) (u := .slice A L.length c) HB1.out (show w.heap.size ≤ r by omega))
  have HO := Lib.hid (row_set (j := 7) HO.out hxr (.slice A L.length c))
  clear HX1 HZ1 HB1 HP1 hxr
  refine name_world (fun W2 hW => ?_)
  rw [← hW] at HX HZ HF HB HO
  clear hW
  have cg0 : W2.cell? ⟨w.heap.size + 1, 0, none⟩ = some (.string (tx s.1)) := blk_cell HF.out rfl
  have cg1 : W2.cell? ⟨w.heap.size + 1, 1, none⟩ = some (.bool s.2) := blk_cell HF.out rfl
  have hgW := blk_lt HF.out
  have zf := fun j => Lib.frozen_of_heap HZ.out j
  have z0 : W2.cell? ⟨w.heap.size, 0, none⟩ = some (.int .i64 0) := blk_cell HZ.out rfl
  have z1 : W2.cell? ⟨w.heap.size, 1, none⟩ = some (.slice none 0 0) := blk_cell HZ.out rfl
  have z2 : W2.cell? ⟨w.heap.size, 2, none⟩ = some (.int .i64 0) := blk_cell HZ.out rfl
  have z3 : W2.cell? ⟨w.heap.size, 3, none⟩ = some (.int .i64 0) := blk_cell HZ.out rfl
  have z4 : W2.cell? ⟨w.heap.size, 4, none⟩ = some (.int .i64 0) := blk_cell HZ.out rfl
  have z5 : W2.cell? ⟨w.heap.size, 5, none⟩ = some (.int .i64 0) := blk_cell HZ.out rfl
  have z6 : W2.cell? ⟨w.heap.size, 6, none⟩ = some (.int .i64 0) := blk_cell HZ.out rfl
  have z7 : W2.cell? ⟨w.heap.size, 7, none⟩ = some (.slice none 0 0) := blk_cell HZ.out rfl
  have z8 : W2.cell? ⟨w.heap.size, 8, none⟩ = some (.int .i64 0) := blk_cell HZ.out rfl
  have z9 : W2.cell? ⟨w.heap.size, 9, none⟩ = some (.int .i64 0) := blk_cell HZ.out rfl
  have z10 : W2.cell? ⟨w.heap.size, 10, none⟩ = some (.slice none 0 0) := blk_cell HZ.out rfl
  have x0 : W2.cell? ⟨r, 0, none⟩ = some (.int .i64 2) := blk_cell HX.out rfl
  have x1 : W2.cell? ⟨r, 1, none⟩ = some (.slice none 0 0) := blk_cell HX.out rfl
  have x2 : W2.cell? ⟨r, 2, none⟩ = some (.int .i64 0) := blk_cell HX.out rfl
  have x3 : W2.cell? ⟨r, 3, none⟩ = some (.int .i64 0) := blk_cell HX.out rfl
  have x4 : W2.cell? ⟨r, 4, none⟩ = some (.int .i64 0) := blk_cell HX.out rfl
  have x5 : W2.cell? ⟨r, 5, none⟩ = some (.int .i64 0) := blk_cell HX.out rfl
  have x6 : W2.cell? ⟨r, 6, none⟩ = some (.int .i64 0) := blk_cell HX.out rfl
  have x7 : W2.cell? ⟨r, 7, none⟩ = some (.slice A L.length c) := blk_cell HX.out rfl
  have x8 : W2.cell? ⟨r, 8, none⟩ = some (.int .i64 0) := blk_cell HX.out rfl
  have x9 : W2.cell? ⟨r, 9, none⟩ = some (.int .i64 0) := blk_cell HX.out rfl
  have x10 : W2.cell? ⟨r, 10, none⟩ = some (.slice none 0 0) := blk_cell HX.out rfl
  rcases Bool.eq_false_or_eq_true s.2 with hb | hb
  · rw [hb] at cg1
    go_wp2_with fail
    refine bodyPost_ret (v := .tuple #[.agg #[.int .i64 0, .slice none 0 0, .int .i64 0, .int .i64 0, .int .i64 0, .int .i64 0, .int .i64 0, .slice none 0 0, .int .i64 0, .int .i64 0, .slice none 0 0], .int .i64 13]) ?_ rfl ?_
    · simp [results, Try.results30, go_sem, z0, z1, z2, z3, z4, z5, z6, z7, z8, z9, z10]
    · exact ⟨_, _, getE1 hb, Lib.hid (by (with_reducible (repeat (refine row_set ?_ hzr _))); exact HO.out), by (with_reducible (repeat (refine set_bel ?_ (Nat.le_refl _)))); exact HB.out⟩
  · rw [hb] at cg1
    rcases Bool.eq_false_or_eq_true s.1.isEmpty with he | he
    · have hne2 := tx_nil he
      go_wp2_with fail
      refine (HR.out W2 A c HO.out).mono ?_
      rintro e w9 ⟨rfl, hbR⟩
      have HZ9 := Lib.hid ((hbR.block _ (blk_lt HZ.out)).trans HZ.out)
      have HX9 := Lib.hid ((hbR.block _ (blk_lt HX.out)).trans HX.out)
      have hsz9 := hbR.size
      have HO9 := Lib.hid (row_bel HO.out hbR)
      have HB9 := Lib.hid (HB.out.trans (hbR.mono HB.out.size))
      clear z0 z1 z2 z3 z4 z5 z6 z7 z8 z9 z10 x0 x1 x2 x3 x4 x5 x6 x7 x8 x9 x10
      clear hbR zf
      have zf := fun j => Lib.frozen_of_heap HZ9.out j
      have z0 : w9.cell? ⟨w.heap.size, 0, none⟩ = some (.int .i64 0) := blk_cell HZ9.out rfl
      have z1 : w9.cell? ⟨w.heap.size, 1, none⟩ = some (.slice none 0 0) := blk_cell HZ9.out rfl
      have z2 : w9.cell? ⟨w.heap.size, 2, none⟩ = some (.int .i64 0) := blk_cell HZ9.out rfl
      have z3 : w9.cell? ⟨w.heap.size, 3, none⟩ = some (.int .i64 0) := blk_cell HZ9.out rfl
      have z4 : w9.cell? ⟨w.heap.size, 4, none⟩ = some (.int .i64 0) := blk_cell HZ9.out rfl
      have z5 : w9.cell? ⟨w.heap.size, 5, none⟩ = some (.int .i64 0) := blk_cell HZ9.out rfl
      have z6 : w9.cell? ⟨w.heap.size, 6, none⟩ = some (.int .i64 0) := blk_cell HZ9.out rfl
      have z7 : w9.cell? ⟨w.heap.size, 7, none⟩ = some (.slice none 0 0) := blk_cell HZ9.out rfl
      have z8 : w9.cell? ⟨w.heap.size, 8, none⟩ = some (.int .i64 0) := blk_cell HZ9.out rfl
      have z9 : w9.cell? ⟨w.heap.size, 9, none⟩ = some (.int .i64 0) := blk_cell HZ9.out rfl
      have z10 : w9.cell? ⟨w.heap.size, 10, none⟩ = some (.slice none 0 0) := blk_cell HZ9.out rfl
      have x0 : w9.cell? ⟨r, 0, none⟩ = some (.int .i64 2) := blk_cell HX9.out rfl
      have x1 : w9.cell? ⟨r, 1, none⟩ = some (.slice none 0 0) := blk_cell HX9.out rfl
      have x2 : w9.cell? ⟨r, 2, none⟩ = some (.int .i64 0) := blk_cell HX9.out rfl
      have x3 : w9.cell? ⟨r, 3, none⟩ = some (.int .i64 0) := blk_cell HX9.out rfl
      have x4 : w9.cell? ⟨r, 4, none⟩ = some (.int .i64 0) := blk_cell HX9.out rfl
      have x5 : w9.cell? ⟨r, 5, none⟩ = some (.int .i64 0) := blk_cell HX9.out rfl
      have x6 : w9.cell? ⟨r, 6, none⟩ = some (.int .i64 0) := blk_cell HX9.out rfl
      have x7 : w9.cell? ⟨r, 7, none⟩ = some (.slice A L.length c) := blk_cell HX9.out rfl
      have x8 : w9.cell? ⟨r, 8, none⟩ = some (.int .i64 0) := blk_cell HX9.out rfl
      have x9 : w9.cell? ⟨r, 9, none⟩ = some (.int .i64 0) := blk_cell HX9.out rfl
      have x10 : w9.cell? ⟨r, 10, none⟩ = some (.slice none 0 0) := blk_cell HX9.out rfl
      cases rb
      · skip
        go_wp2_with fail
        refine bodyPost_ret (v := .tuple #[.agg #[.int .i64 0, .slice none 0 0, .int .i64 0, .int .i64 0, .int .i64 0, .int .i64 0, .int .i64 0, .slice none 0 0, .int .i64 0, .int .i64 0, .slice none 0 0], .int .i64 13]) ?_ rfl ?_
        · simp [results, Try.results30, go_sem, z0, z1, z2, z3, z4, z5, z6, z7, z8, z9, z10]
        · exact ⟨_, _, getE3, Lib.hid (by (with_reducible (repeat (refine row_set ?_ hzr _))); exact HO9.out), by (with_reducible (repeat (refine set_bel ?_ (Nat.le_refl _)))); exact HB9.out⟩
      · skip
        go_wp2_with fail
        refine bodyPost_ret (v := .tuple #[.agg #[.int .i64 2, .slice none 0 0, .int .i64 0, .int .i64 0, .int .i64 0, .int .i64 0, .int .i64 0, .slice A L.length c, .int .i64 0, .int .i64 0, .slice none 0 0], .int .i64 0]) ?_ rfl ?_
        · simp [results, Try.results30, go_sem, z0, z1, z2, z3, z4, z5, z6, z7, z8, z9, z10, x0, x1, x2, x3, x4, x5, x6, x7, x8, x9, x10]
        · exact ⟨_, _, getE4 hb he, Lib.hid (by (with_reducible (repeat (refine row_set ?_ hzr _))); exact HO9.out), by (with_reducible (repeat (refine set_bel ?_ (Nat.le_refl _)))); exact HB9.out⟩
    · have hne2 := tx_cons he
      go_wp2_with fail
      refine bodyPost_ret (v := .tuple #[.agg #[.int .i64 0, .slice none 0 0, .int .i64 0, .int .i64 0, .int .i64 0, .int .i64 0, .int .i64 0, .slice none 0 0, .int .i64 0, .int .i64 0, .slice none 0 0], .int .i64 13]) ?_ rfl ?_
      · simp [results, Try.results30, go_sem, z0, z1, z2, z3, z4, z5, z6, z7, z8, z9, z10]
      · exact ⟨_, _, getE2 he, Lib.hid (by (with_reducible (repeat (refine row_set ?_ hzr _))); exact HO.out), by (with_reducible (repeat (refine set_bel ?_ (Nat.le_refl _)))); exact HB.out⟩
set_option maxHeartbeats 8000000 in
set_option maxRecDepth 100000 in
theorem get3_any (a0 : ByteArray) (w : World) (hl : a0.data.toList.length ≤ 100000) (hkk : (numF (a0.data.toList, false)).1 = 3) (s0 : Rst) (hs0 : s0 = (numF (a0.data.toList, false)).2)
    (fr tt : Nat) (hfr : fr = (timeF 6 0 s0).1) (htt : tt = (timeF 6 0 (timeF 6 0 s0).2).1) (L : List Mat) (s : Rst) (hL : (L, s) = matsF (numF (timeF 6 0 (timeF 6 0 s0).2).2).1 [] (numF (timeF 6 0 (timeF 6 0 s0).2).2).2) (rb : Bool)
    (HR : ∀ W A c, W.ownsRow w.heap.size 35 3 (.slice A L.length c) L.length (matsC L) → Calls Try.prog 26 #[.agg (recC 3 (.slice none 0 0) 0 0 0 0 0 (.slice none 0 0) fr tt (.slice A L.length c))] W fun e w' => e = .returned (.bool rb) ∧ Below W.heap.size W w') :
    Calls Try.prog 30 #[.string a0] w fun e w' => ∃ A c, e = getE s rb (.agg (recC 0 (.slice none 0 0) 0 0 0 0 0 (.slice none 0 0) 0 0 (.slice none 0 0))) (.agg (recC 3 (.slice none 0 0) 0 0 0 0 0 (.slice none 0 0) fr tt (.slice A L.length c))) ∧ Hid (w'.ownsRow w.heap.size 35 3 (.slice A L.length c) L.length (matsC L)) ∧ Below w.heap.size w w' := by
  have hl0 : (numF (a0.data.toList, false)).2.1.length ≤ a0.data.toList.length := numF_rest (a0.data.toList, false)
  have HN := Lib.hid fun W (h : FA (w.heap.size + 1) (a0.data.toList, false) W) => number_any (w.heap.size + 1) (a0.data.toList, false) W h hl
  rw [hkk] at HN
  rw [← hs0] at HN hl0
  have HL := Lib.hid fun W (h : FA (w.heap.size + 1) s0 W) => fhush_any (w.heap.size + 1) s0 W h (by omega)
  rw [← hL, ← hfr, ← htt] at HL
  have HR := Lib.hid HR
  clear hkk hL hfr htt
  unfold recC at *
  clear hs0
  go_enter Try.func30, Try.ntmps30
  go_wp2_with fail
  refine (HN.out _ ?_).mono ?_
  case refine_1 =>
    have := blk_new (w.alloc (.cells (recC 0 (.slice none 0 0) 0 0 0 0 0 (.slice none 0 0) 0 0 (.slice none 0 0)) 50)) (.cells #[.string a0, .bool false] 81)
    rw [size_alloc] at this
    unfold FA
    rw [tx_of]
    exact this
  rintro e w1 ⟨rfl, hp⟩
  have hZ := hp.stay (blk_new1 w (.cells (recC 0 (.slice none 0 0) 0 0 0 0 0 (.slice none 0 0) 0 0 (.slice none 0 0)) 50) (.cells #[.string a0, .bool false] 81)) (by omega)
  have hsz1 := hp.2.size
  simp only [size_alloc] at hsz1
  have HP1 := Lib.hid hp
  have HZ := Lib.hid hZ
  clear hp hZ HN
  have hbw : Below w.heap.size w w1 := ⟨HP1.out.2.os, HP1.out.2.tape, HP1.out.2.output, by omega, fun i hi => (HP1.out.2.block i (by simp only [size_alloc]; omega) (by simp; omega)).trans ((Lib.alloc_old _ _ _ (by rw [size_alloc]; omega)).trans (Lib.alloc_old _ _ _ hi))⟩
  have HX := Lib.hid (blk_new w1 (.cells (recC 3 (.slice none 0 0) 0 0 0 0 0 (.slice none 0 0) 0 0 (.slice none 0 0)) 50))
  have hZ := (Lib.alloc_old w1 (.cells (recC 3 (.slice none 0 0) 0 0 0 0 0 (.slice none 0 0) 0 0 (.slice none 0 0)) 50) _ (blk_lt HZ.out)).trans HZ.out
  have HF := Lib.hid (HP1.out.1.far (World.grownBy_alloc w1 (.cells (recC 3 (.slice none 0 0) 0 0 0 0 0 (.slice none 0 0) 0 0 (.slice none 0 0)) 50) none) (by simp))
  have HB := Lib.hid (hbw.alloc (by omega) (.cells (recC 3 (.slice none 0 0) 0 0 0 0 0 (.slice none 0 0) 0 0 (.slice none 0 0)) 50))
  clear HZ hbw
  have HZ := Lib.hid hZ
  unfold recC at *
  clear hZ HP1
  go_upto_region 4 with fail
  refine name_world (fun W hW => ?_)
  rw [← hW] at HX HZ HF HB
  clear hW
  obtain ⟨r, hr⟩ : ∃ r, r = w1.heap.size := ⟨_, rfl⟩
  simp only [← hr]
  rw [← hr] at HX hsz1
  clear hr
  go_wp2_with fail
  refine (HL.out W HF.out).mono ?_
  rintro e W1 ⟨v, rfl, HO, hp⟩
  have HO := Lib.hid (row_mono HO.out HB.out.size)
  have hZ := hp.stay HZ.out (by omega)
  have hX := hp.stay HX.out (by omega)
  have hzr := row_type HO.out hZ (by decide)
  have hxr := row_type HO.out hX (by decide)
  have hB := HB.out.grown hp.2 HB.out.size (fun k e => by obtain rfl := Option.some.inj e; omega)
  have xf := fun j => Lib.frozen_of_heap hX j
  have x8 := blk_cell hX (j := 8) rfl
  have x9 := blk_cell hX (j := 9) rfl
  have x10 := blk_cell hX (j := 10) rfl
  obtain ⟨A, c, rfl⟩ := row_form HO.out
  have HX1 := Lib.hid hX
  have HZ1 := Lib.hid hZ
  have HB1 := Lib.hid hB
  have HP1 := Lib.hid hp
  clear hX hZ hB hp HX HZ HB HF
  go_upto_region 17 with fail
  have HX := Lib.hid (set_heap (j := 10) (set_heap (j := 9) (set_heap (j := 8) HX1.out (.int .i64 fr)) (.int .i64 tt)) (.slice A L.length c))
  obtain ⟨W2, hW⟩ : ∃ q, q = ((W1.setCell ⟨r, 8, none⟩ (.int .i64 fr)).setCell ⟨r, 9, none⟩ (.int .i64 tt)).setCell ⟨r, 10, none⟩ (.slice A L.length c) := ⟨_, rfl⟩
  have hfar : ∀ b, b ≠ r → W2.heap[b]? = W1.heap[b]? := fun b hb => by
    rw [hW]
    exact (Below.heap_setCell _ ⟨r, 10, none⟩ _ b hb).trans ((Below.heap_setCell _ ⟨r, 9, none⟩ _ b hb).trans (Below.heap_setCell _ ⟨r, 8, none⟩ _ b hb))
  have HZ := Lib.hid ((hfar w.heap.size (by omega)).trans HZ1.out)
  have HF := Lib.hid (show FA (w.heap.size + 1) s W2 from (hfar (w.heap.size + 1) (by omega)).trans HP1.out.1)
  have HB := Lib.hid (set_bel (j := 10) (u := .slice A L.length c) (set_bel (j := 9) (u := .int .i64 tt) (set_bel (j := 8) (u := .int .i64 fr) HB1.out (show w.heap.size ≤ r by omega)) (show w.heap.size ≤ r by omega)) (show w.heap.size ≤ r by omega))
  have HO := Lib.hid (row_set (j := 10) (row_set (j := 9) (row_set (j := 8) HO.out hxr (.int .i64 fr)) hxr (.int .i64 tt)) hxr (.slice A L.length c))
  clear HX1 HZ1 HB1 HP1 hxr hfar
  simp only [← hW] at HX HB HO
  simp only [← hW]
  clear hW
  have cg0 : W2.cell? ⟨w.heap.size + 1, 0, none⟩ = some (.string (tx s.1)) := blk_cell HF.out rfl
  have cg1 : W2.cell? ⟨w.heap.size + 1, 1, none⟩ = some (.bool s.2) := blk_cell HF.out rfl
  have hgW := blk_lt HF.out
  have zf := fun j => Lib.frozen_of_heap HZ.out j
  have z0 : W2.cell? ⟨w.heap.size, 0, none⟩ = some (.int .i64 0) := blk_cell HZ.out rfl
  have z1 : W2.cell? ⟨w.heap.size, 1, none⟩ = some (.slice none 0 0) := blk_cell HZ.out rfl
  have z2 : W2.cell? ⟨w.heap.size, 2, none⟩ = some (.int .i64 0) := blk_cell HZ.out rfl
  have z3 : W2.cell? ⟨w.heap.size, 3, none⟩ = some (.int .i64 0) := blk_cell HZ.out rfl
  have z4 : W2.cell? ⟨w.heap.size, 4, none⟩ = some (.int .i64 0) := blk_cell HZ.out rfl
  have z5 : W2.cell? ⟨w.heap.size, 5, none⟩ = some (.int .i64 0) := blk_cell HZ.out rfl
  have z6 : W2.cell? ⟨w.heap.size, 6, none⟩ = some (.int .i64 0) := blk_cell HZ.out rfl
  have z7 : W2.cell? ⟨w.heap.size, 7, none⟩ = some (.slice none 0 0) := blk_cell HZ.out rfl
  have z8 : W2.cell? ⟨w.heap.size, 8, none⟩ = some (.int .i64 0) := blk_cell HZ.out rfl
  have z9 : W2.cell? ⟨w.heap.size, 9, none⟩ = some (.int .i64 0) := blk_cell HZ.out rfl
  have z10 : W2.cell? ⟨w.heap.size, 10, none⟩ = some (.slice none 0 0) := blk_cell HZ.out rfl
  have x0 : W2.cell? ⟨r, 0, none⟩ = some (.int .i64 3) := blk_cell HX.out rfl
  have x1 : W2.cell? ⟨r, 1, none⟩ = some (.slice none 0 0) := blk_cell HX.out rfl
  have x2 : W2.cell? ⟨r, 2, none⟩ = some (.int .i64 0) := blk_cell HX.out rfl
  have x3 : W2.cell? ⟨r, 3, none⟩ = some (.int .i64 0) := blk_cell HX.out rfl
  have x4 : W2.cell? ⟨r, 4, none⟩ = some (.int .i64 0) := blk_cell HX.out rfl
  have x5 : W2.cell? ⟨r, 5, none⟩ = some (.int .i64 0) := blk_cell HX.out rfl
  have x6 : W2.cell? ⟨r, 6, none⟩ = some (.int .i64 0) := blk_cell HX.out rfl
  have x7 : W2.cell? ⟨r, 7, none⟩ = some (.slice none 0 0) := blk_cell HX.out rfl
  have x8 : W2.cell? ⟨r, 8, none⟩ = some (.int .i64 fr) := blk_cell HX.out rfl
  have x9 : W2.cell? ⟨r, 9, none⟩ = some (.int .i64 tt) := blk_cell HX.out rfl
  have x10 : W2.cell? ⟨r, 10, none⟩ = some (.slice A L.length c) := blk_cell HX.out rfl
  rcases Bool.eq_false_or_eq_true s.2 with hb | hb
  · rw [hb] at cg1
    go_wp2_with fail
    refine bodyPost_ret (v := .tuple #[.agg #[.int .i64 0, .slice none 0 0, .int .i64 0, .int .i64 0, .int .i64 0, .int .i64 0, .int .i64 0, .slice none 0 0, .int .i64 0, .int .i64 0, .slice none 0 0], .int .i64 13]) ?_ rfl ?_
    · simp [results, Try.results30, go_sem, z0, z1, z2, z3, z4, z5, z6, z7, z8, z9, z10]
    · exact ⟨_, _, getE1 hb, Lib.hid (by (with_reducible (repeat (refine row_set ?_ hzr _))); exact HO.out), by (with_reducible (repeat (refine set_bel ?_ (Nat.le_refl _)))); exact HB.out⟩
  · rw [hb] at cg1
    rcases Bool.eq_false_or_eq_true s.1.isEmpty with he | he
    · have hne2 := tx_nil he
      go_wp2_with fail
      refine (HR.out W2 A c HO.out).mono ?_
      rintro e w9 ⟨rfl, hbR⟩
      have HZ9 := Lib.hid ((hbR.block _ (blk_lt HZ.out)).trans HZ.out)
      have HX9 := Lib.hid ((hbR.block _ (blk_lt HX.out)).trans HX.out)
      have hsz9 := hbR.size
      have HO9 := Lib.hid (row_bel HO.out hbR)
      have HB9 := Lib.hid (HB.out.trans (hbR.mono HB.out.size))
      clear z0 z1 z2 z3 z4 z5 z6 z7 z8 z9 z10 x0 x1 x2 x3 x4 x5 x6 x7 x8 x9 x10
      clear hbR zf
      have zf := fun j => Lib.frozen_of_heap HZ9.out j
      have z0 : w9.cell? ⟨w.heap.size, 0, none⟩ = some (.int .i64 0) := blk_cell HZ9.out rfl
      have z1 : w9.cell? ⟨w.heap.size, 1, none⟩ = some (.slice none 0 0) := blk_cell HZ9.out rfl
      have z2 : w9.cell? ⟨w.heap.size, 2, none⟩ = some (.int .i64 0) := blk_cell HZ9.out rfl
      have z3 : w9.cell? ⟨w.heap.size, 3, none⟩ = some (.int .i64 0) := blk_cell HZ9.out rfl
      have z4 : w9.cell? ⟨w.heap.size, 4, none⟩ = some (.int .i64 0) := blk_cell HZ9.out rfl
      have z5 : w9.cell? ⟨w.heap.size, 5, none⟩ = some (.int .i64 0) := blk_cell HZ9.out rfl
      have z6 : w9.cell? ⟨w.heap.size, 6, none⟩ = some (.int .i64 0) := blk_cell HZ9.out rfl
      have z7 : w9.cell? ⟨w.heap.size, 7, none⟩ = some (.slice none 0 0) := blk_cell HZ9.out rfl
      have z8 : w9.cell? ⟨w.heap.size, 8, none⟩ = some (.int .i64 0) := blk_cell HZ9.out rfl
      have z9 : w9.cell? ⟨w.heap.size, 9, none⟩ = some (.int .i64 0) := blk_cell HZ9.out rfl
      have z10 : w9.cell? ⟨w.heap.size, 10, none⟩ = some (.slice none 0 0) := blk_cell HZ9.out rfl
      have x0 : w9.cell? ⟨r, 0, none⟩ = some (.int .i64 3) := blk_cell HX9.out rfl
      have x1 : w9.cell? ⟨r, 1, none⟩ = some (.slice none 0 0) := blk_cell HX9.out rfl
      have x2 : w9.cell? ⟨r, 2, none⟩ = some (.int .i64 0) := blk_cell HX9.out rfl
      have x3 : w9.cell? ⟨r, 3, none⟩ = some (.int .i64 0) := blk_cell HX9.out rfl
      have x4 : w9.cell? ⟨r, 4, none⟩ = some (.int .i64 0) := blk_cell HX9.out rfl
      have x5 : w9.cell? ⟨r, 5, none⟩ = some (.int .i64 0) := blk_cell HX9.out rfl
      have x6 : w9.cell? ⟨r, 6, none⟩ = some (.int .i64 0) := blk_cell HX9.out rfl
      have x7 : w9.cell? ⟨r, 7, none⟩ = some (.slice none 0 0) := blk_cell HX9.out rfl
      have x8 : w9.cell? ⟨r, 8, none⟩ = some (.int .i64 fr) := blk_cell HX9.out rfl
      have x9 : w9.cell? ⟨r, 9, none⟩ = some (.int .i64 tt) := blk_cell HX9.out rfl
      have x10 : w9.cell? ⟨r, 10, none⟩ = some (.slice A L.length c) := blk_cell HX9.out rfl
      cases rb
      · skip
        go_wp2_with fail
        refine bodyPost_ret (v := .tuple #[.agg #[.int .i64 0, .slice none 0 0, .int .i64 0, .int .i64 0, .int .i64 0, .int .i64 0, .int .i64 0, .slice none 0 0, .int .i64 0, .int .i64 0, .slice none 0 0], .int .i64 13]) ?_ rfl ?_
        · simp [results, Try.results30, go_sem, z0, z1, z2, z3, z4, z5, z6, z7, z8, z9, z10]
        · exact ⟨_, _, getE3, Lib.hid (by (with_reducible (repeat (refine row_set ?_ hzr _))); exact HO9.out), by (with_reducible (repeat (refine set_bel ?_ (Nat.le_refl _)))); exact HB9.out⟩
      · skip
        go_wp2_with fail
        refine bodyPost_ret (v := .tuple #[.agg #[.int .i64 3, .slice none 0 0, .int .i64 0, .int .i64 0, .int .i64 0, .int .i64 0, .int .i64 0, .slice none 0 0, .int .i64 fr, .int .i64 tt, .slice A L.length c], .int .i64 0]) ?_ rfl ?_
        · simp [results, Try.results30, go_sem, z0, z1, z2, z3, z4, z5, z6, z7, z8, z9, z10, x0, x1, x2, x3, x4, x5, x6, x7, x8, x9, x10]
        · exact ⟨_, _, getE4 hb he, Lib.hid (by (with_reducible (repeat (refine row_set ?_ hzr _))); exact HO9.out), by (with_reducible (repeat (refine set_bel ?_ (Nat.le_refl _)))); exact HB9.out⟩
    · have hne2 := tx_cons he
      go_wp2_with fail
      refine bodyPost_ret (v := .tuple #[.agg #[.int .i64 0, .slice none 0 0, .int .i64 0, .int .i64 0, .int .i64 0, .int .i64 0, .int .i64 0, .slice none 0 0, .int .i64 0, .int .i64 0, .slice none 0 0], .int .i64 13]) ?_ rfl ?_
      · simp [results, Try.results30, go_sem, z0, z1, z2, z3, z4, z5, z6, z7, z8, z9, z10]
      · exact ⟨_, _, getE2 he, Lib.hid (by (with_reducible (repeat (refine row_set ?_ hzr _))); exact HO.out), by (with_reducible (repeat (refine set_bel ?_ (Nat.le_refl _)))); exact HB.out⟩
def numK : Nat → Rst → Rst
  | 0, r => r
  | k + 1, r => (numF (numK k r)).2
def rk (q : Nat → Nat) (k : Nat) : Array Value := #[.int .i64 1, .slice none 0 0, .int .i64 (if 0 < k then q 0 else 0 : Nat), .int .i64 (if 1 < k then q 1 else 0 : Nat), .int .i64 (if 2 < k then q 2 else 0 : Nat), .int .i64 0, .int .i64 (if 3 < k then q 3 else 0 : Nat), .slice none 0 0, .int .i64 0, .int .i64 0, .slice none 0 0]
theorem numK_rest (k : Nat) (r : Rst) : (numK k r).1.length ≤ r.1.length := by
  induction k with
  | zero => exact Nat.le_refl _
  | succ k ih => exact Nat.le_trans (numF_rest _) ih
set_option maxHeartbeats 8000000 in
set_option maxRecDepth 100000 in
theorem get1_any (a0 : ByteArray) (w : World) (hl : a0.data.toList.length ≤ 100000) (hkk : (numF (a0.data.toList, false)).1 = 1) (s0 : Rst) (hs0 : s0 = (numF (a0.data.toList, false)).2)
    (q : Nat → Nat) (hq : ∀ k, q k = (numF (numK k s0)).1) (due : Nat) (hdue : due = (timeF 6 0 (numK 4 s0)).1) (L : List Lab) (s : Rst) (hL : (L, s) = labsF (numF (timeF 6 0 (numK 4 s0)).2).1 [] (numF (timeF 6 0 (numK 4 s0)).2).2) (rb : Bool)
    (HR : ∀ W A c, W.ownsRow w.heap.size 41 2 (.slice A L.length c) L.length (labsC L) → Calls Try.prog 26 #[.agg (recC 1 (.slice A L.length c) (q 0) (q 1) (q 2) due (q 3) (.slice none 0 0) 0 0 (.slice none 0 0))] W fun e w' => e = .returned (.bool rb) ∧ Below W.heap.size W w') :
    Calls Try.prog 30 #[.string a0] w fun e w' => ∃ A c, e = getE s rb (.agg (recC 0 (.slice none 0 0) 0 0 0 0 0 (.slice none 0 0) 0 0 (.slice none 0 0))) (.agg (recC 1 (.slice A L.length c) (q 0) (q 1) (q 2) due (q 3) (.slice none 0 0) 0 0 (.slice none 0 0))) ∧ Hid (w'.ownsRow w.heap.size 41 2 (.slice A L.length c) L.length (labsC L)) ∧ Below w.heap.size w w' := by
  have hl0 : (numF (a0.data.toList, false)).2.1.length ≤ a0.data.toList.length := numF_rest (a0.data.toList, false)
  have HN := Lib.hid fun W (h : FA (w.heap.size + 1) (a0.data.toList, false) W) => number_any (w.heap.size + 1) (a0.data.toList, false) W h hl
  rw [hkk] at HN
  rw [← hs0] at HN hl0
  have HQ := Lib.hid fun (k : Nat) (W : World) (h : FA (w.heap.size + 1) (numK k s0) W) => number_any (w.heap.size + 1) (numK k s0) W h (by have := numK_rest k s0; omega)
  simp only [← hq] at HQ
  have h4 := numK_rest 4 s0
  have HT := Lib.hid fun (W : World) (h : FA (w.heap.size + 1) (numK 4 s0) W) => ftime_any (w.heap.size + 1) (numK 4 s0) W h (by omega)
  rw [← hdue] at HT
  have h5 := timeF_rest 6 0 (numK 4 s0)
  have HL := Lib.hid fun W (h : FA (w.heap.size + 1) (timeF 6 0 (numK 4 s0)).2 W) => flabels_any (w.heap.size + 1) (timeF 6 0 (numK 4 s0)).2 W h (by omega)
  rw [← hL] at HL
  obtain ⟨s5, hs5⟩ : ∃ q, q = (timeF 6 0 (numK 4 s0)).2 := ⟨_, rfl⟩
  rw [← hs5] at HT HL
  have HR := Lib.hid HR
  clear hkk hL hdue hq h4 h5 hs5
  unfold recC at *
  clear hs0
  go_enter Try.func30, Try.ntmps30
  go_wp2_with fail
  refine (HN.out _ ?_).mono ?_
  case refine_1 =>
    have := blk_new (w.alloc (.cells (recC 0 (.slice none 0 0) 0 0 0 0 0 (.slice none 0 0) 0 0 (.slice none 0 0)) 50)) (.cells #[.string a0, .bool false] 81)
    rw [size_alloc] at this
    unfold FA
    rw [tx_of]
    exact this
  rintro e w1 ⟨rfl, hp⟩
  have hZ := hp.stay (blk_new1 w (.cells (recC 0 (.slice none 0 0) 0 0 0 0 0 (.slice none 0 0) 0 0 (.slice none 0 0)) 50) (.cells #[.string a0, .bool false] 81)) (by omega)
  have hsz1 := hp.2.size
  simp only [size_alloc] at hsz1
  have HP1 := Lib.hid hp
  have HZ := Lib.hid hZ
  clear hp hZ HN
  have hbw : Below w.heap.size w w1 := ⟨HP1.out.2.os, HP1.out.2.tape, HP1.out.2.output, by omega, fun i hi => (HP1.out.2.block i (by simp only [size_alloc]; omega) (by simp; omega)).trans ((Lib.alloc_old _ _ _ (by rw [size_alloc]; omega)).trans (Lib.alloc_old _ _ _ hi))⟩
  have HX := Lib.hid (blk_new w1 (.cells (recC 1 (.slice none 0 0) 0 0 0 0 0 (.slice none 0 0) 0 0 (.slice none 0 0)) 50))
  have hZ := (Lib.alloc_old w1 (.cells (recC 1 (.slice none 0 0) 0 0 0 0 0 (.slice none 0 0) 0 0 (.slice none 0 0)) 50) _ (blk_lt HZ.out)).trans HZ.out
  have HF := Lib.hid (HP1.out.1.far (World.grownBy_alloc w1 (.cells (recC 1 (.slice none 0 0) 0 0 0 0 0 (.slice none 0 0) 0 0 (.slice none 0 0)) 50) none) (by simp))
  have HB := Lib.hid (hbw.alloc (by omega) (.cells (recC 1 (.slice none 0 0) 0 0 0 0 0 (.slice none 0 0) 0 0 (.slice none 0 0)) 50))
  clear HZ hbw
  have HZ := Lib.hid hZ
  unfold recC at *
  clear hZ HP1
  go_upto_region 4 with fail
  refine name_world (fun W hW => ?_)
  rw [← hW] at HX HZ HF HB
  clear hW
  obtain ⟨r, hr⟩ : ∃ r, r = w1.heap.size := ⟨_, rfl⟩
  simp only [← hr]
  rw [← hr] at HX hsz1
  clear hr
  go_wp2_with fail
  go_region_law (fail)
  go_simp
  go_wp2_with fail
  have hPP := blk_new W (.cells #[.pointer (some ⟨r, 2, none⟩), .pointer (some ⟨r, 3, none⟩), .pointer (some ⟨r, 4, none⟩), .pointer (some ⟨r, 6, none⟩)] 84)
  have hX := (Lib.alloc_old W (.cells #[.pointer (some ⟨r, 2, none⟩), .pointer (some ⟨r, 3, none⟩), .pointer (some ⟨r, 4, none⟩), .pointer (some ⟨r, 6, none⟩)] 84) r (blk_lt HX.out)).trans HX.out
  have hZ := (Lib.alloc_old W (.cells #[.pointer (some ⟨r, 2, none⟩), .pointer (some ⟨r, 3, none⟩), .pointer (some ⟨r, 4, none⟩), .pointer (some ⟨r, 6, none⟩)] 84) w.heap.size (blk_lt HZ.out)).trans HZ.out
  have hF := HF.out.far (World.grownBy_alloc W (.cells #[.pointer (some ⟨r, 2, none⟩), .pointer (some ⟨r, 3, none⟩), .pointer (some ⟨r, 4, none⟩), .pointer (some ⟨r, 6, none⟩)] 84) none) (fun _ e => nomatch e)
  have hB := (HB.out.alloc HB.out.size (.cells #[.pointer (some ⟨r, 2, none⟩), .pointer (some ⟨r, 3, none⟩), .pointer (some ⟨r, 4, none⟩), .pointer (some ⟨r, 6, none⟩)] 84)).drew
  have hgp := blk_lt HF.out
  have hrp := blk_lt HX.out
  refine name_world (fun W3 hW3 => ?_)
  have HPP := Lib.hid (show W3.heap[W.heap.size]? = some (.cells #[.pointer (some ⟨r, 2, none⟩), .pointer (some ⟨r, 3, none⟩), .pointer (some ⟨r, 4, none⟩), .pointer (some ⟨r, 6, none⟩)] 84 (0, 0)) by rw [hW3]; exact hPP)
  have HX3 := Lib.hid (show W3.heap[r]? = some (.cells (rk q 0) 50 (0, 0)) by rw [hW3]; exact hX)
  have HZ3 := Lib.hid (show W3.heap[w.heap.size]? = some (.cells (#[.int .i64 0, .slice none 0 0, .int .i64 0, .int .i64 0, .int .i64 0, .int .i64 0, .int .i64 0, .slice none 0 0, .int .i64 0, .int .i64 0, .slice none 0 0]) 50 (0, 0)) by rw [hW3]; exact hZ)
  have HF3 := Lib.hid (show FA (w.heap.size + 1) (numK 0 s0) W3 by rw [hW3]; exact hF)
  have HB3 := Lib.hid (show Below w.heap.size w W3 by rw [hW3]; exact hB)
  obtain ⟨p, hp⟩ : ∃ p, p = W.heap.size := ⟨_, rfl⟩
  rw [← hp] at HPP hgp hrp
  simp only [← hp]
  clear hp hW3 hPP hX hZ hF hB HX HZ HF HB
  go_loopw [35] (fun i wr => ∃ k : Nat, k ≤ 4 ∧ i = .int .i64 k ∧ Hid (wr.heap[p]? = some (.cells #[.pointer (some ⟨r, 2, none⟩), .pointer (some ⟨r, 3, none⟩), .pointer (some ⟨r, 4, none⟩), .pointer (some ⟨r, 6, none⟩)] 84 (0, 0))) ∧ Hid (wr.heap[r]? = some (.cells (rk q k) 50 (0, 0))) ∧ Hid (wr.heap[w.heap.size]? = some (.cells (#[.int .i64 0, .slice none 0 0, .int .i64 0, .int .i64 0, .int .i64 0, .int .i64 0, .int .i64 0, .slice none 0 0, .int .i64 0, .int .i64 0, .slice none 0 0]) 50 (0, 0))) ∧ Hid (FA (w.heap.size + 1) (numK k s0) wr) ∧ Hid (Below w.heap.size w wr)) (fun i _ => 4 - (intOf i).toNat)
  case atStart => exact ⟨0, by omega, rfl, HPP, HX3, HZ3, HF3, HB3⟩
  case round =>
    obtain ⟨k, hk, rfl, HPP, HX, HZ, HF, HB⟩ := hrel
    clear HX3 HZ3 HF3 HB3
    by_cases hlt : k < 4
    · have hN := HQ.out k wr HF.out
      obtain rfl | rfl | rfl | rfl : k = 0 ∨ k = 1 ∨ k = 2 ∨ k = 3 := by omega
      · have p0 : wr.cell? ⟨p, 0, none⟩ = some (.pointer (some ⟨r, 2, none⟩)) := blk_cell HPP.out rfl
        go_wp2_with fail
        refine hN.mono ?_
        rintro e w2 ⟨rfl, hp⟩
        have hX := hp.stay HX.out (by omega)
        have hP2 := hp.stay HPP.out (by omega)
        have hZ := hp.stay HZ.out (by omega)
        have x0 := blk_cell hX (j := 2) rfl
        have xf := Lib.frozen_of_heap hX 2
        have hB := HB.out.grown hp.2 HB.out.size (fun k e => by obtain rfl := Option.some.inj e; omega)
        have HX2 := Lib.hid hX
        have HP2 := Lib.hid hP2
        have HZ2 := Lib.hid hZ
        have HB2 := Lib.hid hB
        have HF2 := Lib.hid hp.1
        clear hX hP2 hZ hB hp HX HPP HZ HF HB hN
        go_wp2_with fail
        have hfar : ∀ b, b ≠ r → (w2.setCell ⟨r, 2, none⟩ (.int .i64 (q 0))).heap[b]? = w2.heap[b]? := fun b hb => Below.heap_setCell _ ⟨r, 2, none⟩ _ b hb
        refine ⟨⟨0 + 1, by omega, by go_num, Lib.hid ((hfar p (by omega)).trans HP2.out), Lib.hid (set_heap (j := 2) HX2.out (.int .i64 (q 0))), Lib.hid ((hfar w.heap.size (by omega)).trans HZ2.out), Lib.hid ((hfar (w.heap.size + 1) (by omega)).trans HF2.out), Lib.hid (set_bel HB2.out (by omega))⟩, by simp [intOf]⟩
      · have p0 : wr.cell? ⟨p, 1, none⟩ = some (.pointer (some ⟨r, 3, none⟩)) := blk_cell HPP.out rfl
        go_wp2_with fail
        refine hN.mono ?_
        rintro e w2 ⟨rfl, hp⟩
        have hX := hp.stay HX.out (by omega)
        have hP2 := hp.stay HPP.out (by omega)
        have hZ := hp.stay HZ.out (by omega)
        have x0 := blk_cell hX (j := 3) rfl
        have xf := Lib.frozen_of_heap hX 3
        have hB := HB.out.grown hp.2 HB.out.size (fun k e => by obtain rfl := Option.some.inj e; omega)
        have HX2 := Lib.hid hX
        have HP2 := Lib.hid hP2
        have HZ2 := Lib.hid hZ
        have HB2 := Lib.hid hB
        have HF2 := Lib.hid hp.1
        clear hX hP2 hZ hB hp HX HPP HZ HF HB hN
        go_wp2_with fail
        have hfar : ∀ b, b ≠ r → (w2.setCell ⟨r, 3, none⟩ (.int .i64 (q 1))).heap[b]? = w2.heap[b]? := fun b hb => Below.heap_setCell _ ⟨r, 3, none⟩ _ b hb
        refine ⟨⟨1 + 1, by omega, by go_num, Lib.hid ((hfar p (by omega)).trans HP2.out), Lib.hid (set_heap (j := 3) HX2.out (.int .i64 (q 1))), Lib.hid ((hfar w.heap.size (by omega)).trans HZ2.out), Lib.hid ((hfar (w.heap.size + 1) (by omega)).trans HF2.out), Lib.hid (set_bel HB2.out (by omega))⟩, by simp [intOf]⟩
      · have p0 : wr.cell? ⟨p, 2, none⟩ = some (.pointer (some ⟨r, 4, none⟩)) := blk_cell HPP.out rfl
        go_wp2_with fail
        refine hN.mono ?_
        rintro e w2 ⟨rfl, hp⟩
        have hX := hp.stay HX.out (by omega)
        have hP2 := hp.stay HPP.out (by omega)
        have hZ := hp.stay HZ.out (by omega)
        have x0 := blk_cell hX (j := 4) rfl
        have xf := Lib.frozen_of_heap hX 4
        have hB := HB.out.grown hp.2 HB.out.size (fun k e => by obtain rfl := Option.some.inj e; omega)
        have HX2 := Lib.hid hX
        have HP2 := Lib.hid hP2
        have HZ2 := Lib.hid hZ
        have HB2 := Lib.hid hB
        have HF2 := Lib.hid hp.1
        clear hX hP2 hZ hB hp HX HPP HZ HF HB hN
        go_wp2_with fail
        have hfar : ∀ b, b ≠ r → (w2.setCell ⟨r, 4, none⟩ (.int .i64 (q 2))).heap[b]? = w2.heap[b]? := fun b hb => Below.heap_setCell _ ⟨r, 4, none⟩ _ b hb
        refine ⟨⟨2 + 1, by omega, by go_num, Lib.hid ((hfar p (by omega)).trans HP2.out), Lib.hid (set_heap (j := 4) HX2.out (.int .i64 (q 2))), Lib.hid ((hfar w.heap.size (by omega)).trans HZ2.out), Lib.hid ((hfar (w.heap.size + 1) (by omega)).trans HF2.out), Lib.hid (set_bel HB2.out (by omega))⟩, by simp [intOf]⟩
      · have p0 : wr.cell? ⟨p, 3, none⟩ = some (.pointer (some ⟨r, 6, none⟩)) := blk_cell HPP.out rfl
        go_wp2_with fail
        refine hN.mono ?_
        rintro e w2 ⟨rfl, hp⟩
        have hX := hp.stay HX.out (by omega)
        have hP2 := hp.stay HPP.out (by omega)
        have hZ := hp.stay HZ.out (by omega)
        have x0 := blk_cell hX (j := 6) rfl
        have xf := Lib.frozen_of_heap hX 6
        have hB := HB.out.grown hp.2 HB.out.size (fun k e => by obtain rfl := Option.some.inj e; omega)
        have HX2 := Lib.hid hX
        have HP2 := Lib.hid hP2
        have HZ2 := Lib.hid hZ
        have HB2 := Lib.hid hB
        have HF2 := Lib.hid hp.1
        clear hX hP2 hZ hB hp HX HPP HZ HF HB hN
        go_wp2_with fail
        have hfar : ∀ b, b ≠ r → (w2.setCell ⟨r, 6, none⟩ (.int .i64 (q 3))).heap[b]? = w2.heap[b]? := fun b hb => Below.heap_setCell _ ⟨r, 6, none⟩ _ b hb
        refine ⟨⟨3 + 1, by omega, by go_num, Lib.hid ((hfar p (by omega)).trans HP2.out), Lib.hid (set_heap (j := 6) HX2.out (.int .i64 (q 3))), Lib.hid ((hfar w.heap.size (by omega)).trans HZ2.out), Lib.hid ((hfar (w.heap.size + 1) (by omega)).trans HF2.out), Lib.hid (set_bel HB2.out (by omega))⟩, by simp [intOf]⟩
    · obtain rfl : k = 4 := by omega
      clear HQ hlt hk HPP hgp hrp
      have HX0 := Lib.hid (show wr.heap[r]? = some (.cells #[.int .i64 1, .slice none 0 0, .int .i64 (q 0), .int .i64 (q 1), .int .i64 (q 2), .int .i64 0, .int .i64 (q 3), .slice none 0 0, .int .i64 0, .int .i64 0, .slice none 0 0] 50 (0, 0)) from HX.out)
      clear HX
      go_wp2_with fail
      refine (HT.out wr HF.out).mono ?_
      rintro e w4 ⟨rfl, hp⟩
      have hX := hp.stay HX0.out (by omega)
      have hZ := hp.stay HZ.out (by omega)
      have x5 := blk_cell hX (j := 5) rfl
      have xf := Lib.frozen_of_heap hX 5
      have hB := HB.out.grown hp.2 HB.out.size (fun k e => by obtain rfl := Option.some.inj e; omega)
      have HX1 := Lib.hid (set_heap (j := 5) hX (.int .i64 due))
      obtain ⟨W5, hW5⟩ : ∃ z, z = w4.setCell ⟨r, 5, none⟩ (.int .i64 due) := ⟨_, rfl⟩
      have hfar : ∀ b, b ≠ r → W5.heap[b]? = w4.heap[b]? := fun b hb => by rw [hW5]; exact Below.heap_setCell _ ⟨r, 5, none⟩ _ b hb
      have HZ1 := Lib.hid ((hfar w.heap.size (by omega)).trans hZ)
      have HF1 := Lib.hid (show FA (w.heap.size + 1) s5 W5 from (hfar (w.heap.size + 1) (by omega)).trans hp.1)
      have HB1 := Lib.hid (set_bel (j := 5) (u := .int .i64 due) hB (show w.heap.size ≤ r by omega))
      rw [← hW5] at HX1 HB1
      have HH5 := Lib.hid hW5
      clear hX hZ hB hp HX0 HZ HF HB HT hfar hW5
      go_wp2_with fail
      rw [← HH5.out]
      clear HH5
      refine (HL.out W5 HF1.out).mono ?_
      rintro e W1 ⟨v, rfl, HO, hp⟩
      have HO := Lib.hid (row_mono HO.out HB1.out.size)
      have hZ := hp.stay HZ1.out (by omega)
      have hX := hp.stay HX1.out (by omega)
      have hzr := row_type HO.out hZ (by decide)
      have hxr := row_type HO.out hX (by decide)
      have hB := HB1.out.grown hp.2 HB1.out.size (fun k e => by obtain rfl := Option.some.inj e; omega)
      have xf := Lib.frozen_of_heap hX 1
      have x1 := blk_cell hX (j := 1) rfl
      obtain ⟨A, c, rfl⟩ := row_form HO.out
      have HX6 := Lib.hid hX
      have HZ6 := Lib.hid hZ
      have HB6 := Lib.hid hB
      have HP6 := Lib.hid hp
      clear hX hZ hB hp HX1 HZ1 HB1 HF1
      clear x5
      go_upto_region 17 with fail
      have HX := Lib.hid (show (W1.setCell ⟨r, 1, none⟩ (.slice A L.length c)).heap[r]? = some (.cells #[.int .i64 1, .slice A L.length c, .int .i64 (q 0), .int .i64 (q 1), .int .i64 (q 2), .int .i64 due, .int .i64 (q 3), .slice none 0 0, .int .i64 0, .int .i64 0, .slice none 0 0] 50 (0, 0)) from set_heap (j := 1) HX6.out (.slice A L.length c))
      have HZ := Lib.hid ((Below.heap_setCell W1 ⟨r, 1, none⟩ (.slice A L.length c) w.heap.size (fun e => by have : w.heap.size = r := e; omega)).trans HZ6.out)
      have HF := Lib.hid (show FA (w.heap.size + 1) s (W1.setCell ⟨r, 1, none⟩ (.slice A L.length c)) from (Below.heap_setCell W1 ⟨r, 1, none⟩ (.slice A L.length c) (w.heap.size + 1) (fun e => by have : w.heap.size + 1 = r := e; omega)).trans HP6.out.1)
      have HB := Lib.hid (set_bel (j := 1) (u := .slice A L.length c) HB6.out (show w.heap.size ≤ r by omega))
      have HO := Lib.hid (row_set (j := 1) HO.out hxr (.slice A L.length c))
      clear HX6 HZ6 HB6 HP6 hxr
      refine name_world (fun W2 hW => ?_)
      rw [← hW] at HX HZ HF HB HO
      clear hW
      have cg0 : W2.cell? ⟨w.heap.size + 1, 0, none⟩ = some (.string (tx s.1)) := blk_cell HF.out rfl
      have cg1 : W2.cell? ⟨w.heap.size + 1, 1, none⟩ = some (.bool s.2) := blk_cell HF.out rfl
      have hgW := blk_lt HF.out
      have zf := fun j => Lib.frozen_of_heap HZ.out j
      have z0 : W2.cell? ⟨w.heap.size, 0, none⟩ = some (.int .i64 0) := blk_cell HZ.out rfl
      have z1 : W2.cell? ⟨w.heap.size, 1, none⟩ = some (.slice none 0 0) := blk_cell HZ.out rfl
      have z2 : W2.cell? ⟨w.heap.size, 2, none⟩ = some (.int .i64 0) := blk_cell HZ.out rfl
      have z3 : W2.cell? ⟨w.heap.size, 3, none⟩ = some (.int .i64 0) := blk_cell HZ.out rfl
      have z4 : W2.cell? ⟨w.heap.size, 4, none⟩ = some (.int .i64 0) := blk_cell HZ.out rfl
      have z5 : W2.cell? ⟨w.heap.size, 5, none⟩ = some (.int .i64 0) := blk_cell HZ.out rfl
      have z6 : W2.cell? ⟨w.heap.size, 6, none⟩ = some (.int .i64 0) := blk_cell HZ.out rfl
      have z7 : W2.cell? ⟨w.heap.size, 7, none⟩ = some (.slice none 0 0) := blk_cell HZ.out rfl
      have z8 : W2.cell? ⟨w.heap.size, 8, none⟩ = some (.int .i64 0) := blk_cell HZ.out rfl
      have z9 : W2.cell? ⟨w.heap.size, 9, none⟩ = some (.int .i64 0) := blk_cell HZ.out rfl
      have z10 : W2.cell? ⟨w.heap.size, 10, none⟩ = some (.slice none 0 0) := blk_cell HZ.out rfl
      have x0 : W2.cell? ⟨r, 0, none⟩ = some (.int .i64 1) := blk_cell HX.out rfl
      have x1 : W2.cell? ⟨r, 1, none⟩ = some (.slice A L.length c) := blk_cell HX.out rfl
      have x2 : W2.cell? ⟨r, 2, none⟩ = some (.int .i64 (q 0)) := blk_cell HX.out rfl
      have x3 : W2.cell? ⟨r, 3, none⟩ = some (.int .i64 (q 1)) := blk_cell HX.out rfl
      have x4 : W2.cell? ⟨r, 4, none⟩ = some (.int .i64 (q 2)) := blk_cell HX.out rfl
      have x5 : W2.cell? ⟨r, 5, none⟩ = some (.int .i64 due) := blk_cell HX.out rfl
      have x6 : W2.cell? ⟨r, 6, none⟩ = some (.int .i64 (q 3)) := blk_cell HX.out rfl
      have x7 : W2.cell? ⟨r, 7, none⟩ = some (.slice none 0 0) := blk_cell HX.out rfl
      have x8 : W2.cell? ⟨r, 8, none⟩ = some (.int .i64 0) := blk_cell HX.out rfl
      have x9 : W2.cell? ⟨r, 9, none⟩ = some (.int .i64 0) := blk_cell HX.out rfl
      have x10 : W2.cell? ⟨r, 10, none⟩ = some (.slice none 0 0) := blk_cell HX.out rfl
      rcases Bool.eq_false_or_eq_true s.2 with hb | hb
      · rw [hb] at cg1
        go_wp2_with fail
        refine bodyPost_ret (v := .tuple #[.agg #[.int .i64 0, .slice none 0 0, .int .i64 0, .int .i64 0, .int .i64 0, .int .i64 0, .int .i64 0, .slice none 0 0, .int .i64 0, .int .i64 0, .slice none 0 0], .int .i64 13]) ?_ rfl ?_
        · simp [results, Try.results30, go_sem, z0, z1, z2, z3, z4, z5, z6, z7, z8, z9, z10]
        · exact ⟨_, _, getE1 hb, Lib.hid (by (with_reducible (repeat (refine row_set ?_ hzr _))); exact HO.out), by (with_reducible (repeat (refine set_bel ?_ (Nat.le_refl _)))); exact HB.out⟩
      · rw [hb] at cg1
        rcases Bool.eq_false_or_eq_true s.1.isEmpty with he | he
        · have hne2 := tx_nil he
          go_wp2_with fail
          refine (HR.out W2 A c HO.out).mono ?_
          rintro e w9 ⟨rfl, hbR⟩
          have HZ9 := Lib.hid ((hbR.block _ (blk_lt HZ.out)).trans HZ.out)
          have HX9 := Lib.hid ((hbR.block _ (blk_lt HX.out)).trans HX.out)
          have hsz9 := hbR.size
          have HO9 := Lib.hid (row_bel HO.out hbR)
          have HB9 := Lib.hid (HB.out.trans (hbR.mono HB.out.size))
          clear z0 z1 z2 z3 z4 z5 z6 z7 z8 z9 z10 x0 x1 x2 x3 x4 x5 x6 x7 x8 x9 x10
          clear hbR zf
          have zf := fun j => Lib.frozen_of_heap HZ9.out j
          have z0 : w9.cell? ⟨w.heap.size, 0, none⟩ = some (.int .i64 0) := blk_cell HZ9.out rfl
          have z1 : w9.cell? ⟨w.heap.size, 1, none⟩ = some (.slice none 0 0) := blk_cell HZ9.out rfl
          have z2 : w9.cell? ⟨w.heap.size, 2, none⟩ = some (.int .i64 0) := blk_cell HZ9.out rfl
          have z3 : w9.cell? ⟨w.heap.size, 3, none⟩ = some (.int .i64 0) := blk_cell HZ9.out rfl
          have z4 : w9.cell? ⟨w.heap.size, 4, none⟩ = some (.int .i64 0) := blk_cell HZ9.out rfl
          have z5 : w9.cell? ⟨w.heap.size, 5, none⟩ = some (.int .i64 0) := blk_cell HZ9.out rfl
          have z6 : w9.cell? ⟨w.heap.size, 6, none⟩ = some (.int .i64 0) := blk_cell HZ9.out rfl
          have z7 : w9.cell? ⟨w.heap.size, 7, none⟩ = some (.slice none 0 0) := blk_cell HZ9.out rfl
          have z8 : w9.cell? ⟨w.heap.size, 8, none⟩ = some (.int .i64 0) := blk_cell HZ9.out rfl
          have z9 : w9.cell? ⟨w.heap.size, 9, none⟩ = some (.int .i64 0) := blk_cell HZ9.out rfl
          have z10 : w9.cell? ⟨w.heap.size, 10, none⟩ = some (.slice none 0 0) := blk_cell HZ9.out rfl
          have x0 : w9.cell? ⟨r, 0, none⟩ = some (.int .i64 1) := blk_cell HX9.out rfl
          have x1 : w9.cell? ⟨r, 1, none⟩ = some (.slice A L.length c) := blk_cell HX9.out rfl
          have x2 : w9.cell? ⟨r, 2, none⟩ = some (.int .i64 (q 0)) := blk_cell HX9.out rfl
          have x3 : w9.cell? ⟨r, 3, none⟩ = some (.int .i64 (q 1)) := blk_cell HX9.out rfl
          have x4 : w9.cell? ⟨r, 4, none⟩ = some (.int .i64 (q 2)) := blk_cell HX9.out rfl
          have x5 : w9.cell? ⟨r, 5, none⟩ = some (.int .i64 due) := blk_cell HX9.out rfl
          have x6 : w9.cell? ⟨r, 6, none⟩ = some (.int .i64 (q 3)) := blk_cell HX9.out rfl
          have x7 : w9.cell? ⟨r, 7, none⟩ = some (.slice none 0 0) := blk_cell HX9.out rfl
          have x8 : w9.cell? ⟨r, 8, none⟩ = some (.int .i64 0) := blk_cell HX9.out rfl
          have x9 : w9.cell? ⟨r, 9, none⟩ = some (.int .i64 0) := blk_cell HX9.out rfl
          have x10 : w9.cell? ⟨r, 10, none⟩ = some (.slice none 0 0) := blk_cell HX9.out rfl
          cases rb
          · skip
            go_wp2_with fail
            refine bodyPost_ret (v := .tuple #[.agg #[.int .i64 0, .slice none 0 0, .int .i64 0, .int .i64 0, .int .i64 0, .int .i64 0, .int .i64 0, .slice none 0 0, .int .i64 0, .int .i64 0, .slice none 0 0], .int .i64 13]) ?_ rfl ?_
            · simp [results, Try.results30, go_sem, z0, z1, z2, z3, z4, z5, z6, z7, z8, z9, z10]
            · exact ⟨_, _, getE3, Lib.hid (by (with_reducible (repeat (refine row_set ?_ hzr _))); exact HO9.out), by (with_reducible (repeat (refine set_bel ?_ (Nat.le_refl _)))); exact HB9.out⟩
          · skip
            go_wp2_with fail
            refine bodyPost_ret (v := .tuple #[.agg #[.int .i64 1, .slice A L.length c, .int .i64 (q 0), .int .i64 (q 1), .int .i64 (q 2), .int .i64 due, .int .i64 (q 3), .slice none 0 0, .int .i64 0, .int .i64 0, .slice none 0 0], .int .i64 0]) ?_ rfl ?_
            · simp [results, Try.results30, go_sem, z0, z1, z2, z3, z4, z5, z6, z7, z8, z9, z10, x0, x1, x2, x3, x4, x5, x6, x7, x8, x9, x10]
            · exact ⟨_, _, getE4 hb he, Lib.hid (by (with_reducible (repeat (refine row_set ?_ hzr _))); exact HO9.out), by (with_reducible (repeat (refine set_bel ?_ (Nat.le_refl _)))); exact HB9.out⟩
        · have hne2 := tx_cons he
          go_wp2_with fail
          refine bodyPost_ret (v := .tuple #[.agg #[.int .i64 0, .slice none 0 0, .int .i64 0, .int .i64 0, .int .i64 0, .int .i64 0, .int .i64 0, .slice none 0 0, .int .i64 0, .int .i64 0, .slice none 0 0], .int .i64 13]) ?_ rfl ?_
          · simp [results, Try.results30, go_sem, z0, z1, z2, z3, z4, z5, z6, z7, z8, z9, z10]
          · exact ⟨_, _, getE2 he, Lib.hid (by (with_reducible (repeat (refine row_set ?_ hzr _))); exact HO.out), by (with_reducible (repeat (refine set_bel ?_ (Nat.le_refl _)))); exact HB.out⟩
end
end Go.Proofs.Ytndgollcganhmaa
namespace Go.Proofs.YtndgollcganhmaaQ.P
open Go.RowKit Go.Proofs.YtndgollcganhmaaW.PrintWords Go.Proofs.Ytndgollcganhmaa
structure Rc where
  k : Int
  l1 : List Lab
  rt : Int
  pl : Int
  tr : Int
  due : Int
  st : Int
  l7 : List Lab
  fr : Int
  tt : Int
  l10 : List Mat
def Rc.zero : Rc := ⟨0, [], 0, 0, 0, 0, 0, [], 0, 0, []⟩
def getP (l : List UInt8) : Rc × Rst :=
  let r0 : Rst := (l, false)
  let k := (numF r0).1
  let s := (numF r0).2
  if k = 1 then
    let t := timeF 6 0 (numK 4 s)
    let g := labsF (numF t.2).1 [] (numF t.2).2
    (⟨1, g.1, (numF (numK 0 s)).1, (numF (numK 1 s)).1, (numF (numK 2 s)).1, t.1, (numF (numK 3 s)).1, [], 0, 0, []⟩, g.2)
  else if k = 2 then
    let g := labsF (numF s).1 [] (numF s).2
    (⟨2, [], 0, 0, 0, 0, 0, g.1, 0, 0, []⟩, g.2)
  else if k = 3 then
    let t := timeF 6 0 s
    let u := timeF 6 0 t.2
    let g := matsF (numF u.2).1 [] (numF u.2).2
    (⟨3, [], 0, 0, 0, 0, 0, [], t.1, u.1, g.1⟩, g.2)
  else (⟨k, [], 0, 0, 0, 0, 0, [], 0, 0, []⟩, s)
def Rc.right (r : Rc) : Option Bool := code_Right.f r.k (r.l1.map ofLab) r.rt r.pl r.tr r.due r.st (r.l7.map ofLab) r.fr r.tt (r.l10.map ofMat)
def code_Get.f (a0 : ByteArray) : Option (Int × (List (S41)) × Int × Int × Int × Int × Int × (List (S41)) × Int × Int × (List (S35)) × Int) :=
  if a0.size ≤ 100000 then
    match (getP a0.data.toList).1.right with
    | some b =>
      if ((getP a0.data.toList).2.2 || !(getP a0.data.toList).2.1.isEmpty || !b) = true then some (0, [], 0, 0, 0, 0, 0, [], 0, 0, [], 13)
      else
        let r := (getP a0.data.toList).1
        some (r.k, r.l1.map ofLab, r.rt, r.pl, r.tr, r.due, r.st, r.l7.map ofLab, r.fr, r.tt, r.l10.map ofMat, 0)
    | none => none
  else none
theorem mats_r {w : World} {B : Nat} {v : Value} {xs : List Mat} (h : w.ownsRow B 35 3 v xs.length (matsC xs)) : Kd.R k35 35 w B (fun _ => True) v (xs.map ofMat) :=
  R_of_own (g := ofMat) (en := matC) (fun w b ok y => k35_mkM w b ok (ofMat y)) (fun _ => rfl) h
theorem R_nilC {α : Type} {d : Kd α} {w : World} : d.C w none 0 [] := by
  obtain ⟨A, c, h1, _, h2⟩ := Kd.R_reads (Kd.R_nil d 0 w 0 (fun _ => True))
  simp at h1
  obtain ⟨rfl, _⟩ := h1
  exact h2
theorem labs_own {w : World} {B c : Nat} {A : Option Addr} {xs : List Lab} (h : w.ownsRow B 41 2 (.slice A xs.length c) xs.length (labsC xs)) : Kd.C k41 w A (xs.map ofLab).length (xs.map ofLab) ∧ (xs.map ofLab).length ≤ c := by
  obtain ⟨h1, h2, h3⟩ := Kd.R_reads' (labs_r h)
  exact ⟨h3, by rw [← h1]; exact h2⟩
theorem mats_own {w : World} {B c : Nat} {A : Option Addr} {xs : List Mat} (h : w.ownsRow B 35 3 (.slice A xs.length c) xs.length (matsC xs)) : Kd.C k35 w A (xs.map ofMat).length (xs.map ofMat) ∧ (xs.map ofMat).length ≤ c := by
  obtain ⟨h1, h2, h3⟩ := Kd.R_reads' (mats_r h)
  exact ⟨h3, by rw [← h1]; exact h2⟩
def Rc.val (r : Rc) (v1 v7 v10 : Value) : Value := .agg (recC r.k v1 r.rt r.pl r.tr r.due r.st v7 r.fr r.tt v10)
def Rc.own (r : Rc) (w : World) (B : Nat) (v1 v7 v10 : Value) : Prop :=
  Kd.R k41 41 w B (fun k_ => some k_ ≠ (v7 : Value).ownBlock) v1 (r.l1.map ofLab) ∧ Kd.R k41 41 w B (fun k_ => some k_ ≠ (v1 : Value).ownBlock) v7 (r.l7.map ofLab) ∧ Kd.R k35 35 w B (fun _ => True) v10 (r.l10.map ofMat)
theorem nil_block {k : Nat} : some k ≠ (Value.slice none 0 0).ownBlock := by simp [Value.ownBlock]
set_option maxHeartbeats 1000000 in
theorem get_core (a0 : ByteArray) (b : Bool) (w : World) (hl : a0.size ≤ 100000) (hb : (getP a0.data.toList).1.right = some b) :
    Calls Try.prog 30 #[.string a0] w fun e w' => ∃ v1 v7 v10 : Value, e = getE (getP a0.data.toList).2 b (Rc.zero.val (.slice none 0 0) (.slice none 0 0) (.slice none 0 0)) ((getP a0.data.toList).1.val v1 v7 v10) ∧ (getP a0.data.toList).1.own w' w.heap.size v1 v7 v10 ∧ Below w.heap.size w w' := by
  have hl' : a0.data.toList.length ≤ 100000 := by rw [len_data]; exact hl
  unfold getP at hb ⊢
  by_cases h1 : (numF (a0.data.toList, false)).1 = 1
  · simp only [h1, if_true] at hb ⊢
    have H := get1_any a0 w hl' h1 _ rfl (fun k => (numF (numK k (numF (a0.data.toList, false)).2)).1) (fun _ => rfl) _ rfl _ _ rfl b (fun W A c ho => by
      have hc := labs_own ho
      have := code_Right.calls 1 A c _ _ _ _ _ _ none 0 [] 0 0 none 0 [] b W hc.1 hc.2 R_nilC (Nat.le_refl _) R_nilC (Nat.le_refl _) hb
      rw [List.length_map] at this
      exact this)
    refine H.mono ?_
    rintro e w' ⟨A, c, he, ho, hbw⟩
    exact ⟨_, _, _, he, ⟨Kd.R_mono (labs_r ho.out) (fun _ _ => nil_block), Kd.R_nil _ _ _ _ _, Kd.R_nil _ _ _ _ _⟩, hbw⟩
  · by_cases h2 : (numF (a0.data.toList, false)).1 = 2
    · rw [if_neg h1, if_pos h2] at hb ⊢
      have H := get2_any a0 w hl' h2 b (fun W A c ho => by
        have hc := labs_own ho
        have := code_Right.calls 2 none 0 [] _ _ _ _ _ A c _ _ _ none 0 [] b W R_nilC (Nat.le_refl _) hc.1 hc.2 R_nilC (Nat.le_refl _) hb
        rw [List.length_map] at this
        exact this)
      refine H.mono ?_
      rintro e w' ⟨A, c, he, ho, hbw⟩
      exact ⟨_, _, _, he, ⟨Kd.R_nil _ _ _ _ _, Kd.R_mono (labs_r ho.out) (fun _ _ => nil_block), Kd.R_nil _ _ _ _ _⟩, hbw⟩
    · by_cases h3 : (numF (a0.data.toList, false)).1 = 3
      · rw [if_neg h1, if_neg h2, if_pos h3] at hb ⊢
        have H := get3_any a0 w hl' h3 _ rfl _ _ rfl rfl _ _ rfl b (fun W A c ho => by
          have hc := mats_own ho
          have := code_Right.calls 3 none 0 [] _ _ _ _ _ none 0 [] _ _ A c _ b W R_nilC (Nat.le_refl _) R_nilC (Nat.le_refl _) hc.1 hc.2 hb
          rw [List.length_map] at this
          exact this)
        refine H.mono ?_
        rintro e w' ⟨A, c, he, ho, hbw⟩
        exact ⟨_, _, _, he, ⟨Kd.R_nil _ _ _ _ _, Kd.R_nil _ _ _ _ _, mats_r ho.out⟩, hbw⟩
      · rw [if_neg h1, if_neg h2, if_neg h3] at hb ⊢
        have H := get0_any a0 w hl' ⟨h1, h2, h3⟩ b (fun W => code_Right.calls (numF (a0.data.toList, false)).1 none 0 [] 0 0 0 0 0 none 0 [] 0 0 none 0 [] b W R_nilC (Nat.le_refl _) R_nilC (Nat.le_refl _) R_nilC (Nat.le_refl _) hb)
        refine H.mono ?_
        rintro e w' ⟨he, hbw⟩
        exact ⟨_, _, _, he, ⟨Kd.R_nil _ _ _ _ _, Kd.R_nil _ _ _ _ _, Kd.R_nil _ _ _ _ _⟩, hbw⟩
set_option maxHeartbeats 1000000 in
theorem code_Get.calls (a0 : ByteArray) (r1 : Int) (r2 : List (S41)) (r3 : Int) (r4 : Int) (r5 : Int) (r6 : Int) (r7 : Int) (r8 : List (S41)) (r9 : Int) (r10 : Int) (r11 : List (S35)) (r12 : Int) (w : World) (h : code_Get.f a0 = some (r1, r2, r3, r4, r5, r6, r7, r8, r9, r10, r11, r12)) :
    Calls Try.prog 30 #[.string a0] w fun e w' => ∃ v1_ v7_ v10_ : Value, e = .returned (.tuple #[.agg #[.int .i64 r1, v1_, .int .i64 r3, .int .i64 r4, .int .i64 r5, .int .i64 r6, .int .i64 r7, v7_, .int .i64 r9, .int .i64 r10, v10_], .int .i64 r12]) ∧ Kd.R k41 41 w' w.heap.size (fun k_ => some k_ ≠ (v7_ : Value).ownBlock) v1_ r2 ∧ Kd.R k41 41 w' w.heap.size (fun k_ => some k_ ≠ (v1_ : Value).ownBlock) v7_ r8 ∧ Kd.R k35 35 w' w.heap.size (fun _ => True) v10_ r11 ∧ Below w.heap.size w w' := by
  unfold code_Get.f at h
  split at h
  · rename_i hl
    split at h
    · rename_i b hb
      have H := get_core a0 b w hl hb
      split at h
      · rename_i hc
        simp only [Option.some.injEq, Prod.mk.injEq] at h
        obtain ⟨rfl, rfl, rfl, rfl, rfl, rfl, rfl, rfl, rfl, rfl, rfl, rfl⟩ := h
        refine H.mono ?_
        rintro e w' ⟨v1, v7, v10, he, ho, hbw⟩
        refine ⟨_, _, _, ?_, Kd.R_nil _ _ _ _ _, Kd.R_nil _ _ _ _ _, Kd.R_nil _ _ _ _ _, hbw⟩
        unfold getE at he
        rw [if_pos hc] at he
        exact he
      · rename_i hc
        simp only [Option.some.injEq, Prod.mk.injEq] at h
        obtain ⟨rfl, rfl, rfl, rfl, rfl, rfl, rfl, rfl, rfl, rfl, rfl, rfl⟩ := h
        refine H.mono ?_
        rintro e w' ⟨v1, v7, v10, he, ho, hbw⟩
        refine ⟨v1, v7, v10, ?_, ho.1, ho.2.1, ho.2.2, hbw⟩
        unfold getE at he
        rw [if_neg hc] at he
        exact he
    · cases h
  · cases h
end Go.Proofs.YtndgollcganhmaaQ.P
namespace Go.Proofs.YtndgollcganhmaaQ.P
open Go.RowKit Go.Proofs.YtndgollcganhmaaW.PrintWords Go.Proofs.YtndgollcganhmaaW.PrintLast Go.Proofs.YtndgollcganhmaaW.PrintMore
attribute [local go_sem] max2_int min2_int max_two min_two max_three min_three max_four min_four
def foghornlaw17_alive.f  : Option (Bool) := (code_Put.f 2 ([] : List (S41)) 0 0 0 0 0 (([(⟨(⟨#[97]⟩ : ByteArray), (⟨#[120]⟩ : ByteArray)⟩ : S41)] : List (S41))) 0 0 ([] : List (S35))).bind fun bt271 => ((code_Get.f bt271.1).bind fun bt273 => (if bt271.2 = 0 then (if bt273.2.2.2.2.2.2.2.2.2.2.2 = 0 then (if bt271.1.toList = ([2, 1, 1, 97, 1, 120] : List UInt8) then (some ((bt273.2.2.2.2.2.2.2.1.length : Int) == 1)) else (some false)) else (some false)) else (some false)))
set_option maxHeartbeats 8000000 in
set_option maxRecDepth 100000 in
theorem foghornlaw17_alive.calls  (r : Bool) (w : World) (h : foghornlaw17_alive.f  = some r) :
  Calls Try.prog 28 #[] w fun e w' => e = .returned (.bool r) ∧ Below w.heap.size w w' := by
 have hu41 := Try.underlying41
 have hu50 := Try.underlying50
 have HB := aA (Below.refl w.heap.size w)
 have H : ((code_Put.f 2 ([] : List (S41)) 0 0 0 0 0 (([(⟨(⟨#[97]⟩ : ByteArray), (⟨#[120]⟩ : ByteArray)⟩ : S41)] : List (S41))) 0 0 ([] : List (S35))).bind fun bt271 => ((code_Get.f bt271.1).bind fun bt273 => (if bt271.2 = 0 then (if bt273.2.2.2.2.2.2.2.2.2.2.2 = 0 then (if bt271.1.toList = ([2, 1, 1, 97, 1, 120] : List UInt8) then (some ((bt273.2.2.2.2.2.2.2.1.length : Int) == 1)) else (some false)) else (some false)) else (some false)))) = some r := h
 clear h
 obtain ⟨y268, hy268⟩ : ∃ y_ : List (S41), y_ = (([(⟨(⟨#[97]⟩ : ByteArray), (⟨#[120]⟩ : ByteArray)⟩ : S41)] : List (S41))) := ⟨_, rfl⟩
 replace H : ((code_Put.f 2 ([] : List (S41)) 0 0 0 0 0 y268 0 0 ([] : List (S35))).bind fun bt271 => ((code_Get.f bt271.1).bind fun bt273 => (if bt271.2 = 0 then (if bt273.2.2.2.2.2.2.2.2.2.2.2 = 0 then (if bt271.1.toList = ([2, 1, 1, 97, 1, 120] : List UInt8) then (some ((bt273.2.2.2.2.2.2.2.1.length : Int) == 1)) else (some false)) else (some false)) else (some false)))) = some r := by first | (rw [hy268]; with_reducible exact H) | (have H2_ := (Option.bind_some _ _).symm.trans H; rw [hy268]; with_reducible exact H2_) | (have H2_ := (Option.bind_some _ _).symm.trans H; with_reducible exact H2_) | with_reducible exact H | (rw [hy268]; exact H) | exact H
 have Ny268 := aA hy268
 clear hy268
 replace H := Option.bind_eq_some_iff.mp H
 obtain ⟨⟨t271, t272⟩, A10, H⟩ := H
 have A1 := aA A10
 clear A10
 replace H := Option.bind_eq_some_iff.mp H
 obtain ⟨⟨t273, t274, t277, t278, t279, t280, t281, t282, t285, t286, t287, t290⟩, A20, H⟩ := H
 have A2 := aA A20
 clear A20
 by_cases c3 : t272 = 0
 ·rw [if_pos c3] at H
  have c3b0 : (t272 == 0) = true := beq_iff_eq.mpr c3
  have c3b1 : (t272 != 0) = false := bne_eq_false_iff_eq.mpr c3
  clear c3
  by_cases c4 : t290 = 0
  ·rw [if_pos c4] at H
   have c4b0 : (t290 == 0) = true := beq_iff_eq.mpr c4
   have c4b1 : (t290 != 0) = false := bne_eq_false_iff_eq.mpr c4
   clear c4
   by_cases c5 : t271.toList = ([2, 1, 1, 97, 1, 120] : List UInt8)
   ·rw [if_pos c5] at H
    have c5b0 : (t271.toList == ([2, 1, 1, 97, 1, 120] : List UInt8)) = true := beq_iff_eq.mpr c5
    have c5b1 : (t271.toList != ([2, 1, 1, 97, 1, 120] : List UInt8)) = false := bne_eq_false_iff_eq.mpr c5
    clear c5
    obtain rfl := Option.some.inj H
    go_enter Try.func28, Try.ntmps28
    go_wp2_with (first | ((with_reducible refine gate_dst (N := 7) rfl ?_); (try (refine gate_guard (by rfl) ?_; dsimp only)); refine Kd.R_lit k41 _ 41 ?hg (N := 7) ?hd (xs := ([(⟨(⟨#[97]⟩ : ByteArray), (⟨#[120]⟩ : ByteArray)⟩ : S41)] : List (S41))) (inner := [.string (⟨#[97]⟩ : ByteArray), .string (⟨#[120]⟩ : ByteArray)]) (ok := fun _ => True) (okp := fun _ => True) ?hr ?hp (fun _ hk => hk) trivial (Below.refl _ _) (Nat.le_refl _) (by simp) ?_; (case hd => rfl); (case hg => rfl); (case hr => first | (go_simp; done) | (go_simp; rfl)); (case hp => exact (Reps.c2 (show Kd.M k41 _ _ _ (⟨(⟨#[97]⟩ : ByteArray), (⟨#[120]⟩ : ByteArray)⟩ : S41) [.string (⟨#[97]⟩ : ByteArray), .string (⟨#[120]⟩ : ByteArray)] from (k41_mkM _ _ _ (⟨(⟨#[97]⟩ : ByteArray), (⟨#[120]⟩ : ByteArray)⟩ : S41) )) (Reps.none _ _))); intro v269 w6 ho7 hb hg_ hnew_; clear hg_ hnew_; (first | rw [← Ny268.out] at ho7 | (simp only [Int.reduceToNat] at ho7; rw [← Ny268.out] at ho7)); have n0_ := aA (Kd.R_lower ho7 (below_size mB)); have n1_ := aA (below_step mB hb); clear HB; have HO270 := n0_; have HB := n1_; clear n0_ n1_ hb ho7; obtain ⟨Ao8, co8, eo8⟩ := Kd.R_slice HO270.out; subst eo8) | ((with_reducible refine gate_callee (f := 25) rfl ?_); refine goesL_ (some 9) rfl rfl Try.func25 (by kernel_rfl) rfl #[.agg #[.int .i64 2, .slice none 0 0, .int .i64 0, .int .i64 0, .int .i64 0, .int .i64 0, .int .i64 0, .slice Ao8 y268.length co8, .int .i64 0, .int .i64 0, .slice none 0 0]] rfl mS ?_; (refine (code_Put.calls 2 _ _ ([] : List (S41)) 0 0 0 0 0 _ _ y268 0 0 _ _ ([] : List (S35)) t271 t272 _ ?side1 ?side2 ?side3 ?side4 ?side5 ?side6 A1.out).mono ?_); (case side1 => exact Kd.C_nil _ _); (case side2 => exact Nat.le_refl _); (case side3 => exact mC ((Kd.R_reads' HO270.out).2.2)); (case side4 => exact (Kd.R_reads' HO270.out).2.1); (case side5 => exact Kd.C_nil _ _); (case side6 => exact Nat.le_refl _); rintro e w9 ⟨rfl, hb⟩; refine ⟨_, rfl, ?_⟩; have n0_ := aA (Kd.R_below (mR HO270.out) hb); have n1_ := aA (below_step mB hb); clear HO270 HB; have HO270 := n0_; have HB := n1_; clear n0_ n1_; (try clear hb); (try clear hb2); (try clear hk); (try clear hi)) | ((with_reducible refine gate_callee (f := 30) rfl ?_); refine goesL_ (some 14) rfl rfl Try.func30 (by kernel_rfl) rfl #[.string t271] rfl mS ?_; (with_reducible refine (code_Get.calls t271 t273 t274 t277 t278 t279 t280 t281 t282 t285 t286 t287 t290 _ A2.out).mono ?_); rintro e w10 ⟨v275, v283, v288, rfl, ho0, ho1, ho2, hb⟩; refine ⟨_, rfl, ?_⟩; have n0_ := aA (Kd.R_mono (Kd.R_told (Kd.R_told (Kd.R_old (mR HO270.out) hb) (Kd.R_base ho0)) (Kd.R_base ho1)) (fun _ h_ => h_.1)); have n1_ := aA (Kd.R_lower (Kd.R_new' ho0 (Kd.R_lt (mR HO270.out))) (below_size mB)); have n2_ := aA (Kd.R_lower (Kd.R_new' ho1 (Kd.R_lt (mR HO270.out))) (below_size mB)); have n3_ := aA (Kd.R_lower ho2 (below_size mB)); have n4_ := aA (below_step mB hb); clear HO270 HB; have HO270 := n0_; have HO276 := n1_; have HO284 := n2_; have HO289 := n3_; have HB := n4_; clear n0_ n1_ n2_ n3_ n4_; (try clear hb); (try clear hb2); (try clear hk); (try clear hi); (try clear ho0); (try clear ho1); (try clear ho2)) | ((with_reducible refine gate_dst (N := 3) rfl ?_); (try (refine gate_guard (by rfl) ?_; dsimp only)); refine box_event ?hg (N := 3) ?hd (cs := #[.int .i64 0, .slice none 0 0, .int .i64 0, .int .i64 0, .int .i64 0, .int .i64 0, .int .i64 0, .slice none 0 0, .int .i64 0, .int .i64 0, .slice none 0 0]) (t := 50) ?hr ?_; (case hd => rfl); (case hg => rfl); (case hr => first | (go_simp; done) | (go_simp; rfl)); intro gb291 hg w11 hbox hb; have n0_ := aA (Kd.R_below (mR HO270.out) hb); have n1_ := aA (Kd.R_below (mR HO276.out) hb); have n2_ := aA (Kd.R_below (mR HO284.out) hb); have n3_ := aA (Kd.R_below (mR HO289.out) hb); have n4_ := aA (below_step mB hb); have n5_ := aA (hbox); have n6_ := aA ((bZ hg mB)); have n7_ := aA ((bZ hg mB)); clear HO270 HO276 HO284 HO289 HB; have HO270 := n0_; have HO276 := n1_; have HO284 := n2_; have HO289 := n3_; have HB := n4_; have BK291 := n5_; have GW291 := n6_; have GE291 := n7_; clear n0_ n1_ n2_ n3_ n4_ n5_ n6_ n7_ hb hbox hg; obtain ⟨hcz12_0, hcz12_1, hcz12_2, hcz12_3, hcz12_4, hcz12_5, hcz12_6, hcz12_7, hcz12_8, hcz12_9, hcz12_10⟩ := bC11 BK291.out; obtain ⟨hfz12_0, hfz12_1, hfz12_2, hfz12_3, hfz12_4, hfz12_5, hfz12_6, hfz12_7, hfz12_8, hfz12_9, hfz12_10⟩ := bF11 BK291.out; obtain ⟨Ao13, co13, eo13⟩ := Kd.R_slice HO276.out; subst eo13; obtain ⟨Ao14, co14, eo14⟩ := Kd.R_slice HO284.out; subst eo14; obtain ⟨Ao15, co15, eo15⟩ := Kd.R_slice HO289.out; subst eo15))
    go_ret
    exact ⟨by first | rfl | (simp [errW_none, errW_some] <;> rfl) | (simp [*, errW_none, errW_some] <;> rfl), by repeat (first | (with_reducible first | exact HB.out | apply below_alloc | apply pw_below_drewN | apply below_drew1 | refine below_set ?_ GE291.out) | exact HB.out)⟩
   ·rw [if_neg c5] at H
    have c5b0 : (t271.toList == ([2, 1, 1, 97, 1, 120] : List UInt8)) = false := beq_eq_false_iff_ne.mpr c5
    have c5b1 : (t271.toList != ([2, 1, 1, 97, 1, 120] : List UInt8)) = true := bne_iff_ne.mpr c5
    obtain rfl := Option.some.inj H
    go_enter Try.func28, Try.ntmps28
    go_wp2_with (first | ((with_reducible refine gate_dst (N := 7) rfl ?_); (try (refine gate_guard (by rfl) ?_; dsimp only)); refine Kd.R_lit k41 _ 41 ?hg (N := 7) ?hd (xs := ([(⟨(⟨#[97]⟩ : ByteArray), (⟨#[120]⟩ : ByteArray)⟩ : S41)] : List (S41))) (inner := [.string (⟨#[97]⟩ : ByteArray), .string (⟨#[120]⟩ : ByteArray)]) (ok := fun _ => True) (okp := fun _ => True) ?hr ?hp (fun _ hk => hk) trivial (Below.refl _ _) (Nat.le_refl _) (by simp) ?_; (case hd => rfl); (case hg => rfl); (case hr => first | (go_simp; done) | (go_simp; rfl)); (case hp => exact (Reps.c2 (show Kd.M k41 _ _ _ (⟨(⟨#[97]⟩ : ByteArray), (⟨#[120]⟩ : ByteArray)⟩ : S41) [.string (⟨#[97]⟩ : ByteArray), .string (⟨#[120]⟩ : ByteArray)] from (k41_mkM _ _ _ (⟨(⟨#[97]⟩ : ByteArray), (⟨#[120]⟩ : ByteArray)⟩ : S41) )) (Reps.none _ _))); intro v269 w16 ho17 hb hg_ hnew_; clear hg_ hnew_; (first | rw [← Ny268.out] at ho17 | (simp only [Int.reduceToNat] at ho17; rw [← Ny268.out] at ho17)); have n0_ := aA (Kd.R_lower ho17 (below_size mB)); have n1_ := aA (below_step mB hb); clear HB; have HO270 := n0_; have HB := n1_; clear n0_ n1_ hb ho17; obtain ⟨Ao18, co18, eo18⟩ := Kd.R_slice HO270.out; subst eo18) | ((with_reducible refine gate_callee (f := 25) rfl ?_); refine goesL_ (some 9) rfl rfl Try.func25 (by kernel_rfl) rfl #[.agg #[.int .i64 2, .slice none 0 0, .int .i64 0, .int .i64 0, .int .i64 0, .int .i64 0, .int .i64 0, .slice Ao18 y268.length co18, .int .i64 0, .int .i64 0, .slice none 0 0]] rfl mS ?_; (refine (code_Put.calls 2 _ _ ([] : List (S41)) 0 0 0 0 0 _ _ y268 0 0 _ _ ([] : List (S35)) t271 t272 _ ?side1 ?side2 ?side3 ?side4 ?side5 ?side6 A1.out).mono ?_); (case side1 => exact Kd.C_nil _ _); (case side2 => exact Nat.le_refl _); (case side3 => exact mC ((Kd.R_reads' HO270.out).2.2)); (case side4 => exact (Kd.R_reads' HO270.out).2.1); (case side5 => exact Kd.C_nil _ _); (case side6 => exact Nat.le_refl _); rintro e w19 ⟨rfl, hb⟩; refine ⟨_, rfl, ?_⟩; have n0_ := aA (Kd.R_below (mR HO270.out) hb); have n1_ := aA (below_step mB hb); clear HO270 HB; have HO270 := n0_; have HB := n1_; clear n0_ n1_; (try clear hb); (try clear hb2); (try clear hk); (try clear hi)) | ((with_reducible refine gate_callee (f := 30) rfl ?_); refine goesL_ (some 14) rfl rfl Try.func30 (by kernel_rfl) rfl #[.string t271] rfl mS ?_; (with_reducible refine (code_Get.calls t271 t273 t274 t277 t278 t279 t280 t281 t282 t285 t286 t287 t290 _ A2.out).mono ?_); rintro e w20 ⟨v275, v283, v288, rfl, ho0, ho1, ho2, hb⟩; refine ⟨_, rfl, ?_⟩; have n0_ := aA (Kd.R_mono (Kd.R_told (Kd.R_told (Kd.R_old (mR HO270.out) hb) (Kd.R_base ho0)) (Kd.R_base ho1)) (fun _ h_ => h_.1)); have n1_ := aA (Kd.R_lower (Kd.R_new' ho0 (Kd.R_lt (mR HO270.out))) (below_size mB)); have n2_ := aA (Kd.R_lower (Kd.R_new' ho1 (Kd.R_lt (mR HO270.out))) (below_size mB)); have n3_ := aA (Kd.R_lower ho2 (below_size mB)); have n4_ := aA (below_step mB hb); clear HO270 HB; have HO270 := n0_; have HO276 := n1_; have HO284 := n2_; have HO289 := n3_; have HB := n4_; clear n0_ n1_ n2_ n3_ n4_; (try clear hb); (try clear hb2); (try clear hk); (try clear hi); (try clear ho0); (try clear ho1); (try clear ho2)) | ((with_reducible refine gate_dst (N := 3) rfl ?_); (try (refine gate_guard (by rfl) ?_; dsimp only)); refine box_event ?hg (N := 3) ?hd (cs := #[.int .i64 0, .slice none 0 0, .int .i64 0, .int .i64 0, .int .i64 0, .int .i64 0, .int .i64 0, .slice none 0 0, .int .i64 0, .int .i64 0, .slice none 0 0]) (t := 50) ?hr ?_; (case hd => rfl); (case hg => rfl); (case hr => first | (go_simp; done) | (go_simp; rfl)); intro gb291 hg w21 hbox hb; have n0_ := aA (Kd.R_below (mR HO270.out) hb); have n1_ := aA (Kd.R_below (mR HO276.out) hb); have n2_ := aA (Kd.R_below (mR HO284.out) hb); have n3_ := aA (Kd.R_below (mR HO289.out) hb); have n4_ := aA (below_step mB hb); have n5_ := aA (hbox); have n6_ := aA ((bZ hg mB)); have n7_ := aA ((bZ hg mB)); clear HO270 HO276 HO284 HO289 HB; have HO270 := n0_; have HO276 := n1_; have HO284 := n2_; have HO289 := n3_; have HB := n4_; have BK291 := n5_; have GW291 := n6_; have GE291 := n7_; clear n0_ n1_ n2_ n3_ n4_ n5_ n6_ n7_ hb hbox hg; obtain ⟨hcz22_0, hcz22_1, hcz22_2, hcz22_3, hcz22_4, hcz22_5, hcz22_6, hcz22_7, hcz22_8, hcz22_9, hcz22_10⟩ := bC11 BK291.out; obtain ⟨hfz22_0, hfz22_1, hfz22_2, hfz22_3, hfz22_4, hfz22_5, hfz22_6, hfz22_7, hfz22_8, hfz22_9, hfz22_10⟩ := bF11 BK291.out; obtain ⟨Ao23, co23, eo23⟩ := Kd.R_slice HO276.out; subst eo23; obtain ⟨Ao24, co24, eo24⟩ := Kd.R_slice HO284.out; subst eo24; obtain ⟨Ao25, co25, eo25⟩ := Kd.R_slice HO289.out; subst eo25))
    go_ret
    exact ⟨by first | rfl | (simp [errW_none, errW_some] <;> rfl) | (simp [*, errW_none, errW_some] <;> rfl), by repeat (first | (with_reducible first | exact HB.out | apply below_alloc | apply pw_below_drewN | apply below_drew1 | refine below_set ?_ GE291.out) | exact HB.out)⟩
  ·rw [if_neg c4] at H
   have c4b0 : (t290 == 0) = false := beq_eq_false_iff_ne.mpr c4
   have c4b1 : (t290 != 0) = true := bne_iff_ne.mpr c4
   obtain rfl := Option.some.inj H
   go_enter Try.func28, Try.ntmps28
   go_wp2_with (first | ((with_reducible refine gate_dst (N := 7) rfl ?_); (try (refine gate_guard (by rfl) ?_; dsimp only)); refine Kd.R_lit k41 _ 41 ?hg (N := 7) ?hd (xs := ([(⟨(⟨#[97]⟩ : ByteArray), (⟨#[120]⟩ : ByteArray)⟩ : S41)] : List (S41))) (inner := [.string (⟨#[97]⟩ : ByteArray), .string (⟨#[120]⟩ : ByteArray)]) (ok := fun _ => True) (okp := fun _ => True) ?hr ?hp (fun _ hk => hk) trivial (Below.refl _ _) (Nat.le_refl _) (by simp) ?_; (case hd => rfl); (case hg => rfl); (case hr => first | (go_simp; done) | (go_simp; rfl)); (case hp => exact (Reps.c2 (show Kd.M k41 _ _ _ (⟨(⟨#[97]⟩ : ByteArray), (⟨#[120]⟩ : ByteArray)⟩ : S41) [.string (⟨#[97]⟩ : ByteArray), .string (⟨#[120]⟩ : ByteArray)] from (k41_mkM _ _ _ (⟨(⟨#[97]⟩ : ByteArray), (⟨#[120]⟩ : ByteArray)⟩ : S41) )) (Reps.none _ _))); intro v269 w26 ho27 hb hg_ hnew_; clear hg_ hnew_; (first | rw [← Ny268.out] at ho27 | (simp only [Int.reduceToNat] at ho27; rw [← Ny268.out] at ho27)); have n0_ := aA (Kd.R_lower ho27 (below_size mB)); have n1_ := aA (below_step mB hb); clear HB; have HO270 := n0_; have HB := n1_; clear n0_ n1_ hb ho27; obtain ⟨Ao28, co28, eo28⟩ := Kd.R_slice HO270.out; subst eo28) | ((with_reducible refine gate_callee (f := 25) rfl ?_); refine goesL_ (some 9) rfl rfl Try.func25 (by kernel_rfl) rfl #[.agg #[.int .i64 2, .slice none 0 0, .int .i64 0, .int .i64 0, .int .i64 0, .int .i64 0, .int .i64 0, .slice Ao28 y268.length co28, .int .i64 0, .int .i64 0, .slice none 0 0]] rfl mS ?_; (refine (code_Put.calls 2 _ _ ([] : List (S41)) 0 0 0 0 0 _ _ y268 0 0 _ _ ([] : List (S35)) t271 t272 _ ?side1 ?side2 ?side3 ?side4 ?side5 ?side6 A1.out).mono ?_); (case side1 => exact Kd.C_nil _ _); (case side2 => exact Nat.le_refl _); (case side3 => exact mC ((Kd.R_reads' HO270.out).2.2)); (case side4 => exact (Kd.R_reads' HO270.out).2.1); (case side5 => exact Kd.C_nil _ _); (case side6 => exact Nat.le_refl _); rintro e w29 ⟨rfl, hb⟩; refine ⟨_, rfl, ?_⟩; have n0_ := aA (Kd.R_below (mR HO270.out) hb); have n1_ := aA (below_step mB hb); clear HO270 HB; have HO270 := n0_; have HB := n1_; clear n0_ n1_; (try clear hb); (try clear hb2); (try clear hk); (try clear hi)) | ((with_reducible refine gate_callee (f := 30) rfl ?_); refine goesL_ (some 14) rfl rfl Try.func30 (by kernel_rfl) rfl #[.string t271] rfl mS ?_; (with_reducible refine (code_Get.calls t271 t273 t274 t277 t278 t279 t280 t281 t282 t285 t286 t287 t290 _ A2.out).mono ?_); rintro e w30 ⟨v275, v283, v288, rfl, ho0, ho1, ho2, hb⟩; refine ⟨_, rfl, ?_⟩; have n0_ := aA (Kd.R_mono (Kd.R_told (Kd.R_told (Kd.R_old (mR HO270.out) hb) (Kd.R_base ho0)) (Kd.R_base ho1)) (fun _ h_ => h_.1)); have n1_ := aA (Kd.R_lower (Kd.R_new' ho0 (Kd.R_lt (mR HO270.out))) (below_size mB)); have n2_ := aA (Kd.R_lower (Kd.R_new' ho1 (Kd.R_lt (mR HO270.out))) (below_size mB)); have n3_ := aA (Kd.R_lower ho2 (below_size mB)); have n4_ := aA (below_step mB hb); clear HO270 HB; have HO270 := n0_; have HO276 := n1_; have HO284 := n2_; have HO289 := n3_; have HB := n4_; clear n0_ n1_ n2_ n3_ n4_; (try clear hb); (try clear hb2); (try clear hk); (try clear hi); (try clear ho0); (try clear ho1); (try clear ho2)) | ((with_reducible refine gate_dst (N := 3) rfl ?_); (try (refine gate_guard (by rfl) ?_; dsimp only)); refine box_event ?hg (N := 3) ?hd (cs := #[.int .i64 0, .slice none 0 0, .int .i64 0, .int .i64 0, .int .i64 0, .int .i64 0, .int .i64 0, .slice none 0 0, .int .i64 0, .int .i64 0, .slice none 0 0]) (t := 50) ?hr ?_; (case hd => rfl); (case hg => rfl); (case hr => first | (go_simp; done) | (go_simp; rfl)); intro gb291 hg w31 hbox hb; have n0_ := aA (Kd.R_below (mR HO270.out) hb); have n1_ := aA (Kd.R_below (mR HO276.out) hb); have n2_ := aA (Kd.R_below (mR HO284.out) hb); have n3_ := aA (Kd.R_below (mR HO289.out) hb); have n4_ := aA (below_step mB hb); have n5_ := aA (hbox); have n6_ := aA ((bZ hg mB)); have n7_ := aA ((bZ hg mB)); clear HO270 HO276 HO284 HO289 HB; have HO270 := n0_; have HO276 := n1_; have HO284 := n2_; have HO289 := n3_; have HB := n4_; have BK291 := n5_; have GW291 := n6_; have GE291 := n7_; clear n0_ n1_ n2_ n3_ n4_ n5_ n6_ n7_ hb hbox hg; obtain ⟨hcz32_0, hcz32_1, hcz32_2, hcz32_3, hcz32_4, hcz32_5, hcz32_6, hcz32_7, hcz32_8, hcz32_9, hcz32_10⟩ := bC11 BK291.out; obtain ⟨hfz32_0, hfz32_1, hfz32_2, hfz32_3, hfz32_4, hfz32_5, hfz32_6, hfz32_7, hfz32_8, hfz32_9, hfz32_10⟩ := bF11 BK291.out; obtain ⟨Ao33, co33, eo33⟩ := Kd.R_slice HO276.out; subst eo33; obtain ⟨Ao34, co34, eo34⟩ := Kd.R_slice HO284.out; subst eo34; obtain ⟨Ao35, co35, eo35⟩ := Kd.R_slice HO289.out; subst eo35))
   go_ret
   exact ⟨by first | rfl | (simp [errW_none, errW_some] <;> rfl) | (simp [*, errW_none, errW_some] <;> rfl), by repeat (first | (with_reducible first | exact HB.out | apply below_alloc | apply pw_below_drewN | apply below_drew1 | refine below_set ?_ GE291.out) | exact HB.out)⟩
 ·rw [if_neg c3] at H
  have c3b0 : (t272 == 0) = false := beq_eq_false_iff_ne.mpr c3
  have c3b1 : (t272 != 0) = true := bne_iff_ne.mpr c3
  obtain rfl := Option.some.inj H
  go_enter Try.func28, Try.ntmps28
  go_wp2_with (first | ((with_reducible refine gate_dst (N := 7) rfl ?_); (try (refine gate_guard (by rfl) ?_; dsimp only)); refine Kd.R_lit k41 _ 41 ?hg (N := 7) ?hd (xs := ([(⟨(⟨#[97]⟩ : ByteArray), (⟨#[120]⟩ : ByteArray)⟩ : S41)] : List (S41))) (inner := [.string (⟨#[97]⟩ : ByteArray), .string (⟨#[120]⟩ : ByteArray)]) (ok := fun _ => True) (okp := fun _ => True) ?hr ?hp (fun _ hk => hk) trivial (Below.refl _ _) (Nat.le_refl _) (by simp) ?_; (case hd => rfl); (case hg => rfl); (case hr => first | (go_simp; done) | (go_simp; rfl)); (case hp => exact (Reps.c2 (show Kd.M k41 _ _ _ (⟨(⟨#[97]⟩ : ByteArray), (⟨#[120]⟩ : ByteArray)⟩ : S41) [.string (⟨#[97]⟩ : ByteArray), .string (⟨#[120]⟩ : ByteArray)] from (k41_mkM _ _ _ (⟨(⟨#[97]⟩ : ByteArray), (⟨#[120]⟩ : ByteArray)⟩ : S41) )) (Reps.none _ _))); intro v269 w36 ho37 hb hg_ hnew_; clear hg_ hnew_; (first | rw [← Ny268.out] at ho37 | (simp only [Int.reduceToNat] at ho37; rw [← Ny268.out] at ho37)); have n0_ := aA (Kd.R_lower ho37 (below_size mB)); have n1_ := aA (below_step mB hb); clear HB; have HO270 := n0_; have HB := n1_; clear n0_ n1_ hb ho37; obtain ⟨Ao38, co38, eo38⟩ := Kd.R_slice HO270.out; subst eo38) | ((with_reducible refine gate_callee (f := 25) rfl ?_); refine goesL_ (some 9) rfl rfl Try.func25 (by kernel_rfl) rfl #[.agg #[.int .i64 2, .slice none 0 0, .int .i64 0, .int .i64 0, .int .i64 0, .int .i64 0, .int .i64 0, .slice Ao38 y268.length co38, .int .i64 0, .int .i64 0, .slice none 0 0]] rfl mS ?_; (refine (code_Put.calls 2 _ _ ([] : List (S41)) 0 0 0 0 0 _ _ y268 0 0 _ _ ([] : List (S35)) t271 t272 _ ?side1 ?side2 ?side3 ?side4 ?side5 ?side6 A1.out).mono ?_); (case side1 => exact Kd.C_nil _ _); (case side2 => exact Nat.le_refl _); (case side3 => exact mC ((Kd.R_reads' HO270.out).2.2)); (case side4 => exact (Kd.R_reads' HO270.out).2.1); (case side5 => exact Kd.C_nil _ _); (case side6 => exact Nat.le_refl _); rintro e w39 ⟨rfl, hb⟩; refine ⟨_, rfl, ?_⟩; have n0_ := aA (Kd.R_below (mR HO270.out) hb); have n1_ := aA (below_step mB hb); clear HO270 HB; have HO270 := n0_; have HB := n1_; clear n0_ n1_; (try clear hb); (try clear hb2); (try clear hk); (try clear hi)) | ((with_reducible refine gate_callee (f := 30) rfl ?_); refine goesL_ (some 14) rfl rfl Try.func30 (by kernel_rfl) rfl #[.string t271] rfl mS ?_; (with_reducible refine (code_Get.calls t271 t273 t274 t277 t278 t279 t280 t281 t282 t285 t286 t287 t290 _ A2.out).mono ?_); rintro e w40 ⟨v275, v283, v288, rfl, ho0, ho1, ho2, hb⟩; refine ⟨_, rfl, ?_⟩; have n0_ := aA (Kd.R_mono (Kd.R_told (Kd.R_told (Kd.R_old (mR HO270.out) hb) (Kd.R_base ho0)) (Kd.R_base ho1)) (fun _ h_ => h_.1)); have n1_ := aA (Kd.R_lower (Kd.R_new' ho0 (Kd.R_lt (mR HO270.out))) (below_size mB)); have n2_ := aA (Kd.R_lower (Kd.R_new' ho1 (Kd.R_lt (mR HO270.out))) (below_size mB)); have n3_ := aA (Kd.R_lower ho2 (below_size mB)); have n4_ := aA (below_step mB hb); clear HO270 HB; have HO270 := n0_; have HO276 := n1_; have HO284 := n2_; have HO289 := n3_; have HB := n4_; clear n0_ n1_ n2_ n3_ n4_; (try clear hb); (try clear hb2); (try clear hk); (try clear hi); (try clear ho0); (try clear ho1); (try clear ho2)) | ((with_reducible refine gate_dst (N := 3) rfl ?_); (try (refine gate_guard (by rfl) ?_; dsimp only)); refine box_event ?hg (N := 3) ?hd (cs := #[.int .i64 0, .slice none 0 0, .int .i64 0, .int .i64 0, .int .i64 0, .int .i64 0, .int .i64 0, .slice none 0 0, .int .i64 0, .int .i64 0, .slice none 0 0]) (t := 50) ?hr ?_; (case hd => rfl); (case hg => rfl); (case hr => first | (go_simp; done) | (go_simp; rfl)); intro gb291 hg w41 hbox hb; have n0_ := aA (Kd.R_below (mR HO270.out) hb); have n1_ := aA (Kd.R_below (mR HO276.out) hb); have n2_ := aA (Kd.R_below (mR HO284.out) hb); have n3_ := aA (Kd.R_below (mR HO289.out) hb); have n4_ := aA (below_step mB hb); have n5_ := aA (hbox); have n6_ := aA ((bZ hg mB)); have n7_ := aA ((bZ hg mB)); clear HO270 HO276 HO284 HO289 HB; have HO270 := n0_; have HO276 := n1_; have HO284 := n2_; have HO289 := n3_; have HB := n4_; have BK291 := n5_; have GW291 := n6_; have GE291 := n7_; clear n0_ n1_ n2_ n3_ n4_ n5_ n6_ n7_ hb hbox hg; obtain ⟨hcz42_0, hcz42_1, hcz42_2, hcz42_3, hcz42_4, hcz42_5, hcz42_6, hcz42_7, hcz42_8, hcz42_9, hcz42_10⟩ := bC11 BK291.out; obtain ⟨hfz42_0, hfz42_1, hfz42_2, hfz42_3, hfz42_4, hfz42_5, hfz42_6, hfz42_7, hfz42_8, hfz42_9, hfz42_10⟩ := bF11 BK291.out; obtain ⟨Ao43, co43, eo43⟩ := Kd.R_slice HO276.out; subst eo43; obtain ⟨Ao44, co44, eo44⟩ := Kd.R_slice HO284.out; subst eo44; obtain ⟨Ao45, co45, eo45⟩ := Kd.R_slice HO289.out; subst eo45))
  go_ret
  exact ⟨by first | rfl | (simp [errW_none, errW_some] <;> rfl) | (simp [*, errW_none, errW_some] <;> rfl), by repeat (first | (with_reducible first | exact HB.out | apply below_alloc | apply pw_below_drewN | apply below_drew1 | refine below_set ?_ GE291.out) | exact HB.out)⟩
end Go.Proofs.YtndgollcganhmaaQ.P
namespace Go.Proofs.YtndgollcganhmaaQ.P
open Go.RowKit Go.Proofs.YtndgollcganhmaaW.PrintWords Go.Proofs.YtndgollcganhmaaW.PrintLast Go.Proofs.YtndgollcganhmaaW.PrintMore
attribute [local go_sem] max2_int min2_int max_two min_two max_three min_three max_four min_four
def foghornref17_labels.T5 : Bool × List (List Nat × List Nat) := (true, [([], []), ([], []), ([1], [1]), ([2], [2]), ([0, 3], [0, 3]), ([], []), ([5], [5]), ([6, 3], [6]), ([4, 7], [4, 7]), ([8, 7, 0, 1, 2, 3, 4, 5, 6, 7, 8], [0, 8])])
def foghornref17_labels.B5 : List Nat := [0, 0, 2, 6, 15, 0, 32, 110, 255, 511]
theorem foghornref17_labels.tab5 : rtab .any (opsOf Try.f58 5) = foghornref17_labels.T5 := by kernel_rfl
theorem foghornref17_labels.bits5 : waitsOk foghornref17_labels.T5.2 foghornref17_labels.B5 = true := by kernel_rfl
end Go.Proofs.YtndgollcganhmaaQ.P
namespace Go.Proofs.YtndgollcganhmaaQ.P
open Go.RowKit Go.Proofs.YtndgollcganhmaaW.PrintWords Go.Proofs.YtndgollcganhmaaW.PrintLast Go.Proofs.YtndgollcganhmaaW.PrintMore
attribute [local go_sem] max2_int min2_int max_two min_two max_three min_three max_four min_four
def foghornref17_Put.T5 : Bool × List (List Nat × List Nat) := (true, [([], []), ([], []), ([1], [1]), ([2, 0], [2]), ([0, 3], [0, 3]), ([], []), ([5], [5]), ([6, 3], [6]), ([4, 7], [4, 7]), ([], []), ([9], [9]), ([10, 7], [10]), ([8, 11], [8, 11]), ([], []), ([13], [13]), ([14, 11], [14]), ([12, 15], [12, 15]), ([], []), ([17], [17]), ([18, 15], [18]), ([16, 19], [16, 19]), ([], []), ([21], [21]), ([22, 19], [22]), ([20, 23], [20, 23]), ([24, 23, 0, 1, 2, 3, 4, 5, 6, 7, 8, 9, 10, 11, 12, 13, 14, 15, 16, 17, 18, 19, 20, 21, 22, 23, 24], [24])])
def foghornref17_Put.B5 : List Nat := [0, 0, 2, 7, 15, 0, 32, 111, 255, 0, 512, 1775, 4095, 0, 8192, 28399, 65535, 0, 131072, 454383, 1048575, 0, 2097152, 7270127, 16777215, 33554431]
theorem foghornref17_Put.tab5 : rtab .any (opsOf Try.f29 5) = foghornref17_Put.T5 := by kernel_rfl
theorem foghornref17_Put.bits5 : waitsOk foghornref17_Put.T5.2 foghornref17_Put.B5 = true := by kernel_rfl
end Go.Proofs.YtndgollcganhmaaQ.P
namespace Go.Proofs.YtndgollcganhmaaQ.P
open Go.RowKit Go.Proofs.YtndgollcganhmaaW.PrintWords Go.Proofs.YtndgollcganhmaaW.PrintLast Go.Proofs.YtndgollcganhmaaW.PrintMore
attribute [local go_sem] max2_int min2_int max_two min_two max_three min_three max_four min_four
def foghornref17_Same.f (k : Nat) (a0_0 : Int) (l0_1 : List (S41)) (a0_2 : Int) (a0_3 : Int) (a0_4 : Int) (a0_5 : Int) (a0_6 : Int) (l0_7 : List (S41)) (a0_8 : Int) (a0_9 : Int) (l0_10 : List (S35)) (a1_0 : Int) (l1_1 : List (S41)) (a1_2 : Int) (a1_3 : Int) (a1_4 : Int) (a1_5 : Int) (a1_6 : Int) (l1_7 : List (S41)) (a1_8 : Int) (a1_9 : Int) (l1_10 : List (S35)) : Option (Bool) := if a0_0 = a1_0 then ((foghornref16_Same.f l0_1 a0_2 a0_3 a0_4 a0_5 a0_6 l1_1 a1_2 a1_3 a1_4 a1_5 a1_6).bind fun t399 => (if t399 = true then ((foghornref10_Same.f l0_7 l1_7).bind fun t400 => (if t400 = true then ((foghornref12_Hushes.f k a0_8 a0_9 l0_10 a1_8 a1_9 l1_10).bind fun t401 => (some t401)) else (some false))) else (some false))) else (some false)
set_option maxHeartbeats 8000000 in
set_option maxRecDepth 100000 in
theorem foghornref17_Same.calls (k : Nat) (a0_0 : Int) (A0_1 : Option Addr) (c0_1 : Nat) (l0_1 : List (S41)) (a0_2 : Int) (a0_3 : Int) (a0_4 : Int) (a0_5 : Int) (a0_6 : Int) (A0_7 : Option Addr) (c0_7 : Nat) (l0_7 : List (S41)) (a0_8 : Int) (a0_9 : Int) (A0_10 : Option Addr) (c0_10 : Nat) (l0_10 : List (S35)) (a1_0 : Int) (A1_1 : Option Addr) (c1_1 : Nat) (l1_1 : List (S41)) (a1_2 : Int) (a1_3 : Int) (a1_4 : Int) (a1_5 : Int) (a1_6 : Int) (A1_7 : Option Addr) (c1_7 : Nat) (l1_7 : List (S41)) (a1_8 : Int) (a1_9 : Int) (A1_10 : Option Addr) (c1_10 : Nat) (l1_10 : List (S35)) (r : Bool) (w : World) (hr0_1 : Kd.C k41 w A0_1 l0_1.length l0_1) (hc0_1 : l0_1.length ≤ c0_1) (hr0_7 : Kd.C k41 w A0_7 l0_7.length l0_7) (hc0_7 : l0_7.length ≤ c0_7) (hr0_10 : Kd.C k35 w A0_10 l0_10.length l0_10) (hc0_10 : l0_10.length ≤ c0_10) (hr1_1 : Kd.C k41 w A1_1 l1_1.length l1_1) (hc1_1 : l1_1.length ≤ c1_1) (hr1_7 : Kd.C k41 w A1_7 l1_7.length l1_7) (hc1_7 : l1_7.length ≤ c1_7) (hr1_10 : Kd.C k35 w A1_10 l1_10.length l1_10) (hc1_10 : l1_10.length ≤ c1_10) (h : foghornref17_Same.f k a0_0 l0_1 a0_2 a0_3 a0_4 a0_5 a0_6 l0_7 a0_8 a0_9 l0_10 a1_0 l1_1 a1_2 a1_3 a1_4 a1_5 a1_6 l1_7 a1_8 a1_9 l1_10 = some r) :
  Calls Try.prog 32 #[.agg #[.int .i64 a0_0, .slice A0_1 l0_1.length c0_1, .int .i64 a0_2, .int .i64 a0_3, .int .i64 a0_4, .int .i64 a0_5, .int .i64 a0_6, .slice A0_7 l0_7.length c0_7, .int .i64 a0_8, .int .i64 a0_9, .slice A0_10 l0_10.length c0_10], .agg #[.int .i64 a1_0, .slice A1_1 l1_1.length c1_1, .int .i64 a1_2, .int .i64 a1_3, .int .i64 a1_4, .int .i64 a1_5, .int .i64 a1_6, .slice A1_7 l1_7.length c1_7, .int .i64 a1_8, .int .i64 a1_9, .slice A1_10 l1_10.length c1_10]] w fun e w' => e = .returned (.bool r) ∧ Below w.heap.size w w' := by
 have hu50 := Try.underlying50
 have hu46 := Try.underlying46
 have hu48 := Try.underlying48
 have HR0_1 := aA hr0_1
 have HC0_1 := aA hc0_1
 clear hr0_1 hc0_1
 have HR0_7 := aA hr0_7
 have HC0_7 := aA hc0_7
 clear hr0_7 hc0_7
 have HR0_10 := aA hr0_10
 have HC0_10 := aA hc0_10
 clear hr0_10 hc0_10
 have HR1_1 := aA hr1_1
 have HC1_1 := aA hc1_1
 clear hr1_1 hc1_1
 have HR1_7 := aA hr1_7
 have HC1_7 := aA hc1_7
 clear hr1_7 hc1_7
 have HR1_10 := aA hr1_10
 have HC1_10 := aA hc1_10
 clear hr1_10 hc1_10
 have HB := aA (Below.refl w.heap.size w)
 have H : (if a0_0 = a1_0 then ((foghornref16_Same.f l0_1 a0_2 a0_3 a0_4 a0_5 a0_6 l1_1 a1_2 a1_3 a1_4 a1_5 a1_6).bind fun t399 => (if t399 = true then ((foghornref10_Same.f l0_7 l1_7).bind fun t400 => (if t400 = true then ((foghornref12_Hushes.f k a0_8 a0_9 l0_10 a1_8 a1_9 l1_10).bind fun t401 => (some t401)) else (some false))) else (some false))) else (some false)) = some r := h
 clear h
 by_cases c3 : a0_0 = a1_0
 ·rw [if_pos c3] at H
  have c3b0 : (a0_0 == a1_0) = true := beq_iff_eq.mpr c3
  have c3b1 : (a0_0 != a1_0) = false := bne_eq_false_iff_eq.mpr c3
  clear c3
  replace H := Option.bind_eq_some_iff.mp H
  obtain ⟨t399, A40, H⟩ := H
  have A4 := aA A40
  clear A40
  by_cases c5 : t399 = true
  ·subst c5
   have H1 : ((foghornref10_Same.f l0_7 l1_7).bind fun t400 => (if t400 = true then ((foghornref12_Hushes.f k a0_8 a0_9 l0_10 a1_8 a1_9 l1_10).bind fun t401 => (some t401)) else (some false))) = some r := by rw [if_pos rfl] at H; exact H
   clear H
   have H := H1
   clear H1
   replace H := Option.bind_eq_some_iff.mp H
   obtain ⟨t400, A60, H⟩ := H
   have A6 := aA A60
   clear A60
   by_cases c7 : t400 = true
   ·subst c7
    have H1 : ((foghornref12_Hushes.f k a0_8 a0_9 l0_10 a1_8 a1_9 l1_10).bind fun t401 => (some t401)) = some r := by rw [if_pos rfl] at H; exact H
    clear H
    have H := H1
    clear H1
    replace H := Option.bind_eq_some_iff.mp H
    obtain ⟨t401, A80, H⟩ := H
    have A8 := aA A80
    clear A80
    obtain rfl := Option.some.inj H
    go_enter Try.func32, Try.ntmps32
    go_wp2_with (first | ((with_reducible refine gate_dst (N := 2) rfl ?_); refine box_event ?hg (N := 2) ?hd (cs := #[.int .i64 a0_0, .slice A0_1 l0_1.length c0_1, .int .i64 a0_2, .int .i64 a0_3, .int .i64 a0_4, .int .i64 a0_5, .int .i64 a0_6, .slice A0_7 l0_7.length c0_7, .int .i64 a0_8, .int .i64 a0_9, .slice A0_10 l0_10.length c0_10]) (t := 50) ?hr ?_; (case hd => rfl); (case hg => rfl); (case hr => first | (go_simp; done) | (go_simp; rfl)); intro gb397 hg w9 hbox hb; have n0_ := aA (below_step mB hb); have n1_ := aA (hbox); have n2_ := aA ((bZ hg mB)); have n3_ := aA ((bZ hg mB)); clear HB; have HB := n0_; have BK397 := n1_; have GW397 := n2_; have GE397 := n3_; clear n0_ n1_ n2_ n3_ hb hbox hg) | ((with_reducible refine gate_dst (N := 3) rfl ?_); refine box_event ?hg (N := 3) ?hd (cs := #[.int .i64 a1_0, .slice A1_1 l1_1.length c1_1, .int .i64 a1_2, .int .i64 a1_3, .int .i64 a1_4, .int .i64 a1_5, .int .i64 a1_6, .slice A1_7 l1_7.length c1_7, .int .i64 a1_8, .int .i64 a1_9, .slice A1_10 l1_10.length c1_10]) (t := 50) ?hr ?_; (case hd => rfl); (case hg => rfl); (case hr => first | (go_simp; done) | (go_simp; rfl)); intro gb398 hg w10 hbox hb; have n0_ := aA (bB BK397.out hb); have n1_ := aA (below_step (mD1 GE397.out) hb); have n2_ := aA (hbox); have n3_ := aA ((bZ hg (mD1 GE397.out))); have n4_ := aA ((bZ hg (mD1 GE397.out))); have n5_ := aA ((bL hg BK397.out)); have n6_ := aA ((bG hg BK397.out)); clear BK397 HB; have BK397 := n0_; have HB := n1_; have BK398 := n2_; have GW398 := n3_; have GE398 := n4_; have NB397_398 := n5_; have NB398_397 := n6_; clear n0_ n1_ n2_ n3_ n4_ n5_ n6_ hb hbox hg; have hnb11 := NB397_398.out; have hnc11 := NB398_397.out; obtain ⟨hcz12_0, hcz12_1, hcz12_2, hcz12_3, hcz12_4, hcz12_5, hcz12_6, hcz12_7, hcz12_8, hcz12_9, hcz12_10⟩ := bC11 BK397.out; obtain ⟨hfz12_0, hfz12_1, hfz12_2, hfz12_3, hfz12_4, hfz12_5, hfz12_6, hfz12_7, hfz12_8, hfz12_9, hfz12_10⟩ := bF11 BK397.out; obtain ⟨hcz13_0, hcz13_1, hcz13_2, hcz13_3, hcz13_4, hcz13_5, hcz13_6, hcz13_7, hcz13_8, hcz13_9, hcz13_10⟩ := bC11 BK398.out; obtain ⟨hfz13_0, hfz13_1, hfz13_2, hfz13_3, hfz13_4, hfz13_5, hfz13_6, hfz13_7, hfz13_8, hfz13_9, hfz13_10⟩ := bF11 BK398.out) | (go_at_call 53; (with_reducible refine (foghornref16_Same.calls _ _ l0_1 a0_2 a0_3 a0_4 a0_5 a0_6 _ _ l1_1 a1_2 a1_3 a1_4 a1_5 a1_6 true _ ?side1 ?side2 ?side3 ?side4 A4.out).mono ?_); (case side1 => exact mC ((Kd.C_below HR0_1.out HB.out))); (case side2 => exact HC0_1.out); (case side3 => exact mC ((Kd.C_below HR1_1.out HB.out))); (case side4 => exact HC1_1.out); rintro e w14 ⟨rfl, hb⟩; have n0_ := aA (bB BK397.out hb); have n1_ := aA (bB BK398.out hb); have n2_ := aA (below_step (mD2 GE397.out GE398.out) hb); clear BK397 BK398 HB; have BK397 := n0_; have BK398 := n1_; have HB := n2_; clear n0_ n1_ n2_; (try clear hb); (try clear hb2); (try clear hk); (try clear hi); obtain ⟨hcz15_0, hcz15_1, hcz15_2, hcz15_3, hcz15_4, hcz15_5, hcz15_6, hcz15_7, hcz15_8, hcz15_9, hcz15_10⟩ := bC11 BK397.out; obtain ⟨hfz15_0, hfz15_1, hfz15_2, hfz15_3, hfz15_4, hfz15_5, hfz15_6, hfz15_7, hfz15_8, hfz15_9, hfz15_10⟩ := bF11 BK397.out; obtain ⟨hcz16_0, hcz16_1, hcz16_2, hcz16_3, hcz16_4, hcz16_5, hcz16_6, hcz16_7, hcz16_8, hcz16_9, hcz16_10⟩ := bC11 BK398.out; obtain ⟨hfz16_0, hfz16_1, hfz16_2, hfz16_3, hfz16_4, hfz16_5, hfz16_6, hfz16_7, hfz16_8, hfz16_9, hfz16_10⟩ := bF11 BK398.out) | (go_at_call 17; (with_reducible refine (foghornref10_Same.calls _ _ l0_7 _ _ l1_7 true _ ?side1 ?side2 ?side3 ?side4 A6.out).mono ?_); (case side1 => exact mC ((Kd.C_below HR0_7.out HB.out))); (case side2 => exact HC0_7.out); (case side3 => exact mC ((Kd.C_below HR1_7.out HB.out))); (case side4 => exact HC1_7.out); rintro e w17 ⟨rfl, hb⟩; have n0_ := aA (bB BK397.out hb); have n1_ := aA (bB BK398.out hb); have n2_ := aA (below_step (mD2 GE397.out GE398.out) hb); clear BK397 BK398 HB; have BK397 := n0_; have BK398 := n1_; have HB := n2_; clear n0_ n1_ n2_; (try clear hb); (try clear hb2); (try clear hk); (try clear hi); obtain ⟨hcz18_0, hcz18_1, hcz18_2, hcz18_3, hcz18_4, hcz18_5, hcz18_6, hcz18_7, hcz18_8, hcz18_9, hcz18_10⟩ := bC11 BK397.out; obtain ⟨hfz18_0, hfz18_1, hfz18_2, hfz18_3, hfz18_4, hfz18_5, hfz18_6, hfz18_7, hfz18_8, hfz18_9, hfz18_10⟩ := bF11 BK397.out; obtain ⟨hcz19_0, hcz19_1, hcz19_2, hcz19_3, hcz19_4, hcz19_5, hcz19_6, hcz19_7, hcz19_8, hcz19_9, hcz19_10⟩ := bC11 BK398.out; obtain ⟨hfz19_0, hfz19_1, hfz19_2, hfz19_3, hfz19_4, hfz19_5, hfz19_6, hfz19_7, hfz19_8, hfz19_9, hfz19_10⟩ := bF11 BK398.out) | (go_at_call 54; (with_reducible refine (foghornref12_Hushes.calls k a0_8 a0_9 _ _ l0_10 a1_8 a1_9 _ _ l1_10 t401 _ ?side1 ?side2 ?side3 ?side4 A8.out).mono ?_); (case side1 => exact mC ((Kd.C_below HR0_10.out HB.out))); (case side2 => exact HC0_10.out); (case side3 => exact mC ((Kd.C_below HR1_10.out HB.out))); (case side4 => exact HC1_10.out); rintro e w20 ⟨rfl, hb⟩; have n0_ := aA (bB BK397.out hb); have n1_ := aA (bB BK398.out hb); have n2_ := aA (below_step (mD2 GE397.out GE398.out) hb); clear BK397 BK398 HB; have BK397 := n0_; have BK398 := n1_; have HB := n2_; clear n0_ n1_ n2_; (try clear hb); (try clear hb2); (try clear hk); (try clear hi)))
    go_ret
    exact ⟨by first | rfl | (simp [errW_none, errW_some] <;> rfl) | (simp [*, errW_none, errW_some] <;> rfl), by repeat (first | (with_reducible first | exact HB.out | apply below_alloc | apply pw_below_drewN | apply below_drew1 | refine below_set ?_ GE397.out | refine below_set ?_ GE398.out) | exact HB.out)⟩
   ·replace c7 := Bool.eq_false_iff.mpr c7
    subst c7
    have H1 : (some false) = some r := by rw [if_neg (show ¬ (false = true) by decide)] at H; exact H
    clear H
    have H := H1
    clear H1
    obtain rfl := Option.some.inj H
    go_enter Try.func32, Try.ntmps32
    go_wp2_with (first | ((with_reducible refine gate_dst (N := 2) rfl ?_); refine box_event ?hg (N := 2) ?hd (cs := #[.int .i64 a0_0, .slice A0_1 l0_1.length c0_1, .int .i64 a0_2, .int .i64 a0_3, .int .i64 a0_4, .int .i64 a0_5, .int .i64 a0_6, .slice A0_7 l0_7.length c0_7, .int .i64 a0_8, .int .i64 a0_9, .slice A0_10 l0_10.length c0_10]) (t := 50) ?hr ?_; (case hd => rfl); (case hg => rfl); (case hr => first | (go_simp; done) | (go_simp; rfl)); intro gb397 hg w21 hbox hb; have n0_ := aA (below_step mB hb); have n1_ := aA (hbox); have n2_ := aA ((bZ hg mB)); have n3_ := aA ((bZ hg mB)); clear HB; have HB := n0_; have BK397 := n1_; have GW397 := n2_; have GE397 := n3_; clear n0_ n1_ n2_ n3_ hb hbox hg) | ((with_reducible refine gate_dst (N := 3) rfl ?_); refine box_event ?hg (N := 3) ?hd (cs := #[.int .i64 a1_0, .slice A1_1 l1_1.length c1_1, .int .i64 a1_2, .int .i64 a1_3, .int .i64 a1_4, .int .i64 a1_5, .int .i64 a1_6, .slice A1_7 l1_7.length c1_7, .int .i64 a1_8, .int .i64 a1_9, .slice A1_10 l1_10.length c1_10]) (t := 50) ?hr ?_; (case hd => rfl); (case hg => rfl); (case hr => first | (go_simp; done) | (go_simp; rfl)); intro gb398 hg w22 hbox hb; have n0_ := aA (bB BK397.out hb); have n1_ := aA (below_step (mD1 GE397.out) hb); have n2_ := aA (hbox); have n3_ := aA ((bZ hg (mD1 GE397.out))); have n4_ := aA ((bZ hg (mD1 GE397.out))); have n5_ := aA ((bL hg BK397.out)); have n6_ := aA ((bG hg BK397.out)); clear BK397 HB; have BK397 := n0_; have HB := n1_; have BK398 := n2_; have GW398 := n3_; have GE398 := n4_; have NB397_398 := n5_; have NB398_397 := n6_; clear n0_ n1_ n2_ n3_ n4_ n5_ n6_ hb hbox hg; have hnb23 := NB397_398.out; have hnc23 := NB398_397.out; obtain ⟨hcz24_0, hcz24_1, hcz24_2, hcz24_3, hcz24_4, hcz24_5, hcz24_6, hcz24_7, hcz24_8, hcz24_9, hcz24_10⟩ := bC11 BK397.out; obtain ⟨hfz24_0, hfz24_1, hfz24_2, hfz24_3, hfz24_4, hfz24_5, hfz24_6, hfz24_7, hfz24_8, hfz24_9, hfz24_10⟩ := bF11 BK397.out; obtain ⟨hcz25_0, hcz25_1, hcz25_2, hcz25_3, hcz25_4, hcz25_5, hcz25_6, hcz25_7, hcz25_8, hcz25_9, hcz25_10⟩ := bC11 BK398.out; obtain ⟨hfz25_0, hfz25_1, hfz25_2, hfz25_3, hfz25_4, hfz25_5, hfz25_6, hfz25_7, hfz25_8, hfz25_9, hfz25_10⟩ := bF11 BK398.out) | (go_at_call 53; (with_reducible refine (foghornref16_Same.calls _ _ l0_1 a0_2 a0_3 a0_4 a0_5 a0_6 _ _ l1_1 a1_2 a1_3 a1_4 a1_5 a1_6 true _ ?side1 ?side2 ?side3 ?side4 A4.out).mono ?_); (case side1 => exact mC ((Kd.C_below HR0_1.out HB.out))); (case side2 => exact HC0_1.out); (case side3 => exact mC ((Kd.C_below HR1_1.out HB.out))); (case side4 => exact HC1_1.out); rintro e w26 ⟨rfl, hb⟩; have n0_ := aA (bB BK397.out hb); have n1_ := aA (bB BK398.out hb); have n2_ := aA (below_step (mD2 GE397.out GE398.out) hb); clear BK397 BK398 HB; have BK397 := n0_; have BK398 := n1_; have HB := n2_; clear n0_ n1_ n2_; (try clear hb); (try clear hb2); (try clear hk); (try clear hi); obtain ⟨hcz27_0, hcz27_1, hcz27_2, hcz27_3, hcz27_4, hcz27_5, hcz27_6, hcz27_7, hcz27_8, hcz27_9, hcz27_10⟩ := bC11 BK397.out; obtain ⟨hfz27_0, hfz27_1, hfz27_2, hfz27_3, hfz27_4, hfz27_5, hfz27_6, hfz27_7, hfz27_8, hfz27_9, hfz27_10⟩ := bF11 BK397.out; obtain ⟨hcz28_0, hcz28_1, hcz28_2, hcz28_3, hcz28_4, hcz28_5, hcz28_6, hcz28_7, hcz28_8, hcz28_9, hcz28_10⟩ := bC11 BK398.out; obtain ⟨hfz28_0, hfz28_1, hfz28_2, hfz28_3, hfz28_4, hfz28_5, hfz28_6, hfz28_7, hfz28_8, hfz28_9, hfz28_10⟩ := bF11 BK398.out) | (go_at_call 17; (with_reducible refine (foghornref10_Same.calls _ _ l0_7 _ _ l1_7 false _ ?side1 ?side2 ?side3 ?side4 A6.out).mono ?_); (case side1 => exact mC ((Kd.C_below HR0_7.out HB.out))); (case side2 => exact HC0_7.out); (case side3 => exact mC ((Kd.C_below HR1_7.out HB.out))); (case side4 => exact HC1_7.out); rintro e w29 ⟨rfl, hb⟩; have n0_ := aA (bB BK397.out hb); have n1_ := aA (bB BK398.out hb); have n2_ := aA (below_step (mD2 GE397.out GE398.out) hb); clear BK397 BK398 HB; have BK397 := n0_; have BK398 := n1_; have HB := n2_; clear n0_ n1_ n2_; (try clear hb); (try clear hb2); (try clear hk); (try clear hi)))
    go_ret
    exact ⟨by first | rfl | (simp [errW_none, errW_some] <;> rfl) | (simp [*, errW_none, errW_some] <;> rfl), by repeat (first | (with_reducible first | exact HB.out | apply below_alloc | apply pw_below_drewN | apply below_drew1 | refine below_set ?_ GE397.out | refine below_set ?_ GE398.out) | exact HB.out)⟩
  ·replace c5 := Bool.eq_false_iff.mpr c5
   subst c5
   have H1 : (some false) = some r := by rw [if_neg (show ¬ (false = true) by decide)] at H; exact H
   clear H
   have H := H1
   clear H1
   obtain rfl := Option.some.inj H
   go_enter Try.func32, Try.ntmps32
   go_wp2_with (first | ((with_reducible refine gate_dst (N := 2) rfl ?_); refine box_event ?hg (N := 2) ?hd (cs := #[.int .i64 a0_0, .slice A0_1 l0_1.length c0_1, .int .i64 a0_2, .int .i64 a0_3, .int .i64 a0_4, .int .i64 a0_5, .int .i64 a0_6, .slice A0_7 l0_7.length c0_7, .int .i64 a0_8, .int .i64 a0_9, .slice A0_10 l0_10.length c0_10]) (t := 50) ?hr ?_; (case hd => rfl); (case hg => rfl); (case hr => first | (go_simp; done) | (go_simp; rfl)); intro gb397 hg w30 hbox hb; have n0_ := aA (below_step mB hb); have n1_ := aA (hbox); have n2_ := aA ((bZ hg mB)); have n3_ := aA ((bZ hg mB)); clear HB; have HB := n0_; have BK397 := n1_; have GW397 := n2_; have GE397 := n3_; clear n0_ n1_ n2_ n3_ hb hbox hg) | ((with_reducible refine gate_dst (N := 3) rfl ?_); refine box_event ?hg (N := 3) ?hd (cs := #[.int .i64 a1_0, .slice A1_1 l1_1.length c1_1, .int .i64 a1_2, .int .i64 a1_3, .int .i64 a1_4, .int .i64 a1_5, .int .i64 a1_6, .slice A1_7 l1_7.length c1_7, .int .i64 a1_8, .int .i64 a1_9, .slice A1_10 l1_10.length c1_10]) (t := 50) ?hr ?_; (case hd => rfl); (case hg => rfl); (case hr => first | (go_simp; done) | (go_simp; rfl)); intro gb398 hg w31 hbox hb; have n0_ := aA (bB BK397.out hb); have n1_ := aA (below_step (mD1 GE397.out) hb); have n2_ := aA (hbox); have n3_ := aA ((bZ hg (mD1 GE397.out))); have n4_ := aA ((bZ hg (mD1 GE397.out))); have n5_ := aA ((bL hg BK397.out)); have n6_ := aA ((bG hg BK397.out)); clear BK397 HB; have BK397 := n0_; have HB := n1_; have BK398 := n2_; have GW398 := n3_; have GE398 := n4_; have NB397_398 := n5_; have NB398_397 := n6_; clear n0_ n1_ n2_ n3_ n4_ n5_ n6_ hb hbox hg; have hnb32 := NB397_398.out; have hnc32 := NB398_397.out; obtain ⟨hcz33_0, hcz33_1, hcz33_2, hcz33_3, hcz33_4, hcz33_5, hcz33_6, hcz33_7, hcz33_8, hcz33_9, hcz33_10⟩ := bC11 BK397.out; obtain ⟨hfz33_0, hfz33_1, hfz33_2, hfz33_3, hfz33_4, hfz33_5, hfz33_6, hfz33_7, hfz33_8, hfz33_9, hfz33_10⟩ := bF11 BK397.out; obtain ⟨hcz34_0, hcz34_1, hcz34_2, hcz34_3, hcz34_4, hcz34_5, hcz34_6, hcz34_7, hcz34_8, hcz34_9, hcz34_10⟩ := bC11 BK398.out; obtain ⟨hfz34_0, hfz34_1, hfz34_2, hfz34_3, hfz34_4, hfz34_5, hfz34_6, hfz34_7, hfz34_8, hfz34_9, hfz34_10⟩ := bF11 BK398.out) | (go_at_call 53; (with_reducible refine (foghornref16_Same.calls _ _ l0_1 a0_2 a0_3 a0_4 a0_5 a0_6 _ _ l1_1 a1_2 a1_3 a1_4 a1_5 a1_6 false _ ?side1 ?side2 ?side3 ?side4 A4.out).mono ?_); (case side1 => exact mC ((Kd.C_below HR0_1.out HB.out))); (case side2 => exact HC0_1.out); (case side3 => exact mC ((Kd.C_below HR1_1.out HB.out))); (case side4 => exact HC1_1.out); rintro e w35 ⟨rfl, hb⟩; have n0_ := aA (bB BK397.out hb); have n1_ := aA (bB BK398.out hb); have n2_ := aA (below_step (mD2 GE397.out GE398.out) hb); clear BK397 BK398 HB; have BK397 := n0_; have BK398 := n1_; have HB := n2_; clear n0_ n1_ n2_; (try clear hb); (try clear hb2); (try clear hk); (try clear hi)))
   go_ret
   exact ⟨by first | rfl | (simp [errW_none, errW_some] <;> rfl) | (simp [*, errW_none, errW_some] <;> rfl), by repeat (first | (with_reducible first | exact HB.out | apply below_alloc | apply pw_below_drewN | apply below_drew1 | refine below_set ?_ GE397.out | refine below_set ?_ GE398.out) | exact HB.out)⟩
 ·rw [if_neg c3] at H
  have c3b0 : (a0_0 == a1_0) = false := beq_eq_false_iff_ne.mpr c3
  have c3b1 : (a0_0 != a1_0) = true := bne_iff_ne.mpr c3
  obtain rfl := Option.some.inj H
  go_enter Try.func32, Try.ntmps32
  go_wp2_with (first | ((with_reducible refine gate_dst (N := 2) rfl ?_); refine box_event ?hg (N := 2) ?hd (cs := #[.int .i64 a0_0, .slice A0_1 l0_1.length c0_1, .int .i64 a0_2, .int .i64 a0_3, .int .i64 a0_4, .int .i64 a0_5, .int .i64 a0_6, .slice A0_7 l0_7.length c0_7, .int .i64 a0_8, .int .i64 a0_9, .slice A0_10 l0_10.length c0_10]) (t := 50) ?hr ?_; (case hd => rfl); (case hg => rfl); (case hr => first | (go_simp; done) | (go_simp; rfl)); intro gb397 hg w36 hbox hb; have n0_ := aA (below_step mB hb); have n1_ := aA (hbox); have n2_ := aA ((bZ hg mB)); have n3_ := aA ((bZ hg mB)); clear HB; have HB := n0_; have BK397 := n1_; have GW397 := n2_; have GE397 := n3_; clear n0_ n1_ n2_ n3_ hb hbox hg) | ((with_reducible refine gate_dst (N := 3) rfl ?_); refine box_event ?hg (N := 3) ?hd (cs := #[.int .i64 a1_0, .slice A1_1 l1_1.length c1_1, .int .i64 a1_2, .int .i64 a1_3, .int .i64 a1_4, .int .i64 a1_5, .int .i64 a1_6, .slice A1_7 l1_7.length c1_7, .int .i64 a1_8, .int .i64 a1_9, .slice A1_10 l1_10.length c1_10]) (t := 50) ?hr ?_; (case hd => rfl); (case hg => rfl); (case hr => first | (go_simp; done) | (go_simp; rfl)); intro gb398 hg w37 hbox hb; have n0_ := aA (bB BK397.out hb); have n1_ := aA (below_step (mD1 GE397.out) hb); have n2_ := aA (hbox); have n3_ := aA ((bZ hg (mD1 GE397.out))); have n4_ := aA ((bZ hg (mD1 GE397.out))); have n5_ := aA ((bL hg BK397.out)); have n6_ := aA ((bG hg BK397.out)); clear BK397 HB; have BK397 := n0_; have HB := n1_; have BK398 := n2_; have GW398 := n3_; have GE398 := n4_; have NB397_398 := n5_; have NB398_397 := n6_; clear n0_ n1_ n2_ n3_ n4_ n5_ n6_ hb hbox hg; have hnb38 := NB397_398.out; have hnc38 := NB398_397.out; obtain ⟨hcz39_0, hcz39_1, hcz39_2, hcz39_3, hcz39_4, hcz39_5, hcz39_6, hcz39_7, hcz39_8, hcz39_9, hcz39_10⟩ := bC11 BK397.out; obtain ⟨hfz39_0, hfz39_1, hfz39_2, hfz39_3, hfz39_4, hfz39_5, hfz39_6, hfz39_7, hfz39_8, hfz39_9, hfz39_10⟩ := bF11 BK397.out; obtain ⟨hcz40_0, hcz40_1, hcz40_2, hcz40_3, hcz40_4, hcz40_5, hcz40_6, hcz40_7, hcz40_8, hcz40_9, hcz40_10⟩ := bC11 BK398.out; obtain ⟨hfz40_0, hfz40_1, hfz40_2, hfz40_3, hfz40_4, hfz40_5, hfz40_6, hfz40_7, hfz40_8, hfz40_9, hfz40_10⟩ := bF11 BK398.out))
  go_ret
  exact ⟨by first | rfl | (simp [errW_none, errW_some] <;> rfl) | (simp [*, errW_none, errW_some] <;> rfl), by repeat (first | (with_reducible first | exact HB.out | apply below_alloc | apply pw_below_drewN | apply below_drew1 | refine below_set ?_ GE397.out | refine below_set ?_ GE398.out) | exact HB.out)⟩
end Go.Proofs.YtndgollcganhmaaQ.P
namespace Go.Proofs.YtndgollcganhmaaQ.P
open Go.RowKit Go.Proofs.YtndgollcganhmaaW.PrintWords Go.Proofs.YtndgollcganhmaaW.PrintLast Go.Proofs.YtndgollcganhmaaW.PrintMore
attribute [local go_sem] max2_int min2_int max_two min_two max_three min_three max_four min_four
def foghornlaw17_CodeBack.j0 : Nat → ByteArray → Option (Bool)
 | 0, _ => none
 | k + 1, x1 => (code_Get.f x1).bind fun bt484 => (if bt484.2.2.2.2.2.2.2.2.2.2.2 = 0 then ((code_Put.f bt484.1 bt484.2.1 bt484.2.2.1 bt484.2.2.2.1 bt484.2.2.2.2.1 bt484.2.2.2.2.2.1 bt484.2.2.2.2.2.2.1 bt484.2.2.2.2.2.2.2.1 bt484.2.2.2.2.2.2.2.2.1 bt484.2.2.2.2.2.2.2.2.2.1 bt484.2.2.2.2.2.2.2.2.2.2.1).bind fun bt503 => ((foghornlaw17_alive.f).bind fun t505 => (if t505 = true then ((code_Right.f bt484.1 bt484.2.1 bt484.2.2.1 bt484.2.2.2.1 bt484.2.2.2.2.1 bt484.2.2.2.2.2.1 bt484.2.2.2.2.2.2.1 bt484.2.2.2.2.2.2.2.1 bt484.2.2.2.2.2.2.2.2.1 bt484.2.2.2.2.2.2.2.2.2.1 bt484.2.2.2.2.2.2.2.2.2.2.1).bind fun t506 => (if t506 = true then (if bt503.2 = 0 then (some (bt503.1.toList == x1.toList)) else (some false)) else (some false))) else (some false)))) else ((foghornlaw17_alive.f).bind fun t507 => (if t507 = true then ((foghornref17_Same.f k bt484.1 bt484.2.1 bt484.2.2.1 bt484.2.2.2.1 bt484.2.2.2.2.1 bt484.2.2.2.2.2.1 bt484.2.2.2.2.2.2.1 bt484.2.2.2.2.2.2.2.1 bt484.2.2.2.2.2.2.2.2.1 bt484.2.2.2.2.2.2.2.2.2.1 bt484.2.2.2.2.2.2.2.2.2.2.1 0 ([] : List (S41)) 0 0 0 0 0 ([] : List (S41)) 0 0 ([] : List (S35))).bind fun t508 => (some t508)) else (some false))))
def foghornlaw17_CodeBack.f (k : Nat) (a0_0 : Int) (l0_1 : List (S41)) (a0_2 : Int) (a0_3 : Int) (a0_4 : Int) (a0_5 : Int) (a0_6 : Int) (l0_7 : List (S41)) (a0_8 : Int) (a0_9 : Int) (l0_10 : List (S35)) (a1 : ByteArray) : Option (Bool) := (foghornlaw17_few.f k a0_0 l0_1 a0_2 a0_3 a0_4 a0_5 a0_6 l0_7 a0_8 a0_9 l0_10).bind fun bt445 => (if 0 ≤ (mn (a1.size : Int) 130) then (if (mn (a1.size : Int) 130) ≤ (a1.size : Int) then ((code_Put.f bt445.1 bt445.2.1 bt445.2.2.1 bt445.2.2.2.1 bt445.2.2.2.2.1 bt445.2.2.2.2.2.1 bt445.2.2.2.2.2.2.1 bt445.2.2.2.2.2.2.2.1 bt445.2.2.2.2.2.2.2.2.1 bt445.2.2.2.2.2.2.2.2.2.1 bt445.2.2.2.2.2.2.2.2.2.2).bind fun bt462 => (if bt462.2 = 0 then ((code_Get.f bt462.1).bind fun bt464 => (if bt464.2.2.2.2.2.2.2.2.2.2.2 = 0 then ((foghornref17_Same.f k bt464.1 bt464.2.1 bt464.2.2.1 bt464.2.2.2.1 bt464.2.2.2.2.1 bt464.2.2.2.2.2.1 bt464.2.2.2.2.2.2.1 bt464.2.2.2.2.2.2.2.1 bt464.2.2.2.2.2.2.2.2.1 bt464.2.2.2.2.2.2.2.2.2.1 bt464.2.2.2.2.2.2.2.2.2.2.1 bt445.1 bt445.2.1 bt445.2.2.1 bt445.2.2.2.1 bt445.2.2.2.2.1 bt445.2.2.2.2.2.1 bt445.2.2.2.2.2.2.1 bt445.2.2.2.2.2.2.2.1 bt445.2.2.2.2.2.2.2.2.1 bt445.2.2.2.2.2.2.2.2.2.1 bt445.2.2.2.2.2.2.2.2.2.2).bind fun t483 => (if t483 = true then (if (bt462.1.size : Int) > 90 then (some false) else (foghornlaw17_CodeBack.j0 k (a1.extract 0 ((mn (a1.size : Int) 130) : Int).toNat))) else (some false))) else (some false))) else (foghornlaw17_CodeBack.j0 k (a1.extract 0 ((mn (a1.size : Int) 130) : Int).toNat)))) else (none)) else (none))
def foghornlaw17_CodeBack.T1 : Bool × List (List Nat × List Nat) := (true, [([], []), ([0], [0]), ([], []), ([], []), ([3], [3]), ([4], [4]), ([2, 5], [2, 5]), ([1, 1, 0, 1], [1]), ([6, 7, 0, 1, 2, 3, 4, 5, 6, 7], [2, 3, 6])])
def foghornlaw17_CodeBack.B1 : List Nat := [0, 1, 0, 0, 8, 24, 60, 3, 255]
theorem foghornlaw17_CodeBack.tab1 : rtab .any (opsOf Try.f8 1) = foghornlaw17_CodeBack.T1 := by kernel_rfl
theorem foghornlaw17_CodeBack.bits1 : waitsOk foghornlaw17_CodeBack.T1.2 foghornlaw17_CodeBack.B1 = true := by kernel_rfl
set_option maxHeartbeats 8000000 in
set_option maxRecDepth 100000 in
theorem foghornlaw17_CodeBack.calls (k : Nat) (a0_0 : Int) (A0_1 : Option Addr) (c0_1 : Nat) (l0_1 : List (S41)) (a0_2 : Int) (a0_3 : Int) (a0_4 : Int) (a0_5 : Int) (a0_6 : Int) (A0_7 : Option Addr) (c0_7 : Nat) (l0_7 : List (S41)) (a0_8 : Int) (a0_9 : Int) (A0_10 : Option Addr) (c0_10 : Nat) (l0_10 : List (S35)) (a1 : ByteArray) (r : Bool) (w : World) (hr0_1 : Kd.C k41 w A0_1 l0_1.length l0_1) (hc0_1 : l0_1.length ≤ c0_1) (hr0_7 : Kd.C k41 w A0_7 l0_7.length l0_7) (hc0_7 : l0_7.length ≤ c0_7) (hr0_10 : Kd.C k35 w A0_10 l0_10.length l0_10) (hc0_10 : l0_10.length ≤ c0_10) (h : foghornlaw17_CodeBack.f k a0_0 l0_1 a0_2 a0_3 a0_4 a0_5 a0_6 l0_7 a0_8 a0_9 l0_10 a1 = some r) :
  Calls Try.prog 8 #[.agg #[.int .i64 a0_0, .slice A0_1 l0_1.length c0_1, .int .i64 a0_2, .int .i64 a0_3, .int .i64 a0_4, .int .i64 a0_5, .int .i64 a0_6, .slice A0_7 l0_7.length c0_7, .int .i64 a0_8, .int .i64 a0_9, .slice A0_10 l0_10.length c0_10], .string a1] w fun e w' => e = .returned (.bool r) ∧ Below w.heap.size w w' := by
 have hu50 := Try.underlying50
 have HR0_1 := aA hr0_1
 have HC0_1 := aA hc0_1
 clear hr0_1 hc0_1
 have HR0_7 := aA hr0_7
 have HC0_7 := aA hc0_7
 clear hr0_7 hc0_7
 have HR0_10 := aA hr0_10
 have HC0_10 := aA hc0_10
 clear hr0_10 hc0_10
 have HB := aA (Below.refl w.heap.size w)
 have H : ((foghornlaw17_few.f k a0_0 l0_1 a0_2 a0_3 a0_4 a0_5 a0_6 l0_7 a0_8 a0_9 l0_10).bind fun bt445 => (if 0 ≤ (mn (a1.size : Int) 130) then (if (mn (a1.size : Int) 130) ≤ (a1.size : Int) then ((code_Put.f bt445.1 bt445.2.1 bt445.2.2.1 bt445.2.2.2.1 bt445.2.2.2.2.1 bt445.2.2.2.2.2.1 bt445.2.2.2.2.2.2.1 bt445.2.2.2.2.2.2.2.1 bt445.2.2.2.2.2.2.2.2.1 bt445.2.2.2.2.2.2.2.2.2.1 bt445.2.2.2.2.2.2.2.2.2.2).bind fun bt462 => (if bt462.2 = 0 then ((code_Get.f bt462.1).bind fun bt464 => (if bt464.2.2.2.2.2.2.2.2.2.2.2 = 0 then ((foghornref17_Same.f k bt464.1 bt464.2.1 bt464.2.2.1 bt464.2.2.2.1 bt464.2.2.2.2.1 bt464.2.2.2.2.2.1 bt464.2.2.2.2.2.2.1 bt464.2.2.2.2.2.2.2.1 bt464.2.2.2.2.2.2.2.2.1 bt464.2.2.2.2.2.2.2.2.2.1 bt464.2.2.2.2.2.2.2.2.2.2.1 bt445.1 bt445.2.1 bt445.2.2.1 bt445.2.2.2.1 bt445.2.2.2.2.1 bt445.2.2.2.2.2.1 bt445.2.2.2.2.2.2.1 bt445.2.2.2.2.2.2.2.1 bt445.2.2.2.2.2.2.2.2.1 bt445.2.2.2.2.2.2.2.2.2.1 bt445.2.2.2.2.2.2.2.2.2.2).bind fun t483 => (if t483 = true then (if (bt462.1.size : Int) > 90 then (some false) else (foghornlaw17_CodeBack.j0 k (a1.extract 0 ((mn (a1.size : Int) 130) : Int).toNat))) else (some false))) else (some false))) else (foghornlaw17_CodeBack.j0 k (a1.extract 0 ((mn (a1.size : Int) 130) : Int).toNat)))) else (none)) else (none))) = some r := h
 clear h
 replace H := Option.bind_eq_some_iff.mp H
 obtain ⟨⟨t445, t446, t449, t450, t451, t452, t453, t454, t457, t458, t459⟩, A30, H⟩ := H
 have A3 := aA A30
 clear A30
 obtain ⟨ji4, hji4⟩ : ∃ j_ : Int, (mn (a1.size : Int) 130) = j_ := ⟨_, rfl⟩
 replace H : (if 0 ≤ (ji4) then (if (ji4) ≤ (a1.size : Int) then ((code_Put.f t445 t446 t449 t450 t451 t452 t453 t454 t457 t458 t459).bind fun bt462 => (if bt462.2 = 0 then ((code_Get.f bt462.1).bind fun bt464 => (if bt464.2.2.2.2.2.2.2.2.2.2.2 = 0 then ((foghornref17_Same.f k bt464.1 bt464.2.1 bt464.2.2.1 bt464.2.2.2.1 bt464.2.2.2.2.1 bt464.2.2.2.2.2.1 bt464.2.2.2.2.2.2.1 bt464.2.2.2.2.2.2.2.1 bt464.2.2.2.2.2.2.2.2.1 bt464.2.2.2.2.2.2.2.2.2.1 bt464.2.2.2.2.2.2.2.2.2.2.1 t445 t446 t449 t450 t451 t452 t453 t454 t457 t458 t459).bind fun t483 => (if t483 = true then (if (bt462.1.size : Int) > 90 then (some false) else (foghornlaw17_CodeBack.j0 k (a1.extract 0 ((ji4) : Int).toNat))) else (some false))) else (some false))) else (foghornlaw17_CodeBack.j0 k (a1.extract 0 ((ji4) : Int).toNat)))) else (none)) else (none)) = some r := by first | (rw [hji4] at H; exact H) | (simp only [hji4] at H ⊢; exact H)
 (try rw [hji4] at A3)
 (try (have hji4h : ji4 ≤ 130 := by (rw [← hji4]; unfold mn; (repeat' split) <;> omega)))
 (try (have hji4g : ji4 ≤ 64 := by omega))
 (try (have hji4l : 0 ≤ ji4 := by (rw [← hji4]; unfold mn; (repeat' split) <;> omega)))
 (try (have hji4m : 0 ≤ ji4 := by omega))
 have hji4_ : (if 130 < (a1.size : Int) then 130 else (a1.size : Int)) = ji4 := hji4
 by_cases c5 : 0 ≤ (ji4)
 ·rw [if_pos c5] at H
  have c5b0 := eq_true c5
  have c5b1 := decide_eq_true c5
  clear c5
  by_cases c6 : (ji4) ≤ (a1.size : Int)
  ·rw [if_pos c6] at H
   have c6b0 := eq_true c6
   have c6b1 := decide_eq_true c6
   clear c6
   replace H := Option.bind_eq_some_iff.mp H
   obtain ⟨⟨t462, t463⟩, A70, H⟩ := H
   have A7 := aA A70
   clear A70
   have HC8 := aA H
   clear H
   go_enter Try.func8, Try.ntmps8
   try go_wp2_with (first | ((with_reducible refine gate_dst (N := 2) rfl ?_); (try (refine gate_guard (by rfl) ?_; dsimp only)); refine box_event ?hg (N := 2) ?hd (cs := #[.int .i64 a0_0, .slice A0_1 l0_1.length c0_1, .int .i64 a0_2, .int .i64 a0_3, .int .i64 a0_4, .int .i64 a0_5, .int .i64 a0_6, .slice A0_7 l0_7.length c0_7, .int .i64 a0_8, .int .i64 a0_9, .slice A0_10 l0_10.length c0_10]) (t := 50) ?hr ?_; (case hd => rfl); (case hg => rfl); (case hr => first | (go_simp; done) | (go_simp; rfl)); intro gb444 hg w9 hbox hb; have n0_ := aA (below_step mB hb); have n1_ := aA (hbox); have n2_ := aA ((bZ hg mB)); have n3_ := aA ((bZ hg mB)); clear HB; have HB := n0_; have BK444 := n1_; have GW444 := n2_; have GE444 := n3_; clear n0_ n1_ n2_ n3_ hb hbox hg))
   have n0_ := aA (blk_drew BK444.out)
   have n1_ := aA (below_drew1 HB.out)
   clear BK444
   clear HB
   have BK444 := n0_
   have HB := n1_
   clear n0_ n1_
   refine start_ (n := 9) (S := fun w' => w'.cell? ⟨gb444, 0, none⟩ = some (.int .i64 a0_0) ∧ w'.cell? ⟨gb444, 1, none⟩ = some (.slice A0_1 l0_1.length c0_1) ∧ w'.cell? ⟨gb444, 2, none⟩ = some (.int .i64 a0_2) ∧ w'.cell? ⟨gb444, 3, none⟩ = some (.int .i64 a0_3) ∧ w'.cell? ⟨gb444, 4, none⟩ = some (.int .i64 a0_4) ∧ w'.cell? ⟨gb444, 5, none⟩ = some (.int .i64 a0_5) ∧ w'.cell? ⟨gb444, 6, none⟩ = some (.int .i64 a0_6) ∧ w'.cell? ⟨gb444, 7, none⟩ = some (.slice A0_7 l0_7.length c0_7) ∧ w'.cell? ⟨gb444, 8, none⟩ = some (.int .i64 a0_8) ∧ w'.cell? ⟨gb444, 9, none⟩ = some (.int .i64 a0_9) ∧ w'.cell? ⟨gb444, 10, none⟩ = some (.slice A0_10 l0_10.length c0_10)) (ds := [7]) #[false, false, false, false, false, false, false, false, false] (by kernel_rfl) rfl rfl (bC11 BK444.out) (fun hHeld => ?_); refine with_tabW foghornlaw17_CodeBack.tab1 foghornlaw17_CodeBack.bits1 (fun HT_ HW_ => ?_)
   generalize w9.drew = w10 at BK444 HB hHeld ⊢
   refine pure_ (i := 2) (N := some 15) (v := ?_) (a' := ?_) #[false, false, true, false, false, false, false, false, false] rfl rfl (any_of HT_.out (by kernel_rfl)) (fun _ _ _ h => h) (Or.inl ⟨by rfl, ?_⟩) ?_ ?_
   rotate_left
   ·intro w'
    go_simp
    with_reducible rfl
   rotate_left
   ·exact mP
   refine pure_ (i := 3) (N := some 16) (v := ?_) (a' := ?_) #[false, false, true, true, false, false, false, false, false] rfl rfl (any_of HT_.out (by kernel_rfl)) (fun _ _ _ h => h) (Or.inl ⟨by rfl, ?_⟩) ?_ ?_
   rotate_left
   ·intro w'
    go_simp
    with_reducible rfl
   rotate_left
   ·exact mP
   refine pure_ (i := 4) (N := some 17) (v := ?_) (a' := ?_) #[false, false, true, true, true, false, false, false, false] rfl rfl (any_of HT_.out (by kernel_rfl)) (fun _ _ _ h => h) (Or.inl ⟨by rfl, ?_⟩) ?_ ?_
   rotate_left
   ·intro w'
    go_simp
    with_reducible rfl
   rotate_left
   ·exact mP
   refine pure_ (i := 5) (N := some 18) (v := ?_) (a' := ?_) #[false, false, true, true, true, true, false, false, false] rfl rfl (any_of HT_.out (by kernel_rfl)) (fun _ _ _ h => h) (Or.inl ⟨by rfl, ?_⟩) ?_ ?_
   rotate_left
   ·intro w'
    go_simp
    with_reducible rfl
   rotate_left
   ·exact mP
   refine pure_ (i := 6) (N := some 19) (v := ?_) (a' := ?_) #[false, false, true, true, true, true, true, false, false] rfl rfl (any_of HT_.out (by kernel_rfl)) (fun _ _ _ h => h) (Or.inl ⟨by rfl, ?_⟩) ?_ ?_
   rotate_left
   ·intro w'
    go_simp
    with_reducible rfl
   rotate_left
   ·exact mP
   refine take_ (i := 0) (N := some 13) (v := ?_) (a' := ?_) #[true, false, true, true, true, true, true, false, false] rfl rfl (take_ofW HT_.out HW_.out (by kernel_rfl)) (fun _ _ _ h => h) (Or.inl ⟨by rfl, ?_⟩) hHeld ?_ ?_
   rotate_left
   ·rintro w' ⟨s0, s1, s2, s3, s4, s5, s6, s7, s8, s9, s10⟩
    go_simp
    with_reducible rfl
   rotate_left
   ·exact mP
   refine one_ (i := 1) (N := some 14) #[true, true, true, true, true, true, true, false, false] rfl rfl (one_of HT_.out (by kernel_rfl)) (by decide) (fun K hK => ?_)
   refine goes_ Try.func24 (by kernel_rfl) rfl #[.agg #[.int .i64 a0_0, .slice A0_1 l0_1.length c0_1, .int .i64 a0_2, .int .i64 a0_3, .int .i64 a0_4, .int .i64 a0_5, .int .i64 a0_6, .slice A0_7 l0_7.length c0_7, .int .i64 a0_8, .int .i64 a0_9, .slice A0_10 l0_10.length c0_10]] (by rfl) rfl rfl mS ?_
   with_reducible refine (foghornlaw17_few.calls k a0_0 _ _ l0_1 a0_2 a0_3 a0_4 a0_5 a0_6 _ _ l0_7 a0_8 a0_9 _ _ l0_10 t445 t446 t449 t450 t451 t452 t453 t454 t457 t458 t459 _ ?side1 ?side2 ?side3 ?side4 ?side5 ?side6 A3.out).mono ?_
   (case side1 => exact mC ((Kd.C_below HR0_1.out HB.out)))
   (case side2 => exact HC0_1.out)
   (case side3 => exact mC ((Kd.C_below HR0_7.out HB.out)))
   (case side4 => exact HC0_7.out)
   (case side5 => exact mC ((Kd.C_below HR0_10.out HB.out)))
   (case side6 => exact HC0_10.out)
   rintro e w11 ⟨v447, v455, v460, rfl, ho0, ho1, ho2, hb⟩
   refine ⟨_, rfl, ?_⟩
   have n0_ := aA (Kd.R_lower ho0 (below_size (mD1 GE444.out)))
   have n1_ := aA (Kd.R_lower ho1 (below_size (mD1 GE444.out)))
   have n2_ := aA (Kd.R_lower ho2 (below_size (mD1 GE444.out)))
   have n3_ := aA (bB BK444.out hb)
   have n4_ := aA (below_step (mD1 GE444.out) hb)
   clear BK444
   clear HB
   have HO448 := n0_
   have HO456 := n1_
   have HO461 := n2_
   have BK444 := n3_
   have HB := n4_
   clear n0_ n1_ n2_ n3_ n4_
   (try clear hb)
   (try clear hb2)
   (try clear hk)
   (try clear hi)
   (try clear ho0)
   (try clear ho1)
   (try clear ho2)
   obtain ⟨Ao13, co13, eo13⟩ := Kd.R_slice HO448.out
   (first | subst eo13 | (injection eo13 with f1_ f2_ f3_; have f4_ := f1_.symm; have f5_ := f3_.symm; clear f1_ f2_ f3_; subst f4_; subst f5_))
   obtain ⟨Ao20, co20, eo20⟩ := Kd.R_slice HO456.out
   (first | subst eo20 | (injection eo20 with f1_ f2_ f3_; have f4_ := f1_.symm; have f5_ := f3_.symm; clear f1_ f2_ f3_; subst f4_; subst f5_))
   obtain ⟨Ao24, co24, eo24⟩ := Kd.R_slice HO461.out
   (first | subst eo24 | (injection eo24 with f1_ f2_ f3_; have f4_ := f1_.symm; have f5_ := f3_.symm; clear f1_ f2_ f3_; subst f4_; subst f5_))
   refine hK.out _ _ (bC11 BK444.out) (fun hHeld => ?_)
   clear hK K
   refine norm_ (a' := ?_) ?_ ?_
   rotate_left
   ·show Act.put _ (some 14) _ = _
    simp only [Act.put, List.setIfInBounds_toArray, List.set_cons_zero, List.set_cons_succ, i64_w, i32_w]
    rfl
   refine last_ (i := 7) (N := none) #[true, true, true, true, true, true, true, true, false] rfl rfl (one_of HT_.out (by kernel_rfl)) (by decide) (fun K hK => ?_)
   have hs12 : w11.cell? ⟨gb444, 0, none⟩ = some (.int .i64 a0_0) := (blk_cell BK444.out 0).trans rfl
   have hfs12 := blk_frozen BK444.out 0
   have hs14 : w11.cell? ⟨gb444, 1, none⟩ = some (.slice A0_1 l0_1.length c0_1) := (blk_cell BK444.out 1).trans rfl
   have hfs14 := blk_frozen BK444.out 1
   have hs15 : w11.cell? ⟨gb444, 2, none⟩ = some (.int .i64 a0_2) := (blk_cell BK444.out 2).trans rfl
   have hfs15 := blk_frozen BK444.out 2
   have hs16 : w11.cell? ⟨gb444, 3, none⟩ = some (.int .i64 a0_3) := (blk_cell BK444.out 3).trans rfl
   have hfs16 := blk_frozen BK444.out 3
   have hs17 : w11.cell? ⟨gb444, 4, none⟩ = some (.int .i64 a0_4) := (blk_cell BK444.out 4).trans rfl
   have hfs17 := blk_frozen BK444.out 4
   have hs18 : w11.cell? ⟨gb444, 5, none⟩ = some (.int .i64 a0_5) := (blk_cell BK444.out 5).trans rfl
   have hfs18 := blk_frozen BK444.out 5
   have hs19 : w11.cell? ⟨gb444, 6, none⟩ = some (.int .i64 a0_6) := (blk_cell BK444.out 6).trans rfl
   have hfs19 := blk_frozen BK444.out 6
   have hs21 : w11.cell? ⟨gb444, 7, none⟩ = some (.slice A0_7 l0_7.length c0_7) := (blk_cell BK444.out 7).trans rfl
   have hfs21 := blk_frozen BK444.out 7
   have hs22 : w11.cell? ⟨gb444, 8, none⟩ = some (.int .i64 a0_8) := (blk_cell BK444.out 8).trans rfl
   have hfs22 := blk_frozen BK444.out 8
   have hs23 : w11.cell? ⟨gb444, 9, none⟩ = some (.int .i64 a0_9) := (blk_cell BK444.out 9).trans rfl
   have hfs23 := blk_frozen BK444.out 9
   have hs25 : w11.cell? ⟨gb444, 10, none⟩ = some (.slice A0_10 l0_10.length c0_10) := (blk_cell BK444.out 10).trans rfl
   have hfs25 := blk_frozen BK444.out 10
   refine skip_ (w1 := ?_) (by rfl) rfl ?_ ?_
   rotate_left
   ·go_simp
    rfl
   refine hK.out _ _ ?_
   clear hK K
   refine pure_ (i := 8) (N := some 1) (v := ?_) (a' := ?_) #[true, true, true, true, true, true, true, true, true] rfl rfl (any_of HT_.out (by kernel_rfl)) (fun _ _ _ h => h) (Or.inl ⟨by rfl, ?_⟩) ?_ ?_
   rotate_left
   ·intro w'
    go_simp
    with_reducible rfl
   rotate_left
   ·exact mP
   refine done_ (done_of HT_.out (by kernel_rfl)) ?_
   obtain ⟨hcz26_0, hcz26_1, hcz26_2, hcz26_3, hcz26_4, hcz26_5, hcz26_6, hcz26_7, hcz26_8, hcz26_9, hcz26_10⟩ := bC11 BK444.out
   obtain ⟨hfz26_0, hfz26_1, hfz26_2, hfz26_3, hfz26_4, hfz26_5, hfz26_6, hfz26_7, hfz26_8, hfz26_9, hfz26_10⟩ := bF11 BK444.out
   go_upto_if 26 with (first | ((with_reducible refine gate_callee (f := 25) rfl ?_); refine goesL_ (some 22) rfl rfl Try.func25 (by kernel_rfl) rfl #[.agg #[.int .i64 t445, .slice Ao13 t446.length co13, .int .i64 t449, .int .i64 t450, .int .i64 t451, .int .i64 t452, .int .i64 t453, .slice Ao20 t454.length co20, .int .i64 t457, .int .i64 t458, .slice Ao24 t459.length co24]] rfl mS ?_; (with_reducible refine (code_Put.calls t445 _ _ t446 t449 t450 t451 t452 t453 _ _ t454 t457 t458 _ _ t459 t462 t463 _ ?side1 ?side2 ?side3 ?side4 ?side5 ?side6 A7.out).mono ?_); (case side1 => refine (Kd.R_reads' (e := 41) (base := w.heap.size) (ok := fun k_ => some k_ ≠ (.slice Ao20 t454.length co20 : Value).ownBlock) (n := t446.length) (c := co13) ?_).2.2; exact (by (with_reducible repeat (first | apply Kd.R_alloc | apply Kd.R_drewN | apply Kd.R_drew)); exact (Kd.R_mono (rF 10 (rF 9 (rF 8 (rF 7 (rF 6 (rF 5 (rF 4 (rF 3 (rF 2 (rF 1 (rF 0 (Kd.R_types HO448.out BK444.out (by decide))))))))))))) (fun _ h_ => h_.1)))); (case side2 => exact (Kd.R_reads' HO448.out).2.1); (case side3 => refine (Kd.R_reads' (e := 41) (base := w.heap.size) (ok := fun k_ => some k_ ≠ (.slice Ao13 t446.length co13 : Value).ownBlock) (n := t454.length) (c := co20) ?_).2.2; exact (by (with_reducible repeat (first | apply Kd.R_alloc | apply Kd.R_drewN | apply Kd.R_drew)); exact (Kd.R_mono (rF 10 (rF 9 (rF 8 (rF 7 (rF 6 (rF 5 (rF 4 (rF 3 (rF 2 (rF 1 (rF 0 (Kd.R_types HO456.out BK444.out (by decide))))))))))))) (fun _ h_ => h_.1)))); (case side4 => exact (Kd.R_reads' HO456.out).2.1); (case side5 => refine (Kd.R_reads' (e := 35) (base := w.heap.size) (ok := fun k_ => True) (n := t459.length) (c := co24) ?_).2.2; exact (by (with_reducible repeat (first | apply Kd.R_alloc | apply Kd.R_drewN | apply Kd.R_drew)); exact (Kd.R_mono (rF 10 (rF 9 (rF 8 (rF 7 (rF 6 (rF 5 (rF 4 (rF 3 (rF 2 (rF 1 (rF 0 (Kd.R_types HO461.out BK444.out (by decide))))))))))))) (fun _ h_ => h_.1)))); (case side6 => exact (Kd.R_reads' HO461.out).2.1); rintro e w27 ⟨rfl, hb⟩; refine ⟨_, rfl, ?_⟩; have n0_ := aA (Kd.R_below (by (with_reducible repeat (first | apply Kd.R_alloc | apply Kd.R_drewN | apply Kd.R_drew)); exact (Kd.R_mono (rF 10 (rF 9 (rF 8 (rF 7 (rF 6 (rF 5 (rF 4 (rF 3 (rF 2 (rF 1 (rF 0 (Kd.R_types HO448.out BK444.out (by decide))))))))))))) (fun _ h_ => h_.1))) hb); have n1_ := aA (Kd.R_below (by (with_reducible repeat (first | apply Kd.R_alloc | apply Kd.R_drewN | apply Kd.R_drew)); exact (Kd.R_mono (rF 10 (rF 9 (rF 8 (rF 7 (rF 6 (rF 5 (rF 4 (rF 3 (rF 2 (rF 1 (rF 0 (Kd.R_types HO456.out BK444.out (by decide))))))))))))) (fun _ h_ => h_.1))) hb); have n2_ := aA (Kd.R_below (by (with_reducible repeat (first | apply Kd.R_alloc | apply Kd.R_drewN | apply Kd.R_drew)); exact (Kd.R_mono (rF 10 (rF 9 (rF 8 (rF 7 (rF 6 (rF 5 (rF 4 (rF 3 (rF 2 (rF 1 (rF 0 (Kd.R_types HO461.out BK444.out (by decide))))))))))))) (fun _ h_ => h_.1))) hb); have n3_ := aA (blk_below (g := gb444) (o := .cells #[.int .i64 t445, .slice Ao13 t446.length co13, .int .i64 t449, .int .i64 t450, .int .i64 t451, .int .i64 t452, .int .i64 t453, .slice Ao20 t454.length co20, .int .i64 t457, .int .i64 t458, .slice Ao24 t459.length co24] 50 (0, 0)) (by (with_reducible repeat (first | refine blk_drewN ?_ _ | refine blk_drew ?_ | refine blk_alloc ?_ _)); have h_ := BK444.out; exact pK 10 (pK 9 (pK 8 (pK 7 (pK 6 (pK 5 (pK 4 (pK 3 (pK 2 (pK 1 (pK 0 (h_)))))))))))) hb); have n4_ := aA (below_step (mD1 GE444.out) hb); clear HO448 HO456 HO461 BK444 HB; have HO448 := n0_; have HO456 := n1_; have HO461 := n2_; have BK444 := n3_; have HB := n4_; clear n0_ n1_ n2_ n3_ n4_; (try clear hb); (try clear hb2); (try clear hk); (try clear hi)))
   (try simp only [Act.put, List.setIfInBounds_toArray, List.set_cons_zero, List.set_cons_succ])
   go_cut [] (fun wc => ∃ (kq : Nat), Aside0 (foghornlaw17_CodeBack.j0 kq (a1.extract 0 ((ji4) : Int).toNat) = some r) ∧ Aside0 (kq ≤ k) ∧ Aside0 (Kd.R k41 41 wc w.heap.size (fun k_ => some k_ ≠ ((.slice Ao20 t454.length co20) : Value).ownBlock) (.slice Ao13 t446.length co13) t446) ∧ Aside0 (Kd.R k41 41 wc w.heap.size (fun k_ => some k_ ≠ ((.slice Ao13 t446.length co13) : Value).ownBlock) (.slice Ao20 t454.length co20) t454) ∧ Aside0 (Kd.R k35 35 wc w.heap.size (fun _ => True) (.slice Ao24 t459.length co24) t459) ∧ Aside0 (wc.heap[gb444]? = some (.cells #[.int .i64 t445, (.slice Ao13 t446.length co13), .int .i64 t449, .int .i64 t450, .int .i64 t451, .int .i64 t452, .int .i64 t453, (.slice Ao20 t454.length co20), .int .i64 t457, .int .i64 t458, (.slice Ao24 t459.length co24)] 50 (0, 0))) ∧ Aside0 (Below w.heap.size w wc))
   case first =>
    have H := HC8.out
    clear HC8
    by_cases c28 : t463 = 0
    ·rw [if_pos c28] at H
     have c28b0 : (t463 == 0) = true := beq_iff_eq.mpr c28
     have c28b1 : (t463 != 0) = false := bne_eq_false_iff_eq.mpr c28
     clear c28
     (first | rw [c28b0] | (simp only [i64_w, i32_w]; rw [c28b0]) | skip)
     replace H := Option.bind_eq_some_iff.mp H
     obtain ⟨⟨t464, t465, t468, t469, t470, t471, t472, t473, t476, t477, t478, t481⟩, A290, H⟩ := H
     have A29 := aA A290
     clear A290
     by_cases c30 : t481 = 0
     ·rw [if_pos c30] at H
      have c30b0 : (t481 == 0) = true := beq_iff_eq.mpr c30
      have c30b1 : (t481 != 0) = false := bne_eq_false_iff_eq.mpr c30
      clear c30
      replace H := Option.bind_eq_some_iff.mp H
      obtain ⟨t483, A310, H⟩ := H
      have A31 := aA A310
      clear A310
      by_cases c32 : t483 = true
      ·subst c32
       have H1 : (if (t462.size : Int) > 90 then (some false) else (foghornlaw17_CodeBack.j0 k (a1.extract 0 ((ji4) : Int).toNat))) = some r := by rw [if_pos rfl] at H; exact H
       clear H
       have H := H1
       clear H1
       by_cases c33 : (t462.size : Int) > 90
       ·rw [if_pos c33] at H
        have c33b0 : decide (90 < (t462.size : Int)) = true := decide_eq_true c33
        have c33b1 : decide (90 < t462.size) = true := decide_eq_true (by omega)
        clear c33
        obtain rfl := Option.some.inj H
        go_wp2_with (first | ((with_reducible refine gate_callee (f := 30) rfl ?_); refine goesL_ (some 29) rfl rfl Try.func30 (by kernel_rfl) rfl #[.string t462] rfl mS ?_; (with_reducible refine (code_Get.calls t462 t464 t465 t468 t469 t470 t471 t472 t473 t476 t477 t478 t481 _ A29.out).mono ?_); rintro e w34 ⟨v466, v474, v479, rfl, ho0, ho1, ho2, hb⟩; refine ⟨_, rfl, ?_⟩; have n0_ := aA (Kd.R_mono (Kd.R_told (Kd.R_told (Kd.R_old (mR HO448.out) hb) (Kd.R_base ho0)) (Kd.R_base ho1)) (fun _ h_ => h_.1)); have n1_ := aA (Kd.R_mono (Kd.R_told (Kd.R_told (Kd.R_old (mR HO456.out) hb) (Kd.R_base ho0)) (Kd.R_base ho1)) (fun _ h_ => h_.1)); have n2_ := aA (Kd.R_elder' (mR HO461.out) (Kd.R_base ho2) hb); have n3_ := aA (Kd.R_lower (Kd.R_new' (Kd.R_new' ho0 (Kd.R_lt (mR HO448.out))) (Kd.R_lt (mR HO456.out))) (below_size (mD1 GE444.out))); have n4_ := aA (Kd.R_lower (Kd.R_new' (Kd.R_new' ho1 (Kd.R_lt (mR HO448.out))) (Kd.R_lt (mR HO456.out))) (below_size (mD1 GE444.out))); have n5_ := aA (Kd.R_lower (Kd.R_new' ho2 (Kd.R_lt (mR HO461.out))) (below_size (mD1 GE444.out))); have n6_ := aA (bB BK444.out hb); have n7_ := aA (below_step (mD1 GE444.out) hb); clear HO448 HO456 HO461 BK444 HB; have HO448 := n0_; have HO456 := n1_; have HO461 := n2_; have HO467 := n3_; have HO475 := n4_; have HO480 := n5_; have BK444 := n6_; have HB := n7_; clear n0_ n1_ n2_ n3_ n4_ n5_ n6_ n7_; (try clear hb); (try clear hb2); (try clear hk); (try clear hi); (try clear ho0); (try clear ho1); (try clear ho2)) | ((with_reducible refine gate_dst (N := 7) rfl ?_); (try (refine gate_guard (by rfl) ?_; dsimp only)); refine box_event ?hg (N := 7) ?hd (cs := #[.int .i64 0, .slice none 0 0, .int .i64 0, .int .i64 0, .int .i64 0, .int .i64 0, .int .i64 0, .slice none 0 0, .int .i64 0, .int .i64 0, .slice none 0 0]) (t := 50) ?hr ?_; (case hd => rfl); (case hg => rfl); (case hr => first | (go_simp; done) | (go_simp; rfl)); intro gb482 hg w35 hbox hb; have n0_ := aA (Kd.R_below (mR HO448.out) hb); have n1_ := aA (Kd.R_below (mR HO456.out) hb); have n2_ := aA (Kd.R_below (mR HO461.out) hb); have n3_ := aA (Kd.R_below (mR HO467.out) hb); have n4_ := aA (Kd.R_below (mR HO475.out) hb); have n5_ := aA (Kd.R_below (mR HO480.out) hb); have n6_ := aA (bB BK444.out hb); have n7_ := aA (below_step (mD1 GE444.out) hb); have n8_ := aA (hbox); have n9_ := aA ((bZ hg (mD1 GE444.out))); have n10_ := aA ((bZ hg (mD1 GE444.out))); have n11_ := aA ((bL hg BK444.out)); have n12_ := aA ((bG hg BK444.out)); clear HO448 HO456 HO461 HO467 HO475 HO480 BK444 HB; have HO448 := n0_; have HO456 := n1_; have HO461 := n2_; have HO467 := n3_; have HO475 := n4_; have HO480 := n5_; have BK444 := n6_; have HB := n7_; have BK482 := n8_; have GW482 := n9_; have GE482 := n10_; have NB444_482 := n11_; have NB482_444 := n12_; clear n0_ n1_ n2_ n3_ n4_ n5_ n6_ n7_ n8_ n9_ n10_ n11_ n12_ hb hbox hg; have hnb36 := NB482_444.out; have hnc36 := NB444_482.out; obtain ⟨hcz37_0, hcz37_1, hcz37_2, hcz37_3, hcz37_4, hcz37_5, hcz37_6, hcz37_7, hcz37_8, hcz37_9, hcz37_10⟩ := bC11 BK482.out; obtain ⟨hfz37_0, hfz37_1, hfz37_2, hfz37_3, hfz37_4, hfz37_5, hfz37_6, hfz37_7, hfz37_8, hfz37_9, hfz37_10⟩ := bF11 BK482.out; obtain ⟨Ao38, co38, eo38⟩ := Kd.R_slice HO467.out; subst eo38; obtain ⟨Ao39, co39, eo39⟩ := Kd.R_slice HO475.out; subst eo39; obtain ⟨Ao40, co40, eo40⟩ := Kd.R_slice HO480.out; subst eo40; obtain ⟨hcz41_0, hcz41_1, hcz41_2, hcz41_3, hcz41_4, hcz41_5, hcz41_6, hcz41_7, hcz41_8, hcz41_9, hcz41_10⟩ := bC11 BK444.out; obtain ⟨hfz41_0, hfz41_1, hfz41_2, hfz41_3, hfz41_4, hfz41_5, hfz41_6, hfz41_7, hfz41_8, hfz41_9, hfz41_10⟩ := bF11 BK444.out) | (go_at_call 32; (with_reducible refine (foghornref17_Same.calls k t464 _ _ t465 t468 t469 t470 t471 t472 _ _ t473 t476 t477 _ _ t478 t445 _ _ t446 t449 t450 t451 t452 t453 _ _ t454 t457 t458 _ _ t459 true _ ?side1 ?side2 ?side3 ?side4 ?side5 ?side6 ?side7 ?side8 ?side9 ?side10 ?side11 ?side12 A31.out).mono ?_); (case side1 => refine (Kd.R_reads' (e := 41) (base := w.heap.size) (ok := fun k_ => ((some k_ ≠ (.slice Ao39 t473.length co39 : Value).ownBlock ∧ some k_ ≠ (.slice Ao13 t446.length co13 : Value).ownBlock) ∧ some k_ ≠ (.slice Ao20 t454.length co20 : Value).ownBlock)) (n := t465.length) (c := co38) ?_).2.2; exact (by (with_reducible repeat (first | apply Kd.R_alloc | apply Kd.R_drewN | apply Kd.R_drew)); exact (Kd.R_mono (rF 10 (rF 9 (rF 8 (rF 7 (rF 6 (rF 5 (rF 4 (rF 3 (rF 2 (rF 1 (rF 0 (Kd.R_types HO467.out BK482.out (by decide))))))))))))) (fun _ h_ => h_.1)))); (case side2 => exact (Kd.R_reads' HO467.out).2.1); (case side3 => refine (Kd.R_reads' (e := 41) (base := w.heap.size) (ok := fun k_ => ((some k_ ≠ (.slice Ao38 t465.length co38 : Value).ownBlock ∧ some k_ ≠ (.slice Ao13 t446.length co13 : Value).ownBlock) ∧ some k_ ≠ (.slice Ao20 t454.length co20 : Value).ownBlock)) (n := t473.length) (c := co39) ?_).2.2; exact (by (with_reducible repeat (first | apply Kd.R_alloc | apply Kd.R_drewN | apply Kd.R_drew)); exact (Kd.R_mono (rF 10 (rF 9 (rF 8 (rF 7 (rF 6 (rF 5 (rF 4 (rF 3 (rF 2 (rF 1 (rF 0 (Kd.R_types HO475.out BK482.out (by decide))))))))))))) (fun _ h_ => h_.1)))); (case side4 => exact (Kd.R_reads' HO475.out).2.1); (case side5 => refine (Kd.R_reads' (e := 35) (base := w.heap.size) (ok := fun k_ => (True ∧ some k_ ≠ (.slice Ao24 t459.length co24 : Value).ownBlock)) (n := t478.length) (c := co40) ?_).2.2; exact (by (with_reducible repeat (first | apply Kd.R_alloc | apply Kd.R_drewN | apply Kd.R_drew)); exact (Kd.R_mono (rF 10 (rF 9 (rF 8 (rF 7 (rF 6 (rF 5 (rF 4 (rF 3 (rF 2 (rF 1 (rF 0 (Kd.R_types HO480.out BK482.out (by decide))))))))))))) (fun _ h_ => h_.1)))); (case side6 => exact (Kd.R_reads' HO480.out).2.1); (case side7 => refine (Kd.R_reads' (e := 41) (base := w.heap.size) (ok := fun k_ => ((some k_ ≠ (.slice Ao20 t454.length co20 : Value).ownBlock ∧ some k_ ≠ (.slice Ao38 t465.length co38 : Value).ownBlock) ∧ some k_ ≠ (.slice Ao39 t473.length co39 : Value).ownBlock)) (n := t446.length) (c := co13) ?_).2.2; exact (by (with_reducible repeat (first | apply Kd.R_alloc | apply Kd.R_drewN | apply Kd.R_drew)); exact (Kd.R_mono (rF 10 (rF 9 (rF 8 (rF 7 (rF 6 (rF 5 (rF 4 (rF 3 (rF 2 (rF 1 (rF 0 (Kd.R_types HO448.out BK482.out (by decide))))))))))))) (fun _ h_ => h_.1)))); (case side8 => exact (Kd.R_reads' HO448.out).2.1); (case side9 => refine (Kd.R_reads' (e := 41) (base := w.heap.size) (ok := fun k_ => ((some k_ ≠ (.slice Ao13 t446.length co13 : Value).ownBlock ∧ some k_ ≠ (.slice Ao38 t465.length co38 : Value).ownBlock) ∧ some k_ ≠ (.slice Ao39 t473.length co39 : Value).ownBlock)) (n := t454.length) (c := co20) ?_).2.2; exact (by (with_reducible repeat (first | apply Kd.R_alloc | apply Kd.R_drewN | apply Kd.R_drew)); exact (Kd.R_mono (rF 10 (rF 9 (rF 8 (rF 7 (rF 6 (rF 5 (rF 4 (rF 3 (rF 2 (rF 1 (rF 0 (Kd.R_types HO456.out BK482.out (by decide))))))))))))) (fun _ h_ => h_.1)))); (case side10 => exact (Kd.R_reads' HO456.out).2.1); (case side11 => refine (Kd.R_reads' (e := 35) (base := w.heap.size) (ok := fun k_ => (True ∧ some k_ ≠ (.slice Ao40 t478.length co40 : Value).ownBlock)) (n := t459.length) (c := co24) ?_).2.2; exact (by (with_reducible repeat (first | apply Kd.R_alloc | apply Kd.R_drewN | apply Kd.R_drew)); exact (Kd.R_mono (rF 10 (rF 9 (rF 8 (rF 7 (rF 6 (rF 5 (rF 4 (rF 3 (rF 2 (rF 1 (rF 0 (Kd.R_types HO461.out BK482.out (by decide))))))))))))) (fun _ h_ => h_.1)))); (case side12 => exact (Kd.R_reads' HO461.out).2.1); rintro e w42 ⟨rfl, hb⟩; have n0_ := aA (Kd.R_below (by (with_reducible repeat (first | apply Kd.R_alloc | apply Kd.R_drewN | apply Kd.R_drew)); exact (Kd.R_mono (rF 10 (rF 9 (rF 8 (rF 7 (rF 6 (rF 5 (rF 4 (rF 3 (rF 2 (rF 1 (rF 0 (Kd.R_types HO448.out BK482.out (by decide))))))))))))) (fun _ h_ => h_.1))) hb); have n1_ := aA (Kd.R_below (by (with_reducible repeat (first | apply Kd.R_alloc | apply Kd.R_drewN | apply Kd.R_drew)); exact (Kd.R_mono (rF 10 (rF 9 (rF 8 (rF 7 (rF 6 (rF 5 (rF 4 (rF 3 (rF 2 (rF 1 (rF 0 (Kd.R_types HO456.out BK482.out (by decide))))))))))))) (fun _ h_ => h_.1))) hb); have n2_ := aA (Kd.R_below (by (with_reducible repeat (first | apply Kd.R_alloc | apply Kd.R_drewN | apply Kd.R_drew)); exact (Kd.R_mono (rF 10 (rF 9 (rF 8 (rF 7 (rF 6 (rF 5 (rF 4 (rF 3 (rF 2 (rF 1 (rF 0 (Kd.R_types HO461.out BK482.out (by decide))))))))))))) (fun _ h_ => h_.1))) hb); have n3_ := aA (Kd.R_below (by (with_reducible repeat (first | apply Kd.R_alloc | apply Kd.R_drewN | apply Kd.R_drew)); exact (Kd.R_mono (rF 10 (rF 9 (rF 8 (rF 7 (rF 6 (rF 5 (rF 4 (rF 3 (rF 2 (rF 1 (rF 0 (Kd.R_types HO467.out BK482.out (by decide))))))))))))) (fun _ h_ => h_.1))) hb); have n4_ := aA (Kd.R_below (by (with_reducible repeat (first | apply Kd.R_alloc | apply Kd.R_drewN | apply Kd.R_drew)); exact (Kd.R_mono (rF 10 (rF 9 (rF 8 (rF 7 (rF 6 (rF 5 (rF 4 (rF 3 (rF 2 (rF 1 (rF 0 (Kd.R_types HO475.out BK482.out (by decide))))))))))))) (fun _ h_ => h_.1))) hb); have n5_ := aA (Kd.R_below (by (with_reducible repeat (first | apply Kd.R_alloc | apply Kd.R_drewN | apply Kd.R_drew)); exact (Kd.R_mono (rF 10 (rF 9 (rF 8 (rF 7 (rF 6 (rF 5 (rF 4 (rF 3 (rF 2 (rF 1 (rF 0 (Kd.R_types HO480.out BK482.out (by decide))))))))))))) (fun _ h_ => h_.1))) hb); have n6_ := aA (blk_below (g := gb444) (o := .cells #[.int .i64 t445, .slice Ao13 t446.length co13, .int .i64 t449, .int .i64 t450, .int .i64 t451, .int .i64 t452, .int .i64 t453, .slice Ao20 t454.length co20, .int .i64 t457, .int .i64 t458, .slice Ao24 t459.length co24] 50 (0, 0)) (by (with_reducible repeat (first | refine blk_drewN ?_ _ | refine blk_drew ?_ | refine blk_alloc ?_ _)); refine blk_far ?_ NB444_482.out _; (with_reducible repeat (first | refine blk_drewN ?_ _ | refine blk_drew ?_ | refine blk_alloc ?_ _)); refine blk_far ?_ NB444_482.out _; (with_reducible repeat (first | refine blk_drewN ?_ _ | refine blk_drew ?_ | refine blk_alloc ?_ _)); refine blk_far ?_ NB444_482.out _; (with_reducible repeat (first | refine blk_drewN ?_ _ | refine blk_drew ?_ | refine blk_alloc ?_ _)); refine blk_far ?_ NB444_482.out _; (with_reducible repeat (first | refine blk_drewN ?_ _ | refine blk_drew ?_ | refine blk_alloc ?_ _)); refine blk_far ?_ NB444_482.out _; (with_reducible repeat (first | refine blk_drewN ?_ _ | refine blk_drew ?_ | refine blk_alloc ?_ _)); refine blk_far ?_ NB444_482.out _; (with_reducible repeat (first | refine blk_drewN ?_ _ | refine blk_drew ?_ | refine blk_alloc ?_ _)); refine blk_far ?_ NB444_482.out _; (with_reducible repeat (first | refine blk_drewN ?_ _ | refine blk_drew ?_ | refine blk_alloc ?_ _)); refine blk_far ?_ NB444_482.out _; (with_reducible repeat (first | refine blk_drewN ?_ _ | refine blk_drew ?_ | refine blk_alloc ?_ _)); refine blk_far ?_ NB444_482.out _; (with_reducible repeat (first | refine blk_drewN ?_ _ | refine blk_drew ?_ | refine blk_alloc ?_ _)); refine blk_far ?_ NB444_482.out _; (with_reducible repeat (first | refine blk_drewN ?_ _ | refine blk_drew ?_ | refine blk_alloc ?_ _)); refine blk_far ?_ NB444_482.out _; (with_reducible repeat (first | refine blk_drewN ?_ _ | refine blk_drew ?_ | refine blk_alloc ?_ _)); exact BK444.out) hb); have n7_ := aA (blk_below (g := gb482) (o := .cells #[.int .i64 t464, .slice Ao38 t465.length co38, .int .i64 t468, .int .i64 t469, .int .i64 t470, .int .i64 t471, .int .i64 t472, .slice Ao39 t473.length co39, .int .i64 t476, .int .i64 t477, .slice Ao40 t478.length co40] 50 (0, 0)) (by (with_reducible repeat (first | refine blk_drewN ?_ _ | refine blk_drew ?_ | refine blk_alloc ?_ _)); have h_ := BK482.out; exact pK 10 (pK 9 (pK 8 (pK 7 (pK 6 (pK 5 (pK 4 (pK 3 (pK 2 (pK 1 (pK 0 (h_)))))))))))) hb); have n8_ := aA (below_step (mD2 GE444.out GE482.out) hb); clear HO448 HO456 HO461 HO467 HO475 HO480 BK444 BK482 HB; have HO448 := n0_; have HO456 := n1_; have HO461 := n2_; have HO467 := n3_; have HO475 := n4_; have HO480 := n5_; have BK444 := n6_; have BK482 := n7_; have HB := n8_; clear n0_ n1_ n2_ n3_ n4_ n5_ n6_ n7_ n8_; (try clear hb); (try clear hb2); (try clear hk); (try clear hi)))
        go_ret
        exact ⟨by first | rfl | (simp [errW_none, errW_some] <;> rfl) | (simp only [← hji4]; first | rfl | (simp [errW_none, errW_some] <;> rfl)) | (simp [*, errW_none, errW_some] <;> rfl), by repeat (first | (with_reducible first | exact HB.out | apply below_alloc | apply pw_below_drewN | apply below_drew1 | refine below_set ?_ GE444.out | refine below_set ?_ GE482.out) | exact HB.out)⟩
       ·rw [if_neg c33] at H
        have c33b0 : decide (90 < (t462.size : Int)) = false := decide_eq_false c33
        have c33b1 : decide (90 < t462.size) = false := decide_eq_false (by omega)
        clear c33
        have H' := aA H
        clear H
        go_wp2_with (first | ((with_reducible refine gate_callee (f := 30) rfl ?_); refine goesL_ (some 29) rfl rfl Try.func30 (by kernel_rfl) rfl #[.string t462] rfl mS ?_; (with_reducible refine (code_Get.calls t462 t464 t465 t468 t469 t470 t471 t472 t473 t476 t477 t478 t481 _ A29.out).mono ?_); rintro e w43 ⟨v466, v474, v479, rfl, ho0, ho1, ho2, hb⟩; refine ⟨_, rfl, ?_⟩; have n0_ := aA (Kd.R_mono (Kd.R_told (Kd.R_told (Kd.R_old (mR HO448.out) hb) (Kd.R_base ho0)) (Kd.R_base ho1)) (fun _ h_ => h_.1)); have n1_ := aA (Kd.R_mono (Kd.R_told (Kd.R_told (Kd.R_old (mR HO456.out) hb) (Kd.R_base ho0)) (Kd.R_base ho1)) (fun _ h_ => h_.1)); have n2_ := aA (Kd.R_elder' (mR HO461.out) (Kd.R_base ho2) hb); have n3_ := aA (Kd.R_lower (Kd.R_new' (Kd.R_new' ho0 (Kd.R_lt (mR HO448.out))) (Kd.R_lt (mR HO456.out))) (below_size (mD1 GE444.out))); have n4_ := aA (Kd.R_lower (Kd.R_new' (Kd.R_new' ho1 (Kd.R_lt (mR HO448.out))) (Kd.R_lt (mR HO456.out))) (below_size (mD1 GE444.out))); have n5_ := aA (Kd.R_lower (Kd.R_new' ho2 (Kd.R_lt (mR HO461.out))) (below_size (mD1 GE444.out))); have n6_ := aA (bB BK444.out hb); have n7_ := aA (below_step (mD1 GE444.out) hb); clear HO448 HO456 HO461 BK444 HB; have HO448 := n0_; have HO456 := n1_; have HO461 := n2_; have HO467 := n3_; have HO475 := n4_; have HO480 := n5_; have BK444 := n6_; have HB := n7_; clear n0_ n1_ n2_ n3_ n4_ n5_ n6_ n7_; (try clear hb); (try clear hb2); (try clear hk); (try clear hi); (try clear ho0); (try clear ho1); (try clear ho2)) | ((with_reducible refine gate_dst (N := 7) rfl ?_); (try (refine gate_guard (by rfl) ?_; dsimp only)); refine box_event ?hg (N := 7) ?hd (cs := #[.int .i64 0, .slice none 0 0, .int .i64 0, .int .i64 0, .int .i64 0, .int .i64 0, .int .i64 0, .slice none 0 0, .int .i64 0, .int .i64 0, .slice none 0 0]) (t := 50) ?hr ?_; (case hd => rfl); (case hg => rfl); (case hr => first | (go_simp; done) | (go_simp; rfl)); intro gb482 hg w44 hbox hb; have n0_ := aA (Kd.R_below (mR HO448.out) hb); have n1_ := aA (Kd.R_below (mR HO456.out) hb); have n2_ := aA (Kd.R_below (mR HO461.out) hb); have n3_ := aA (Kd.R_below (mR HO467.out) hb); have n4_ := aA (Kd.R_below (mR HO475.out) hb); have n5_ := aA (Kd.R_below (mR HO480.out) hb); have n6_ := aA (bB BK444.out hb); have n7_ := aA (below_step (mD1 GE444.out) hb); have n8_ := aA (hbox); have n9_ := aA ((bZ hg (mD1 GE444.out))); have n10_ := aA ((bZ hg (mD1 GE444.out))); have n11_ := aA ((bL hg BK444.out)); have n12_ := aA ((bG hg BK444.out)); clear HO448 HO456 HO461 HO467 HO475 HO480 BK444 HB; have HO448 := n0_; have HO456 := n1_; have HO461 := n2_; have HO467 := n3_; have HO475 := n4_; have HO480 := n5_; have BK444 := n6_; have HB := n7_; have BK482 := n8_; have GW482 := n9_; have GE482 := n10_; have NB444_482 := n11_; have NB482_444 := n12_; clear n0_ n1_ n2_ n3_ n4_ n5_ n6_ n7_ n8_ n9_ n10_ n11_ n12_ hb hbox hg; have hnb45 := NB482_444.out; have hnc45 := NB444_482.out; obtain ⟨hcz46_0, hcz46_1, hcz46_2, hcz46_3, hcz46_4, hcz46_5, hcz46_6, hcz46_7, hcz46_8, hcz46_9, hcz46_10⟩ := bC11 BK482.out; obtain ⟨hfz46_0, hfz46_1, hfz46_2, hfz46_3, hfz46_4, hfz46_5, hfz46_6, hfz46_7, hfz46_8, hfz46_9, hfz46_10⟩ := bF11 BK482.out; obtain ⟨Ao47, co47, eo47⟩ := Kd.R_slice HO467.out; subst eo47; obtain ⟨Ao48, co48, eo48⟩ := Kd.R_slice HO475.out; subst eo48; obtain ⟨Ao49, co49, eo49⟩ := Kd.R_slice HO480.out; subst eo49; obtain ⟨hcz50_0, hcz50_1, hcz50_2, hcz50_3, hcz50_4, hcz50_5, hcz50_6, hcz50_7, hcz50_8, hcz50_9, hcz50_10⟩ := bC11 BK444.out; obtain ⟨hfz50_0, hfz50_1, hfz50_2, hfz50_3, hfz50_4, hfz50_5, hfz50_6, hfz50_7, hfz50_8, hfz50_9, hfz50_10⟩ := bF11 BK444.out) | (go_at_call 32; (with_reducible refine (foghornref17_Same.calls k t464 _ _ t465 t468 t469 t470 t471 t472 _ _ t473 t476 t477 _ _ t478 t445 _ _ t446 t449 t450 t451 t452 t453 _ _ t454 t457 t458 _ _ t459 true _ ?side1 ?side2 ?side3 ?side4 ?side5 ?side6 ?side7 ?side8 ?side9 ?side10 ?side11 ?side12 A31.out).mono ?_); (case side1 => refine (Kd.R_reads' (e := 41) (base := w.heap.size) (ok := fun k_ => ((some k_ ≠ (.slice Ao48 t473.length co48 : Value).ownBlock ∧ some k_ ≠ (.slice Ao13 t446.length co13 : Value).ownBlock) ∧ some k_ ≠ (.slice Ao20 t454.length co20 : Value).ownBlock)) (n := t465.length) (c := co47) ?_).2.2; exact (by (with_reducible repeat (first | apply Kd.R_alloc | apply Kd.R_drewN | apply Kd.R_drew)); exact (Kd.R_mono (rF 10 (rF 9 (rF 8 (rF 7 (rF 6 (rF 5 (rF 4 (rF 3 (rF 2 (rF 1 (rF 0 (Kd.R_types HO467.out BK482.out (by decide))))))))))))) (fun _ h_ => h_.1)))); (case side2 => exact (Kd.R_reads' HO467.out).2.1); (case side3 => refine (Kd.R_reads' (e := 41) (base := w.heap.size) (ok := fun k_ => ((some k_ ≠ (.slice Ao47 t465.length co47 : Value).ownBlock ∧ some k_ ≠ (.slice Ao13 t446.length co13 : Value).ownBlock) ∧ some k_ ≠ (.slice Ao20 t454.length co20 : Value).ownBlock)) (n := t473.length) (c := co48) ?_).2.2; exact (by (with_reducible repeat (first | apply Kd.R_alloc | apply Kd.R_drewN | apply Kd.R_drew)); exact (Kd.R_mono (rF 10 (rF 9 (rF 8 (rF 7 (rF 6 (rF 5 (rF 4 (rF 3 (rF 2 (rF 1 (rF 0 (Kd.R_types HO475.out BK482.out (by decide))))))))))))) (fun _ h_ => h_.1)))); (case side4 => exact (Kd.R_reads' HO475.out).2.1); (case side5 => refine (Kd.R_reads' (e := 35) (base := w.heap.size) (ok := fun k_ => (True ∧ some k_ ≠ (.slice Ao24 t459.length co24 : Value).ownBlock)) (n := t478.length) (c := co49) ?_).2.2; exact (by (with_reducible repeat (first | apply Kd.R_alloc | apply Kd.R_drewN | apply Kd.R_drew)); exact (Kd.R_mono (rF 10 (rF 9 (rF 8 (rF 7 (rF 6 (rF 5 (rF 4 (rF 3 (rF 2 (rF 1 (rF 0 (Kd.R_types HO480.out BK482.out (by decide))))))))))))) (fun _ h_ => h_.1)))); (case side6 => exact (Kd.R_reads' HO480.out).2.1); (case side7 => refine (Kd.R_reads' (e := 41) (base := w.heap.size) (ok := fun k_ => ((some k_ ≠ (.slice Ao20 t454.length co20 : Value).ownBlock ∧ some k_ ≠ (.slice Ao47 t465.length co47 : Value).ownBlock) ∧ some k_ ≠ (.slice Ao48 t473.length co48 : Value).ownBlock)) (n := t446.length) (c := co13) ?_).2.2; exact (by (with_reducible repeat (first | apply Kd.R_alloc | apply Kd.R_drewN | apply Kd.R_drew)); exact (Kd.R_mono (rF 10 (rF 9 (rF 8 (rF 7 (rF 6 (rF 5 (rF 4 (rF 3 (rF 2 (rF 1 (rF 0 (Kd.R_types HO448.out BK482.out (by decide))))))))))))) (fun _ h_ => h_.1)))); (case side8 => exact (Kd.R_reads' HO448.out).2.1); (case side9 => refine (Kd.R_reads' (e := 41) (base := w.heap.size) (ok := fun k_ => ((some k_ ≠ (.slice Ao13 t446.length co13 : Value).ownBlock ∧ some k_ ≠ (.slice Ao47 t465.length co47 : Value).ownBlock) ∧ some k_ ≠ (.slice Ao48 t473.length co48 : Value).ownBlock)) (n := t454.length) (c := co20) ?_).2.2; exact (by (with_reducible repeat (first | apply Kd.R_alloc | apply Kd.R_drewN | apply Kd.R_drew)); exact (Kd.R_mono (rF 10 (rF 9 (rF 8 (rF 7 (rF 6 (rF 5 (rF 4 (rF 3 (rF 2 (rF 1 (rF 0 (Kd.R_types HO456.out BK482.out (by decide))))))))))))) (fun _ h_ => h_.1)))); (case side10 => exact (Kd.R_reads' HO456.out).2.1); (case side11 => refine (Kd.R_reads' (e := 35) (base := w.heap.size) (ok := fun k_ => (True ∧ some k_ ≠ (.slice Ao49 t478.length co49 : Value).ownBlock)) (n := t459.length) (c := co24) ?_).2.2; exact (by (with_reducible repeat (first | apply Kd.R_alloc | apply Kd.R_drewN | apply Kd.R_drew)); exact (Kd.R_mono (rF 10 (rF 9 (rF 8 (rF 7 (rF 6 (rF 5 (rF 4 (rF 3 (rF 2 (rF 1 (rF 0 (Kd.R_types HO461.out BK482.out (by decide))))))))))))) (fun _ h_ => h_.1)))); (case side12 => exact (Kd.R_reads' HO461.out).2.1); rintro e w51 ⟨rfl, hb⟩; have n0_ := aA (Kd.R_below (by (with_reducible repeat (first | apply Kd.R_alloc | apply Kd.R_drewN | apply Kd.R_drew)); exact (Kd.R_mono (rF 10 (rF 9 (rF 8 (rF 7 (rF 6 (rF 5 (rF 4 (rF 3 (rF 2 (rF 1 (rF 0 (Kd.R_types HO448.out BK482.out (by decide))))))))))))) (fun _ h_ => h_.1))) hb); have n1_ := aA (Kd.R_below (by (with_reducible repeat (first | apply Kd.R_alloc | apply Kd.R_drewN | apply Kd.R_drew)); exact (Kd.R_mono (rF 10 (rF 9 (rF 8 (rF 7 (rF 6 (rF 5 (rF 4 (rF 3 (rF 2 (rF 1 (rF 0 (Kd.R_types HO456.out BK482.out (by decide))))))))))))) (fun _ h_ => h_.1))) hb); have n2_ := aA (Kd.R_below (by (with_reducible repeat (first | apply Kd.R_alloc | apply Kd.R_drewN | apply Kd.R_drew)); exact (Kd.R_mono (rF 10 (rF 9 (rF 8 (rF 7 (rF 6 (rF 5 (rF 4 (rF 3 (rF 2 (rF 1 (rF 0 (Kd.R_types HO461.out BK482.out (by decide))))))))))))) (fun _ h_ => h_.1))) hb); have n3_ := aA (Kd.R_below (by (with_reducible repeat (first | apply Kd.R_alloc | apply Kd.R_drewN | apply Kd.R_drew)); exact (Kd.R_mono (rF 10 (rF 9 (rF 8 (rF 7 (rF 6 (rF 5 (rF 4 (rF 3 (rF 2 (rF 1 (rF 0 (Kd.R_types HO467.out BK482.out (by decide))))))))))))) (fun _ h_ => h_.1))) hb); have n4_ := aA (Kd.R_below (by (with_reducible repeat (first | apply Kd.R_alloc | apply Kd.R_drewN | apply Kd.R_drew)); exact (Kd.R_mono (rF 10 (rF 9 (rF 8 (rF 7 (rF 6 (rF 5 (rF 4 (rF 3 (rF 2 (rF 1 (rF 0 (Kd.R_types HO475.out BK482.out (by decide))))))))))))) (fun _ h_ => h_.1))) hb); have n5_ := aA (Kd.R_below (by (with_reducible repeat (first | apply Kd.R_alloc | apply Kd.R_drewN | apply Kd.R_drew)); exact (Kd.R_mono (rF 10 (rF 9 (rF 8 (rF 7 (rF 6 (rF 5 (rF 4 (rF 3 (rF 2 (rF 1 (rF 0 (Kd.R_types HO480.out BK482.out (by decide))))))))))))) (fun _ h_ => h_.1))) hb); have n6_ := aA (blk_below (g := gb444) (o := .cells #[.int .i64 t445, .slice Ao13 t446.length co13, .int .i64 t449, .int .i64 t450, .int .i64 t451, .int .i64 t452, .int .i64 t453, .slice Ao20 t454.length co20, .int .i64 t457, .int .i64 t458, .slice Ao24 t459.length co24] 50 (0, 0)) (by (with_reducible repeat (first | refine blk_drewN ?_ _ | refine blk_drew ?_ | refine blk_alloc ?_ _)); refine blk_far ?_ NB444_482.out _; (with_reducible repeat (first | refine blk_drewN ?_ _ | refine blk_drew ?_ | refine blk_alloc ?_ _)); refine blk_far ?_ NB444_482.out _; (with_reducible repeat (first | refine blk_drewN ?_ _ | refine blk_drew ?_ | refine blk_alloc ?_ _)); refine blk_far ?_ NB444_482.out _; (with_reducible repeat (first | refine blk_drewN ?_ _ | refine blk_drew ?_ | refine blk_alloc ?_ _)); refine blk_far ?_ NB444_482.out _; (with_reducible repeat (first | refine blk_drewN ?_ _ | refine blk_drew ?_ | refine blk_alloc ?_ _)); refine blk_far ?_ NB444_482.out _; (with_reducible repeat (first | refine blk_drewN ?_ _ | refine blk_drew ?_ | refine blk_alloc ?_ _)); refine blk_far ?_ NB444_482.out _; (with_reducible repeat (first | refine blk_drewN ?_ _ | refine blk_drew ?_ | refine blk_alloc ?_ _)); refine blk_far ?_ NB444_482.out _; (with_reducible repeat (first | refine blk_drewN ?_ _ | refine blk_drew ?_ | refine blk_alloc ?_ _)); refine blk_far ?_ NB444_482.out _; (with_reducible repeat (first | refine blk_drewN ?_ _ | refine blk_drew ?_ | refine blk_alloc ?_ _)); refine blk_far ?_ NB444_482.out _; (with_reducible repeat (first | refine blk_drewN ?_ _ | refine blk_drew ?_ | refine blk_alloc ?_ _)); refine blk_far ?_ NB444_482.out _; (with_reducible repeat (first | refine blk_drewN ?_ _ | refine blk_drew ?_ | refine blk_alloc ?_ _)); refine blk_far ?_ NB444_482.out _; (with_reducible repeat (first | refine blk_drewN ?_ _ | refine blk_drew ?_ | refine blk_alloc ?_ _)); exact BK444.out) hb); have n7_ := aA (blk_below (g := gb482) (o := .cells #[.int .i64 t464, .slice Ao47 t465.length co47, .int .i64 t468, .int .i64 t469, .int .i64 t470, .int .i64 t471, .int .i64 t472, .slice Ao48 t473.length co48, .int .i64 t476, .int .i64 t477, .slice Ao49 t478.length co49] 50 (0, 0)) (by (with_reducible repeat (first | refine blk_drewN ?_ _ | refine blk_drew ?_ | refine blk_alloc ?_ _)); have h_ := BK482.out; exact pK 10 (pK 9 (pK 8 (pK 7 (pK 6 (pK 5 (pK 4 (pK 3 (pK 2 (pK 1 (pK 0 (h_)))))))))))) hb); have n8_ := aA (below_step (mD2 GE444.out GE482.out) hb); clear HO448 HO456 HO461 HO467 HO475 HO480 BK444 BK482 HB; have HO448 := n0_; have HO456 := n1_; have HO461 := n2_; have HO467 := n3_; have HO475 := n4_; have HO480 := n5_; have BK444 := n6_; have BK482 := n7_; have HB := n8_; clear n0_ n1_ n2_ n3_ n4_ n5_ n6_ n7_ n8_; (try clear hb); (try clear hb2); (try clear hk); (try clear hi)))
        go_meet
        case rel => exact ⟨_, H', ⟨by first | omega | exact Nat.le_refl _⟩, ⟨by (with_reducible repeat (first | apply Kd.R_alloc | apply Kd.R_drewN | apply Kd.R_drew)); exact Kd.R_mono HO448.out (fun _ hk => hk.1.1)⟩, ⟨by (with_reducible repeat (first | apply Kd.R_alloc | apply Kd.R_drewN | apply Kd.R_drew)); exact Kd.R_mono HO456.out (fun _ hk => hk.1.1)⟩, ⟨by (with_reducible repeat (first | apply Kd.R_alloc | apply Kd.R_drewN | apply Kd.R_drew)); exact Kd.R_mono HO461.out (fun _ hk => trivial)⟩, ⟨by (with_reducible repeat (first | refine blk_drewN ?_ _ | refine blk_drew ?_ | refine blk_alloc ?_ _)); exact BK444.out⟩, ⟨by repeat (first | (with_reducible first | exact HB.out | apply below_alloc | apply pw_below_drewN | apply below_drew1 | refine below_set ?_ GE444.out | refine below_set ?_ GE482.out) | exact HB.out)⟩⟩
      ·replace c32 := Bool.eq_false_iff.mpr c32
       subst c32
       have H1 : (some false) = some r := by rw [if_neg (show ¬ (false = true) by decide)] at H; exact H
       clear H
       have H := H1
       clear H1
       obtain rfl := Option.some.inj H
       go_wp2_with (first | ((with_reducible refine gate_callee (f := 30) rfl ?_); refine goesL_ (some 29) rfl rfl Try.func30 (by kernel_rfl) rfl #[.string t462] rfl mS ?_; (with_reducible refine (code_Get.calls t462 t464 t465 t468 t469 t470 t471 t472 t473 t476 t477 t478 t481 _ A29.out).mono ?_); rintro e w52 ⟨v466, v474, v479, rfl, ho0, ho1, ho2, hb⟩; refine ⟨_, rfl, ?_⟩; have n0_ := aA (Kd.R_mono (Kd.R_told (Kd.R_told (Kd.R_old (mR HO448.out) hb) (Kd.R_base ho0)) (Kd.R_base ho1)) (fun _ h_ => h_.1)); have n1_ := aA (Kd.R_mono (Kd.R_told (Kd.R_told (Kd.R_old (mR HO456.out) hb) (Kd.R_base ho0)) (Kd.R_base ho1)) (fun _ h_ => h_.1)); have n2_ := aA (Kd.R_elder' (mR HO461.out) (Kd.R_base ho2) hb); have n3_ := aA (Kd.R_lower (Kd.R_new' (Kd.R_new' ho0 (Kd.R_lt (mR HO448.out))) (Kd.R_lt (mR HO456.out))) (below_size (mD1 GE444.out))); have n4_ := aA (Kd.R_lower (Kd.R_new' (Kd.R_new' ho1 (Kd.R_lt (mR HO448.out))) (Kd.R_lt (mR HO456.out))) (below_size (mD1 GE444.out))); have n5_ := aA (Kd.R_lower (Kd.R_new' ho2 (Kd.R_lt (mR HO461.out))) (below_size (mD1 GE444.out))); have n6_ := aA (bB BK444.out hb); have n7_ := aA (below_step (mD1 GE444.out) hb); clear HO448 HO456 HO461 BK444 HB; have HO448 := n0_; have HO456 := n1_; have HO461 := n2_; have HO467 := n3_; have HO475 := n4_; have HO480 := n5_; have BK444 := n6_; have HB := n7_; clear n0_ n1_ n2_ n3_ n4_ n5_ n6_ n7_; (try clear hb); (try clear hb2); (try clear hk); (try clear hi); (try clear ho0); (try clear ho1); (try clear ho2)) | ((with_reducible refine gate_dst (N := 7) rfl ?_); (try (refine gate_guard (by rfl) ?_; dsimp only)); refine box_event ?hg (N := 7) ?hd (cs := #[.int .i64 0, .slice none 0 0, .int .i64 0, .int .i64 0, .int .i64 0, .int .i64 0, .int .i64 0, .slice none 0 0, .int .i64 0, .int .i64 0, .slice none 0 0]) (t := 50) ?hr ?_; (case hd => rfl); (case hg => rfl); (case hr => first | (go_simp; done) | (go_simp; rfl)); intro gb482 hg w53 hbox hb; have n0_ := aA (Kd.R_below (mR HO448.out) hb); have n1_ := aA (Kd.R_below (mR HO456.out) hb); have n2_ := aA (Kd.R_below (mR HO461.out) hb); have n3_ := aA (Kd.R_below (mR HO467.out) hb); have n4_ := aA (Kd.R_below (mR HO475.out) hb); have n5_ := aA (Kd.R_below (mR HO480.out) hb); have n6_ := aA (bB BK444.out hb); have n7_ := aA (below_step (mD1 GE444.out) hb); have n8_ := aA (hbox); have n9_ := aA ((bZ hg (mD1 GE444.out))); have n10_ := aA ((bZ hg (mD1 GE444.out))); have n11_ := aA ((bL hg BK444.out)); have n12_ := aA ((bG hg BK444.out)); clear HO448 HO456 HO461 HO467 HO475 HO480 BK444 HB; have HO448 := n0_; have HO456 := n1_; have HO461 := n2_; have HO467 := n3_; have HO475 := n4_; have HO480 := n5_; have BK444 := n6_; have HB := n7_; have BK482 := n8_; have GW482 := n9_; have GE482 := n10_; have NB444_482 := n11_; have NB482_444 := n12_; clear n0_ n1_ n2_ n3_ n4_ n5_ n6_ n7_ n8_ n9_ n10_ n11_ n12_ hb hbox hg; have hnb54 := NB482_444.out; have hnc54 := NB444_482.out; obtain ⟨hcz55_0, hcz55_1, hcz55_2, hcz55_3, hcz55_4, hcz55_5, hcz55_6, hcz55_7, hcz55_8, hcz55_9, hcz55_10⟩ := bC11 BK482.out; obtain ⟨hfz55_0, hfz55_1, hfz55_2, hfz55_3, hfz55_4, hfz55_5, hfz55_6, hfz55_7, hfz55_8, hfz55_9, hfz55_10⟩ := bF11 BK482.out; obtain ⟨Ao56, co56, eo56⟩ := Kd.R_slice HO467.out; subst eo56; obtain ⟨Ao57, co57, eo57⟩ := Kd.R_slice HO475.out; subst eo57; obtain ⟨Ao58, co58, eo58⟩ := Kd.R_slice HO480.out; subst eo58; obtain ⟨hcz59_0, hcz59_1, hcz59_2, hcz59_3, hcz59_4, hcz59_5, hcz59_6, hcz59_7, hcz59_8, hcz59_9, hcz59_10⟩ := bC11 BK444.out; obtain ⟨hfz59_0, hfz59_1, hfz59_2, hfz59_3, hfz59_4, hfz59_5, hfz59_6, hfz59_7, hfz59_8, hfz59_9, hfz59_10⟩ := bF11 BK444.out) | (go_at_call 32; (with_reducible refine (foghornref17_Same.calls k t464 _ _ t465 t468 t469 t470 t471 t472 _ _ t473 t476 t477 _ _ t478 t445 _ _ t446 t449 t450 t451 t452 t453 _ _ t454 t457 t458 _ _ t459 false _ ?side1 ?side2 ?side3 ?side4 ?side5 ?side6 ?side7 ?side8 ?side9 ?side10 ?side11 ?side12 A31.out).mono ?_); (case side1 => refine (Kd.R_reads' (e := 41) (base := w.heap.size) (ok := fun k_ => ((some k_ ≠ (.slice Ao57 t473.length co57 : Value).ownBlock ∧ some k_ ≠ (.slice Ao13 t446.length co13 : Value).ownBlock) ∧ some k_ ≠ (.slice Ao20 t454.length co20 : Value).ownBlock)) (n := t465.length) (c := co56) ?_).2.2; exact (by (with_reducible repeat (first | apply Kd.R_alloc | apply Kd.R_drewN | apply Kd.R_drew)); exact (Kd.R_mono (rF 10 (rF 9 (rF 8 (rF 7 (rF 6 (rF 5 (rF 4 (rF 3 (rF 2 (rF 1 (rF 0 (Kd.R_types HO467.out BK482.out (by decide))))))))))))) (fun _ h_ => h_.1)))); (case side2 => exact (Kd.R_reads' HO467.out).2.1); (case side3 => refine (Kd.R_reads' (e := 41) (base := w.heap.size) (ok := fun k_ => ((some k_ ≠ (.slice Ao56 t465.length co56 : Value).ownBlock ∧ some k_ ≠ (.slice Ao13 t446.length co13 : Value).ownBlock) ∧ some k_ ≠ (.slice Ao20 t454.length co20 : Value).ownBlock)) (n := t473.length) (c := co57) ?_).2.2; exact (by (with_reducible repeat (first | apply Kd.R_alloc | apply Kd.R_drewN | apply Kd.R_drew)); exact (Kd.R_mono (rF 10 (rF 9 (rF 8 (rF 7 (rF 6 (rF 5 (rF 4 (rF 3 (rF 2 (rF 1 (rF 0 (Kd.R_types HO475.out BK482.out (by decide))))))))))))) (fun _ h_ => h_.1)))); (case side4 => exact (Kd.R_reads' HO475.out).2.1); (case side5 => refine (Kd.R_reads' (e := 35) (base := w.heap.size) (ok := fun k_ => (True ∧ some k_ ≠ (.slice Ao24 t459.length co24 : Value).ownBlock)) (n := t478.length) (c := co58) ?_).2.2; exact (by (with_reducible repeat (first | apply Kd.R_alloc | apply Kd.R_drewN | apply Kd.R_drew)); exact (Kd.R_mono (rF 10 (rF 9 (rF 8 (rF 7 (rF 6 (rF 5 (rF 4 (rF 3 (rF 2 (rF 1 (rF 0 (Kd.R_types HO480.out BK482.out (by decide))))))))))))) (fun _ h_ => h_.1)))); (case side6 => exact (Kd.R_reads' HO480.out).2.1); (case side7 => refine (Kd.R_reads' (e := 41) (base := w.heap.size) (ok := fun k_ => ((some k_ ≠ (.slice Ao20 t454.length co20 : Value).ownBlock ∧ some k_ ≠ (.slice Ao56 t465.length co56 : Value).ownBlock) ∧ some k_ ≠ (.slice Ao57 t473.length co57 : Value).ownBlock)) (n := t446.length) (c := co13) ?_).2.2; exact (by (with_reducible repeat (first | apply Kd.R_alloc | apply Kd.R_drewN | apply Kd.R_drew)); exact (Kd.R_mono (rF 10 (rF 9 (rF 8 (rF 7 (rF 6 (rF 5 (rF 4 (rF 3 (rF 2 (rF 1 (rF 0 (Kd.R_types HO448.out BK482.out (by decide))))))))))))) (fun _ h_ => h_.1)))); (case side8 => exact (Kd.R_reads' HO448.out).2.1); (case side9 => refine (Kd.R_reads' (e := 41) (base := w.heap.size) (ok := fun k_ => ((some k_ ≠ (.slice Ao13 t446.length co13 : Value).ownBlock ∧ some k_ ≠ (.slice Ao56 t465.length co56 : Value).ownBlock) ∧ some k_ ≠ (.slice Ao57 t473.length co57 : Value).ownBlock)) (n := t454.length) (c := co20) ?_).2.2; exact (by (with_reducible repeat (first | apply Kd.R_alloc | apply Kd.R_drewN | apply Kd.R_drew)); exact (Kd.R_mono (rF 10 (rF 9 (rF 8 (rF 7 (rF 6 (rF 5 (rF 4 (rF 3 (rF 2 (rF 1 (rF 0 (Kd.R_types HO456.out BK482.out (by decide))))))))))))) (fun _ h_ => h_.1)))); (case side10 => exact (Kd.R_reads' HO456.out).2.1); (case side11 => refine (Kd.R_reads' (e := 35) (base := w.heap.size) (ok := fun k_ => (True ∧ some k_ ≠ (.slice Ao58 t478.length co58 : Value).ownBlock)) (n := t459.length) (c := co24) ?_).2.2; exact (by (with_reducible repeat (first | apply Kd.R_alloc | apply Kd.R_drewN | apply Kd.R_drew)); exact (Kd.R_mono (rF 10 (rF 9 (rF 8 (rF 7 (rF 6 (rF 5 (rF 4 (rF 3 (rF 2 (rF 1 (rF 0 (Kd.R_types HO461.out BK482.out (by decide))))))))))))) (fun _ h_ => h_.1)))); (case side12 => exact (Kd.R_reads' HO461.out).2.1); rintro e w60 ⟨rfl, hb⟩; have n0_ := aA (Kd.R_below (by (with_reducible repeat (first | apply Kd.R_alloc | apply Kd.R_drewN | apply Kd.R_drew)); exact (Kd.R_mono (rF 10 (rF 9 (rF 8 (rF 7 (rF 6 (rF 5 (rF 4 (rF 3 (rF 2 (rF 1 (rF 0 (Kd.R_types HO448.out BK482.out (by decide))))))))))))) (fun _ h_ => h_.1))) hb); have n1_ := aA (Kd.R_below (by (with_reducible repeat (first | apply Kd.R_alloc | apply Kd.R_drewN | apply Kd.R_drew)); exact (Kd.R_mono (rF 10 (rF 9 (rF 8 (rF 7 (rF 6 (rF 5 (rF 4 (rF 3 (rF 2 (rF 1 (rF 0 (Kd.R_types HO456.out BK482.out (by decide))))))))))))) (fun _ h_ => h_.1))) hb); have n2_ := aA (Kd.R_below (by (with_reducible repeat (first | apply Kd.R_alloc | apply Kd.R_drewN | apply Kd.R_drew)); exact (Kd.R_mono (rF 10 (rF 9 (rF 8 (rF 7 (rF 6 (rF 5 (rF 4 (rF 3 (rF 2 (rF 1 (rF 0 (Kd.R_types HO461.out BK482.out (by decide))))))))))))) (fun _ h_ => h_.1))) hb); have n3_ := aA (Kd.R_below (by (with_reducible repeat (first | apply Kd.R_alloc | apply Kd.R_drewN | apply Kd.R_drew)); exact (Kd.R_mono (rF 10 (rF 9 (rF 8 (rF 7 (rF 6 (rF 5 (rF 4 (rF 3 (rF 2 (rF 1 (rF 0 (Kd.R_types HO467.out BK482.out (by decide))))))))))))) (fun _ h_ => h_.1))) hb); have n4_ := aA (Kd.R_below (by (with_reducible repeat (first | apply Kd.R_alloc | apply Kd.R_drewN | apply Kd.R_drew)); exact (Kd.R_mono (rF 10 (rF 9 (rF 8 (rF 7 (rF 6 (rF 5 (rF 4 (rF 3 (rF 2 (rF 1 (rF 0 (Kd.R_types HO475.out BK482.out (by decide))))))))))))) (fun _ h_ => h_.1))) hb); have n5_ := aA (Kd.R_below (by (with_reducible repeat (first | apply Kd.R_alloc | apply Kd.R_drewN | apply Kd.R_drew)); exact (Kd.R_mono (rF 10 (rF 9 (rF 8 (rF 7 (rF 6 (rF 5 (rF 4 (rF 3 (rF 2 (rF 1 (rF 0 (Kd.R_types HO480.out BK482.out (by decide))))))))))))) (fun _ h_ => h_.1))) hb); have n6_ := aA (blk_below (g := gb444) (o := .cells #[.int .i64 t445, .slice Ao13 t446.length co13, .int .i64 t449, .int .i64 t450, .int .i64 t451, .int .i64 t452, .int .i64 t453, .slice Ao20 t454.length co20, .int .i64 t457, .int .i64 t458, .slice Ao24 t459.length co24] 50 (0, 0)) (by (with_reducible repeat (first | refine blk_drewN ?_ _ | refine blk_drew ?_ | refine blk_alloc ?_ _)); refine blk_far ?_ NB444_482.out _; (with_reducible repeat (first | refine blk_drewN ?_ _ | refine blk_drew ?_ | refine blk_alloc ?_ _)); refine blk_far ?_ NB444_482.out _; (with_reducible repeat (first | refine blk_drewN ?_ _ | refine blk_drew ?_ | refine blk_alloc ?_ _)); refine blk_far ?_ NB444_482.out _; (with_reducible repeat (first | refine blk_drewN ?_ _ | refine blk_drew ?_ | refine blk_alloc ?_ _)); refine blk_far ?_ NB444_482.out _; (with_reducible repeat (first | refine blk_drewN ?_ _ | refine blk_drew ?_ | refine blk_alloc ?_ _)); refine blk_far ?_ NB444_482.out _; (with_reducible repeat (first | refine blk_drewN ?_ _ | refine blk_drew ?_ | refine blk_alloc ?_ _)); refine blk_far ?_ NB444_482.out _; (with_reducible repeat (first | refine blk_drewN ?_ _ | refine blk_drew ?_ | refine blk_alloc ?_ _)); refine blk_far ?_ NB444_482.out _; (with_reducible repeat (first | refine blk_drewN ?_ _ | refine blk_drew ?_ | refine blk_alloc ?_ _)); refine blk_far ?_ NB444_482.out _; (with_reducible repeat (first | refine blk_drewN ?_ _ | refine blk_drew ?_ | refine blk_alloc ?_ _)); refine blk_far ?_ NB444_482.out _; (with_reducible repeat (first | refine blk_drewN ?_ _ | refine blk_drew ?_ | refine blk_alloc ?_ _)); refine blk_far ?_ NB444_482.out _; (with_reducible repeat (first | refine blk_drewN ?_ _ | refine blk_drew ?_ | refine blk_alloc ?_ _)); refine blk_far ?_ NB444_482.out _; (with_reducible repeat (first | refine blk_drewN ?_ _ | refine blk_drew ?_ | refine blk_alloc ?_ _)); exact BK444.out) hb); have n7_ := aA (blk_below (g := gb482) (o := .cells #[.int .i64 t464, .slice Ao56 t465.length co56, .int .i64 t468, .int .i64 t469, .int .i64 t470, .int .i64 t471, .int .i64 t472, .slice Ao57 t473.length co57, .int .i64 t476, .int .i64 t477, .slice Ao58 t478.length co58] 50 (0, 0)) (by (with_reducible repeat (first | refine blk_drewN ?_ _ | refine blk_drew ?_ | refine blk_alloc ?_ _)); have h_ := BK482.out; exact pK 10 (pK 9 (pK 8 (pK 7 (pK 6 (pK 5 (pK 4 (pK 3 (pK 2 (pK 1 (pK 0 (h_)))))))))))) hb); have n8_ := aA (below_step (mD2 GE444.out GE482.out) hb); clear HO448 HO456 HO461 HO467 HO475 HO480 BK444 BK482 HB; have HO448 := n0_; have HO456 := n1_; have HO461 := n2_; have HO467 := n3_; have HO475 := n4_; have HO480 := n5_; have BK444 := n6_; have BK482 := n7_; have HB := n8_; clear n0_ n1_ n2_ n3_ n4_ n5_ n6_ n7_ n8_; (try clear hb); (try clear hb2); (try clear hk); (try clear hi)))
       go_ret
       exact ⟨by first | rfl | (simp [errW_none, errW_some] <;> rfl) | (simp only [← hji4]; first | rfl | (simp [errW_none, errW_some] <;> rfl)) | (simp [*, errW_none, errW_some] <;> rfl), by repeat (first | (with_reducible first | exact HB.out | apply below_alloc | apply pw_below_drewN | apply below_drew1 | refine below_set ?_ GE444.out | refine below_set ?_ GE482.out) | exact HB.out)⟩
     ·rw [if_neg c30] at H
      have c30b0 : (t481 == 0) = false := beq_eq_false_iff_ne.mpr c30
      have c30b1 : (t481 != 0) = true := bne_iff_ne.mpr c30
      obtain rfl := Option.some.inj H
      go_wp2_with (first | ((with_reducible refine gate_callee (f := 30) rfl ?_); refine goesL_ (some 29) rfl rfl Try.func30 (by kernel_rfl) rfl #[.string t462] rfl mS ?_; (with_reducible refine (code_Get.calls t462 t464 t465 t468 t469 t470 t471 t472 t473 t476 t477 t478 t481 _ A29.out).mono ?_); rintro e w61 ⟨v466, v474, v479, rfl, ho0, ho1, ho2, hb⟩; refine ⟨_, rfl, ?_⟩; have n0_ := aA (Kd.R_mono (Kd.R_told (Kd.R_told (Kd.R_old (mR HO448.out) hb) (Kd.R_base ho0)) (Kd.R_base ho1)) (fun _ h_ => h_.1)); have n1_ := aA (Kd.R_mono (Kd.R_told (Kd.R_told (Kd.R_old (mR HO456.out) hb) (Kd.R_base ho0)) (Kd.R_base ho1)) (fun _ h_ => h_.1)); have n2_ := aA (Kd.R_elder' (mR HO461.out) (Kd.R_base ho2) hb); have n3_ := aA (Kd.R_lower (Kd.R_new' (Kd.R_new' ho0 (Kd.R_lt (mR HO448.out))) (Kd.R_lt (mR HO456.out))) (below_size (mD1 GE444.out))); have n4_ := aA (Kd.R_lower (Kd.R_new' (Kd.R_new' ho1 (Kd.R_lt (mR HO448.out))) (Kd.R_lt (mR HO456.out))) (below_size (mD1 GE444.out))); have n5_ := aA (Kd.R_lower (Kd.R_new' ho2 (Kd.R_lt (mR HO461.out))) (below_size (mD1 GE444.out))); have n6_ := aA (bB BK444.out hb); have n7_ := aA (below_step (mD1 GE444.out) hb); clear HO448 HO456 HO461 BK444 HB; have HO448 := n0_; have HO456 := n1_; have HO461 := n2_; have HO467 := n3_; have HO475 := n4_; have HO480 := n5_; have BK444 := n6_; have HB := n7_; clear n0_ n1_ n2_ n3_ n4_ n5_ n6_ n7_; (try clear hb); (try clear hb2); (try clear hk); (try clear hi); (try clear ho0); (try clear ho1); (try clear ho2)) | ((with_reducible refine gate_dst (N := 7) rfl ?_); (try (refine gate_guard (by rfl) ?_; dsimp only)); refine box_event ?hg (N := 7) ?hd (cs := #[.int .i64 0, .slice none 0 0, .int .i64 0, .int .i64 0, .int .i64 0, .int .i64 0, .int .i64 0, .slice none 0 0, .int .i64 0, .int .i64 0, .slice none 0 0]) (t := 50) ?hr ?_; (case hd => rfl); (case hg => rfl); (case hr => first | (go_simp; done) | (go_simp; rfl)); intro gb482 hg w62 hbox hb; have n0_ := aA (Kd.R_below (mR HO448.out) hb); have n1_ := aA (Kd.R_below (mR HO456.out) hb); have n2_ := aA (Kd.R_below (mR HO461.out) hb); have n3_ := aA (Kd.R_below (mR HO467.out) hb); have n4_ := aA (Kd.R_below (mR HO475.out) hb); have n5_ := aA (Kd.R_below (mR HO480.out) hb); have n6_ := aA (bB BK444.out hb); have n7_ := aA (below_step (mD1 GE444.out) hb); have n8_ := aA (hbox); have n9_ := aA ((bZ hg (mD1 GE444.out))); have n10_ := aA ((bZ hg (mD1 GE444.out))); have n11_ := aA ((bL hg BK444.out)); have n12_ := aA ((bG hg BK444.out)); clear HO448 HO456 HO461 HO467 HO475 HO480 BK444 HB; have HO448 := n0_; have HO456 := n1_; have HO461 := n2_; have HO467 := n3_; have HO475 := n4_; have HO480 := n5_; have BK444 := n6_; have HB := n7_; have BK482 := n8_; have GW482 := n9_; have GE482 := n10_; have NB444_482 := n11_; have NB482_444 := n12_; clear n0_ n1_ n2_ n3_ n4_ n5_ n6_ n7_ n8_ n9_ n10_ n11_ n12_ hb hbox hg; have hnb63 := NB482_444.out; have hnc63 := NB444_482.out; obtain ⟨hcz64_0, hcz64_1, hcz64_2, hcz64_3, hcz64_4, hcz64_5, hcz64_6, hcz64_7, hcz64_8, hcz64_9, hcz64_10⟩ := bC11 BK482.out; obtain ⟨hfz64_0, hfz64_1, hfz64_2, hfz64_3, hfz64_4, hfz64_5, hfz64_6, hfz64_7, hfz64_8, hfz64_9, hfz64_10⟩ := bF11 BK482.out; obtain ⟨Ao65, co65, eo65⟩ := Kd.R_slice HO467.out; subst eo65; obtain ⟨Ao66, co66, eo66⟩ := Kd.R_slice HO475.out; subst eo66; obtain ⟨Ao67, co67, eo67⟩ := Kd.R_slice HO480.out; subst eo67))
      go_ret
      exact ⟨by first | rfl | (simp [errW_none, errW_some] <;> rfl) | (simp only [← hji4]; first | rfl | (simp [errW_none, errW_some] <;> rfl)) | (simp [*, errW_none, errW_some] <;> rfl), by repeat (first | (with_reducible first | exact HB.out | apply below_alloc | apply pw_below_drewN | apply below_drew1 | refine below_set ?_ GE444.out | refine below_set ?_ GE482.out) | exact HB.out)⟩
    ·rw [if_neg c28] at H
     have c28b0 : (t463 == 0) = false := beq_eq_false_iff_ne.mpr c28
     have c28b1 : (t463 != 0) = true := bne_iff_ne.mpr c28
     (first | rw [c28b0] | (simp only [i64_w, i32_w]; rw [c28b0]) | skip)
     have H' := aA H
     clear H
     go_wp2
     go_meet
     case rel => exact ⟨_, H', ⟨by first | omega | exact Nat.le_refl _⟩, ⟨by (with_reducible repeat (first | apply Kd.R_alloc | apply Kd.R_drewN | apply Kd.R_drew)); exact HO448.out⟩, ⟨by (with_reducible repeat (first | apply Kd.R_alloc | apply Kd.R_drewN | apply Kd.R_drew)); exact HO456.out⟩, ⟨by (with_reducible repeat (first | apply Kd.R_alloc | apply Kd.R_drewN | apply Kd.R_drew)); exact HO461.out⟩, ⟨by (with_reducible repeat (first | refine blk_drewN ?_ _ | refine blk_drew ?_ | refine blk_alloc ?_ _)); exact BK444.out⟩, ⟨by repeat (first | (with_reducible first | exact HB.out | apply below_alloc | apply pw_below_drewN | apply below_drew1 | refine below_set ?_ GE444.out) | exact HB.out)⟩⟩
   case rest =>
    clear HC8
    try clear c2
    try clear p2
    try clear c3
    try clear c4
    try clear c5
    try clear c5b0
    try clear c5b1
    try clear c6
    try clear c6b0
    try clear c6b1
    try clear c8
    try clear c24
    try clear c25
    try clear c28
    try clear c28b0
    try clear c28b1
    try clear c30
    try clear c30b0
    try clear c30b1
    try clear c32
    try clear c33
    try clear c33b0
    try clear c33b1
    try clear c36
    try clear c45
    try clear c54
    try clear c63
    try clear hcz26_0
    try clear hcz26_1
    try clear hcz26_10
    try clear hcz26_2
    try clear hcz26_3
    try clear hcz26_4
    try clear hcz26_5
    try clear hcz26_6
    try clear hcz26_7
    try clear hcz26_8
    try clear hcz26_9
    try clear hcz37_0
    try clear hcz37_1
    try clear hcz37_10
    try clear hcz37_2
    try clear hcz37_3
    try clear hcz37_4
    try clear hcz37_5
    try clear hcz37_6
    try clear hcz37_7
    try clear hcz37_8
    try clear hcz37_9
    try clear hcz41_0
    try clear hcz41_1
    try clear hcz41_10
    try clear hcz41_2
    try clear hcz41_3
    try clear hcz41_4
    try clear hcz41_5
    try clear hcz41_6
    try clear hcz41_7
    try clear hcz41_8
    try clear hcz41_9
    try clear hcz46_0
    try clear hcz46_1
    try clear hcz46_10
    try clear hcz46_2
    try clear hcz46_3
    try clear hcz46_4
    try clear hcz46_5
    try clear hcz46_6
    try clear hcz46_7
    try clear hcz46_8
    try clear hcz46_9
    try clear hcz50_0
    try clear hcz50_1
    try clear hcz50_10
    try clear hcz50_2
    try clear hcz50_3
    try clear hcz50_4
    try clear hcz50_5
    try clear hcz50_6
    try clear hcz50_7
    try clear hcz50_8
    try clear hcz50_9
    try clear hcz55_0
    try clear hcz55_1
    try clear hcz55_10
    try clear hcz55_2
    try clear hcz55_3
    try clear hcz55_4
    try clear hcz55_5
    try clear hcz55_6
    try clear hcz55_7
    try clear hcz55_8
    try clear hcz55_9
    try clear hcz59_0
    try clear hcz59_1
    try clear hcz59_10
    try clear hcz59_2
    try clear hcz59_3
    try clear hcz59_4
    try clear hcz59_5
    try clear hcz59_6
    try clear hcz59_7
    try clear hcz59_8
    try clear hcz59_9
    try clear hcz64_0
    try clear hcz64_1
    try clear hcz64_10
    try clear hcz64_2
    try clear hcz64_3
    try clear hcz64_4
    try clear hcz64_5
    try clear hcz64_6
    try clear hcz64_7
    try clear hcz64_8
    try clear hcz64_9
    try clear hfz26_0
    try clear hfz26_1
    try clear hfz26_10
    try clear hfz26_2
    try clear hfz26_3
    try clear hfz26_4
    try clear hfz26_5
    try clear hfz26_6
    try clear hfz26_7
    try clear hfz26_8
    try clear hfz26_9
    try clear hfz37_0
    try clear hfz37_1
    try clear hfz37_10
    try clear hfz37_2
    try clear hfz37_3
    try clear hfz37_4
    try clear hfz37_5
    try clear hfz37_6
    try clear hfz37_7
    try clear hfz37_8
    try clear hfz37_9
    try clear hfz41_0
    try clear hfz41_1
    try clear hfz41_10
    try clear hfz41_2
    try clear hfz41_3
    try clear hfz41_4
    try clear hfz41_5
    try clear hfz41_6
    try clear hfz41_7
    try clear hfz41_8
    try clear hfz41_9
    try clear hfz46_0
    try clear hfz46_1
    try clear hfz46_10
    try clear hfz46_2
    try clear hfz46_3
    try clear hfz46_4
    try clear hfz46_5
    try clear hfz46_6
    try clear hfz46_7
    try clear hfz46_8
    try clear hfz46_9
    try clear hfz50_0
    try clear hfz50_1
    try clear hfz50_10
    try clear hfz50_2
    try clear hfz50_3
    try clear hfz50_4
    try clear hfz50_5
    try clear hfz50_6
    try clear hfz50_7
    try clear hfz50_8
    try clear hfz50_9
    try clear hfz55_0
    try clear hfz55_1
    try clear hfz55_10
    try clear hfz55_2
    try clear hfz55_3
    try clear hfz55_4
    try clear hfz55_5
    try clear hfz55_6
    try clear hfz55_7
    try clear hfz55_8
    try clear hfz55_9
    try clear hfz59_0
    try clear hfz59_1
    try clear hfz59_10
    try clear hfz59_2
    try clear hfz59_3
    try clear hfz59_4
    try clear hfz59_5
    try clear hfz59_6
    try clear hfz59_7
    try clear hfz59_8
    try clear hfz59_9
    try clear hfz64_0
    try clear hfz64_1
    try clear hfz64_10
    try clear hfz64_2
    try clear hfz64_3
    try clear hfz64_4
    try clear hfz64_5
    try clear hfz64_6
    try clear hfz64_7
    try clear hfz64_8
    try clear hfz64_9
    obtain ⟨kq, HA, HJ7, HO_445001, HO_445007, HO_445010, BK444, HB⟩ := hcut
    cases kq with
    | zero => exact absurd HA.out (by simp [foghornlaw17_CodeBack.j0])
    | succ kj7 =>
     have H := HA.out
     clear HA
     simp only [foghornlaw17_CodeBack.j0] at H
     replace H := Option.bind_eq_some_iff.mp H
     obtain ⟨⟨t484, t485, t488, t489, t490, t491, t492, t493, t496, t497, t498, t501⟩, A680, H⟩ := H
     have A68 := aA A680
     clear A680
     by_cases c69 : t501 = 0
     ·rw [if_pos c69] at H
      have c69b0 : (t501 == 0) = true := beq_iff_eq.mpr c69
      have c69b1 : (t501 != 0) = false := bne_eq_false_iff_eq.mpr c69
      clear c69
      replace H := Option.bind_eq_some_iff.mp H
      obtain ⟨⟨t503, t504⟩, A700, H⟩ := H
      have A70 := aA A700
      clear A700
      replace H := Option.bind_eq_some_iff.mp H
      obtain ⟨t505, A710, H⟩ := H
      have A71 := aA A710
      clear A710
      by_cases c72 : t505 = true
      ·subst c72
       have H1 : ((code_Right.f t484 t485 t488 t489 t490 t491 t492 t493 t496 t497 t498).bind fun t506 => (if t506 = true then (if t504 = 0 then (some (t503.toList == (a1.extract 0 ((ji4) : Int).toNat).toList)) else (some false)) else (some false))) = some r := by rw [if_pos rfl] at H; exact H
       clear H
       have H := H1
       clear H1
       replace H := Option.bind_eq_some_iff.mp H
       obtain ⟨t506, A730, H⟩ := H
       have A73 := aA A730
       clear A730
       by_cases c74 : t506 = true
       ·subst c74
        have H1 : (if t504 = 0 then (some (t503.toList == (a1.extract 0 ((ji4) : Int).toNat).toList)) else (some false)) = some r := by rw [if_pos rfl] at H; exact H
        clear H
        have H := H1
        clear H1
        by_cases c75 : t504 = 0
        ·rw [if_pos c75] at H
         have c75b0 : (t504 == 0) = true := beq_iff_eq.mpr c75
         have c75b1 : (t504 != 0) = false := bne_eq_false_iff_eq.mpr c75
         clear c75
         obtain rfl := Option.some.inj H
         go_wp2_with (first | ((with_reducible refine gate_callee (f := 30) rfl ?_); refine goesL_ (some 47) rfl rfl Try.func30 (by kernel_rfl) rfl #[.string (a1.extract 0 ((ji4) : Int).toNat)] rfl (by (try simp only [List.map_toArray, List.map_cons, List.map_nil]); first | done | (simp only [hji4]; rfl) | rfl | (simp only [List.length_drop, List.length_take]; rfl)) ?_; (with_reducible refine (code_Get.calls (a1.extract 0 ((ji4) : Int).toNat) t484 t485 t488 t489 t490 t491 t492 t493 t496 t497 t498 t501 _ A68.out).mono ?_); rintro e w76 ⟨v486, v494, v499, rfl, ho0, ho1, ho2, hb⟩; refine ⟨_, rfl, ?_⟩; have n0_ := aA (Kd.R_mono (Kd.R_told (Kd.R_told (Kd.R_old (mR HO_445001.out) hb) (Kd.R_base ho0)) (Kd.R_base ho1)) (fun _ h_ => h_.1)); have n1_ := aA (Kd.R_mono (Kd.R_told (Kd.R_told (Kd.R_old (mR HO_445007.out) hb) (Kd.R_base ho0)) (Kd.R_base ho1)) (fun _ h_ => h_.1)); have n2_ := aA (Kd.R_elder' (mR HO_445010.out) (Kd.R_base ho2) hb); have n3_ := aA (Kd.R_lower (Kd.R_new' (Kd.R_new' ho0 (Kd.R_lt (mR HO_445001.out))) (Kd.R_lt (mR HO_445007.out))) (below_size (mD1 GE444.out))); have n4_ := aA (Kd.R_lower (Kd.R_new' (Kd.R_new' ho1 (Kd.R_lt (mR HO_445001.out))) (Kd.R_lt (mR HO_445007.out))) (below_size (mD1 GE444.out))); have n5_ := aA (Kd.R_lower (Kd.R_new' ho2 (Kd.R_lt (mR HO_445010.out))) (below_size (mD1 GE444.out))); have n6_ := aA (bB BK444.out hb); have n7_ := aA (below_step (mD1 GE444.out) hb); clear HO_445001 HO_445007 HO_445010 BK444 HB; have HO_445001 := n0_; have HO_445007 := n1_; have HO_445010 := n2_; have HO487 := n3_; have HO495 := n4_; have HO500 := n5_; have BK444 := n6_; have HB := n7_; clear n0_ n1_ n2_ n3_ n4_ n5_ n6_ n7_; (try clear hb); (try clear hb2); (try clear hk); (try clear hi); (try clear ho0); (try clear ho1); (try clear ho2)) | ((with_reducible refine gate_dst (N := 9) rfl ?_); (try (refine gate_guard (by rfl) ?_; dsimp only)); refine box_event ?hg (N := 9) ?hd (cs := #[.int .i64 0, .slice none 0 0, .int .i64 0, .int .i64 0, .int .i64 0, .int .i64 0, .int .i64 0, .slice none 0 0, .int .i64 0, .int .i64 0, .slice none 0 0]) (t := 50) ?hr ?_; (case hd => rfl); (case hg => rfl); (case hr => first | (go_simp; done) | (go_simp; rfl)); intro gb502 hg w77 hbox hb; have n0_ := aA (Kd.R_below (mR HO_445001.out) hb); have n1_ := aA (Kd.R_below (mR HO_445007.out) hb); have n2_ := aA (Kd.R_below (mR HO_445010.out) hb); have n3_ := aA (Kd.R_below (mR HO487.out) hb); have n4_ := aA (Kd.R_below (mR HO495.out) hb); have n5_ := aA (Kd.R_below (mR HO500.out) hb); have n6_ := aA (bB BK444.out hb); have n7_ := aA (below_step (mD1 GE444.out) hb); have n8_ := aA (hbox); have n9_ := aA ((bZ hg (mD1 GE444.out))); have n10_ := aA ((bZ hg (mD1 GE444.out))); have n11_ := aA ((bL hg BK444.out)); have n12_ := aA ((bG hg BK444.out)); clear HO_445001 HO_445007 HO_445010 HO487 HO495 HO500 BK444 HB; have HO_445001 := n0_; have HO_445007 := n1_; have HO_445010 := n2_; have HO487 := n3_; have HO495 := n4_; have HO500 := n5_; have BK444 := n6_; have HB := n7_; have BK502 := n8_; have GW502 := n9_; have GE502 := n10_; have NB444_502 := n11_; have NB502_444 := n12_; clear n0_ n1_ n2_ n3_ n4_ n5_ n6_ n7_ n8_ n9_ n10_ n11_ n12_ hb hbox hg; have hnb78 := NB502_444.out; have hnc78 := NB444_502.out; obtain ⟨hcz79_0, hcz79_1, hcz79_2, hcz79_3, hcz79_4, hcz79_5, hcz79_6, hcz79_7, hcz79_8, hcz79_9, hcz79_10⟩ := bC11 BK502.out; obtain ⟨hfz79_0, hfz79_1, hfz79_2, hfz79_3, hfz79_4, hfz79_5, hfz79_6, hfz79_7, hfz79_8, hfz79_9, hfz79_10⟩ := bF11 BK502.out; obtain ⟨Ao80, co80, eo80⟩ := Kd.R_slice HO487.out; subst eo80; obtain ⟨Ao81, co81, eo81⟩ := Kd.R_slice HO495.out; subst eo81; obtain ⟨Ao82, co82, eo82⟩ := Kd.R_slice HO500.out; subst eo82) | ((with_reducible refine gate_callee (f := 25) rfl ?_); refine goesL_ (some 60) rfl rfl Try.func25 (by kernel_rfl) rfl #[.agg #[.int .i64 t484, .slice Ao80 t485.length co80, .int .i64 t488, .int .i64 t489, .int .i64 t490, .int .i64 t491, .int .i64 t492, .slice Ao81 t493.length co81, .int .i64 t496, .int .i64 t497, .slice Ao82 t498.length co82]] rfl mS ?_; (with_reducible refine (code_Put.calls t484 _ _ t485 t488 t489 t490 t491 t492 _ _ t493 t496 t497 _ _ t498 t503 t504 _ ?side1 ?side2 ?side3 ?side4 ?side5 ?side6 A70.out).mono ?_); (case side1 => refine (Kd.R_reads' (e := 41) (base := w.heap.size) (ok := fun k_ => ((some k_ ≠ (.slice Ao81 t493.length co81 : Value).ownBlock ∧ some k_ ≠ (.slice Ao13 t446.length co13 : Value).ownBlock) ∧ some k_ ≠ (.slice Ao20 t454.length co20 : Value).ownBlock)) (n := t485.length) (c := co80) ?_).2.2; exact (by (with_reducible repeat (first | apply Kd.R_alloc | apply Kd.R_drewN | apply Kd.R_drew)); exact (Kd.R_mono (rF 10 (rF 9 (rF 8 (rF 7 (rF 6 (rF 5 (rF 4 (rF 3 (rF 2 (rF 1 (rF 0 (Kd.R_types HO487.out BK502.out (by decide))))))))))))) (fun _ h_ => h_.1)))); (case side2 => exact (Kd.R_reads' HO487.out).2.1); (case side3 => refine (Kd.R_reads' (e := 41) (base := w.heap.size) (ok := fun k_ => ((some k_ ≠ (.slice Ao80 t485.length co80 : Value).ownBlock ∧ some k_ ≠ (.slice Ao13 t446.length co13 : Value).ownBlock) ∧ some k_ ≠ (.slice Ao20 t454.length co20 : Value).ownBlock)) (n := t493.length) (c := co81) ?_).2.2; exact (by (with_reducible repeat (first | apply Kd.R_alloc | apply Kd.R_drewN | apply Kd.R_drew)); exact (Kd.R_mono (rF 10 (rF 9 (rF 8 (rF 7 (rF 6 (rF 5 (rF 4 (rF 3 (rF 2 (rF 1 (rF 0 (Kd.R_types HO495.out BK502.out (by decide))))))))))))) (fun _ h_ => h_.1)))); (case side4 => exact (Kd.R_reads' HO495.out).2.1); (case side5 => refine (Kd.R_reads' (e := 35) (base := w.heap.size) (ok := fun k_ => (True ∧ some k_ ≠ (.slice Ao24 t459.length co24 : Value).ownBlock)) (n := t498.length) (c := co82) ?_).2.2; exact (by (with_reducible repeat (first | apply Kd.R_alloc | apply Kd.R_drewN | apply Kd.R_drew)); exact (Kd.R_mono (rF 10 (rF 9 (rF 8 (rF 7 (rF 6 (rF 5 (rF 4 (rF 3 (rF 2 (rF 1 (rF 0 (Kd.R_types HO500.out BK502.out (by decide))))))))))))) (fun _ h_ => h_.1)))); (case side6 => exact (Kd.R_reads' HO500.out).2.1); rintro e w83 ⟨rfl, hb⟩; refine ⟨_, rfl, ?_⟩; have n0_ := aA (Kd.R_below (by (with_reducible repeat (first | apply Kd.R_alloc | apply Kd.R_drewN | apply Kd.R_drew)); exact (Kd.R_mono (rF 10 (rF 9 (rF 8 (rF 7 (rF 6 (rF 5 (rF 4 (rF 3 (rF 2 (rF 1 (rF 0 (Kd.R_types HO_445001.out BK502.out (by decide))))))))))))) (fun _ h_ => h_.1))) hb); have n1_ := aA (Kd.R_below (by (with_reducible repeat (first | apply Kd.R_alloc | apply Kd.R_drewN | apply Kd.R_drew)); exact (Kd.R_mono (rF 10 (rF 9 (rF 8 (rF 7 (rF 6 (rF 5 (rF 4 (rF 3 (rF 2 (rF 1 (rF 0 (Kd.R_types HO_445007.out BK502.out (by decide))))))))))))) (fun _ h_ => h_.1))) hb); have n2_ := aA (Kd.R_below (by (with_reducible repeat (first | apply Kd.R_alloc | apply Kd.R_drewN | apply Kd.R_drew)); exact (Kd.R_mono (rF 10 (rF 9 (rF 8 (rF 7 (rF 6 (rF 5 (rF 4 (rF 3 (rF 2 (rF 1 (rF 0 (Kd.R_types HO_445010.out BK502.out (by decide))))))))))))) (fun _ h_ => h_.1))) hb); have n3_ := aA (Kd.R_below (by (with_reducible repeat (first | apply Kd.R_alloc | apply Kd.R_drewN | apply Kd.R_drew)); exact (Kd.R_mono (rF 10 (rF 9 (rF 8 (rF 7 (rF 6 (rF 5 (rF 4 (rF 3 (rF 2 (rF 1 (rF 0 (Kd.R_types HO487.out BK502.out (by decide))))))))))))) (fun _ h_ => h_.1))) hb); have n4_ := aA (Kd.R_below (by (with_reducible repeat (first | apply Kd.R_alloc | apply Kd.R_drewN | apply Kd.R_drew)); exact (Kd.R_mono (rF 10 (rF 9 (rF 8 (rF 7 (rF 6 (rF 5 (rF 4 (rF 3 (rF 2 (rF 1 (rF 0 (Kd.R_types HO495.out BK502.out (by decide))))))))))))) (fun _ h_ => h_.1))) hb); have n5_ := aA (Kd.R_below (by (with_reducible repeat (first | apply Kd.R_alloc | apply Kd.R_drewN | apply Kd.R_drew)); exact (Kd.R_mono (rF 10 (rF 9 (rF 8 (rF 7 (rF 6 (rF 5 (rF 4 (rF 3 (rF 2 (rF 1 (rF 0 (Kd.R_types HO500.out BK502.out (by decide))))))))))))) (fun _ h_ => h_.1))) hb); have n6_ := aA (blk_below (g := gb444) (o := .cells #[.int .i64 t445, .slice Ao13 t446.length co13, .int .i64 t449, .int .i64 t450, .int .i64 t451, .int .i64 t452, .int .i64 t453, .slice Ao20 t454.length co20, .int .i64 t457, .int .i64 t458, .slice Ao24 t459.length co24] 50 (0, 0)) (by (with_reducible repeat (first | refine blk_drewN ?_ _ | refine blk_drew ?_ | refine blk_alloc ?_ _)); refine blk_far ?_ NB444_502.out _; (with_reducible repeat (first | refine blk_drewN ?_ _ | refine blk_drew ?_ | refine blk_alloc ?_ _)); refine blk_far ?_ NB444_502.out _; (with_reducible repeat (first | refine blk_drewN ?_ _ | refine blk_drew ?_ | refine blk_alloc ?_ _)); refine blk_far ?_ NB444_502.out _; (with_reducible repeat (first | refine blk_drewN ?_ _ | refine blk_drew ?_ | refine blk_alloc ?_ _)); refine blk_far ?_ NB444_502.out _; (with_reducible repeat (first | refine blk_drewN ?_ _ | refine blk_drew ?_ | refine blk_alloc ?_ _)); refine blk_far ?_ NB444_502.out _; (with_reducible repeat (first | refine blk_drewN ?_ _ | refine blk_drew ?_ | refine blk_alloc ?_ _)); refine blk_far ?_ NB444_502.out _; (with_reducible repeat (first | refine blk_drewN ?_ _ | refine blk_drew ?_ | refine blk_alloc ?_ _)); refine blk_far ?_ NB444_502.out _; (with_reducible repeat (first | refine blk_drewN ?_ _ | refine blk_drew ?_ | refine blk_alloc ?_ _)); refine blk_far ?_ NB444_502.out _; (with_reducible repeat (first | refine blk_drewN ?_ _ | refine blk_drew ?_ | refine blk_alloc ?_ _)); refine blk_far ?_ NB444_502.out _; (with_reducible repeat (first | refine blk_drewN ?_ _ | refine blk_drew ?_ | refine blk_alloc ?_ _)); refine blk_far ?_ NB444_502.out _; (with_reducible repeat (first | refine blk_drewN ?_ _ | refine blk_drew ?_ | refine blk_alloc ?_ _)); refine blk_far ?_ NB444_502.out _; (with_reducible repeat (first | refine blk_drewN ?_ _ | refine blk_drew ?_ | refine blk_alloc ?_ _)); exact BK444.out) hb); have n7_ := aA (blk_below (g := gb502) (o := .cells #[.int .i64 t484, .slice Ao80 t485.length co80, .int .i64 t488, .int .i64 t489, .int .i64 t490, .int .i64 t491, .int .i64 t492, .slice Ao81 t493.length co81, .int .i64 t496, .int .i64 t497, .slice Ao82 t498.length co82] 50 (0, 0)) (by (with_reducible repeat (first | refine blk_drewN ?_ _ | refine blk_drew ?_ | refine blk_alloc ?_ _)); have h_ := BK502.out; exact pK 10 (pK 9 (pK 8 (pK 7 (pK 6 (pK 5 (pK 4 (pK 3 (pK 2 (pK 1 (pK 0 (h_)))))))))))) hb); have n8_ := aA (below_step (mD2 GE444.out GE502.out) hb); clear HO_445001 HO_445007 HO_445010 HO487 HO495 HO500 BK444 BK502 HB; have HO_445001 := n0_; have HO_445007 := n1_; have HO_445010 := n2_; have HO487 := n3_; have HO495 := n4_; have HO500 := n5_; have BK444 := n6_; have BK502 := n7_; have HB := n8_; clear n0_ n1_ n2_ n3_ n4_ n5_ n6_ n7_ n8_; (try clear hb); (try clear hb2); (try clear hk); (try clear hi)) | ((with_reducible refine gate_callee (f := 28) rfl ?_); refine goesL_ (some 63) rfl rfl Try.func28 (by kernel_rfl) rfl #[] rfl mS ?_; (with_reducible refine (foghornlaw17_alive.calls  true _ A71.out).mono ?_); rintro e w84 ⟨rfl, hb⟩; refine ⟨_, rfl, ?_⟩; have n0_ := aA (Kd.R_below (mR HO_445001.out) hb); have n1_ := aA (Kd.R_below (mR HO_445007.out) hb); have n2_ := aA (Kd.R_below (mR HO_445010.out) hb); have n3_ := aA (Kd.R_below (mR HO487.out) hb); have n4_ := aA (Kd.R_below (mR HO495.out) hb); have n5_ := aA (Kd.R_below (mR HO500.out) hb); have n6_ := aA (bB BK444.out hb); have n7_ := aA (bB BK502.out hb); have n8_ := aA (below_step (mD2 GE444.out GE502.out) hb); clear HO_445001 HO_445007 HO_445010 HO487 HO495 HO500 BK444 BK502 HB; have HO_445001 := n0_; have HO_445007 := n1_; have HO_445010 := n2_; have HO487 := n3_; have HO495 := n4_; have HO500 := n5_; have BK444 := n6_; have BK502 := n7_; have HB := n8_; clear n0_ n1_ n2_ n3_ n4_ n5_ n6_ n7_ n8_; (try clear hb); (try clear hb2); (try clear hk); (try clear hi); obtain ⟨hcz85_0, hcz85_1, hcz85_2, hcz85_3, hcz85_4, hcz85_5, hcz85_6, hcz85_7, hcz85_8, hcz85_9, hcz85_10⟩ := bC11 BK502.out; obtain ⟨hfz85_0, hfz85_1, hfz85_2, hfz85_3, hfz85_4, hfz85_5, hfz85_6, hfz85_7, hfz85_8, hfz85_9, hfz85_10⟩ := bF11 BK502.out) | (go_at_call 26; (with_reducible refine (code_Right.calls t484 _ _ t485 t488 t489 t490 t491 t492 _ _ t493 t496 t497 _ _ t498 true _ ?side1 ?side2 ?side3 ?side4 ?side5 ?side6 A73.out).mono ?_); (case side1 => exact mC ((Kd.R_reads' HO487.out).2.2)); (case side2 => exact (Kd.R_reads' HO487.out).2.1); (case side3 => exact mC ((Kd.R_reads' HO495.out).2.2)); (case side4 => exact (Kd.R_reads' HO495.out).2.1); (case side5 => exact mC ((Kd.R_reads' HO500.out).2.2)); (case side6 => exact (Kd.R_reads' HO500.out).2.1); rintro e w86 ⟨rfl, hb⟩; have n0_ := aA (Kd.R_below (mR HO_445001.out) hb); have n1_ := aA (Kd.R_below (mR HO_445007.out) hb); have n2_ := aA (Kd.R_below (mR HO_445010.out) hb); have n3_ := aA (Kd.R_below (mR HO487.out) hb); have n4_ := aA (Kd.R_below (mR HO495.out) hb); have n5_ := aA (Kd.R_below (mR HO500.out) hb); have n6_ := aA (bB BK444.out hb); have n7_ := aA (bB BK502.out hb); have n8_ := aA (below_step (mD2 GE444.out GE502.out) hb); clear HO_445001 HO_445007 HO_445010 HO487 HO495 HO500 BK444 BK502 HB; have HO_445001 := n0_; have HO_445007 := n1_; have HO_445010 := n2_; have HO487 := n3_; have HO495 := n4_; have HO500 := n5_; have BK444 := n6_; have BK502 := n7_; have HB := n8_; clear n0_ n1_ n2_ n3_ n4_ n5_ n6_ n7_ n8_; (try clear hb); (try clear hb2); (try clear hk); (try clear hi)))
         go_ret
         exact ⟨by first | rfl | (simp [errW_none, errW_some] <;> rfl) | (simp only [← hji4]; first | rfl | (simp [errW_none, errW_some] <;> rfl)) | (simp [*, errW_none, errW_some] <;> rfl), by repeat (first | (with_reducible first | exact HB.out | apply below_alloc | apply pw_below_drewN | apply below_drew1 | refine below_set ?_ GE444.out | refine below_set ?_ GE502.out) | exact HB.out)⟩
        ·rw [if_neg c75] at H
         have c75b0 : (t504 == 0) = false := beq_eq_false_iff_ne.mpr c75
         have c75b1 : (t504 != 0) = true := bne_iff_ne.mpr c75
         obtain rfl := Option.some.inj H
         go_wp2_with (first | ((with_reducible refine gate_callee (f := 30) rfl ?_); refine goesL_ (some 47) rfl rfl Try.func30 (by kernel_rfl) rfl #[.string (a1.extract 0 ((ji4) : Int).toNat)] rfl (by (try simp only [List.map_toArray, List.map_cons, List.map_nil]); first | done | (simp only [hji4]; rfl) | rfl | (simp only [List.length_drop, List.length_take]; rfl)) ?_; (with_reducible refine (code_Get.calls (a1.extract 0 ((ji4) : Int).toNat) t484 t485 t488 t489 t490 t491 t492 t493 t496 t497 t498 t501 _ A68.out).mono ?_); rintro e w87 ⟨v486, v494, v499, rfl, ho0, ho1, ho2, hb⟩; refine ⟨_, rfl, ?_⟩; have n0_ := aA (Kd.R_mono (Kd.R_told (Kd.R_told (Kd.R_old (mR HO_445001.out) hb) (Kd.R_base ho0)) (Kd.R_base ho1)) (fun _ h_ => h_.1)); have n1_ := aA (Kd.R_mono (Kd.R_told (Kd.R_told (Kd.R_old (mR HO_445007.out) hb) (Kd.R_base ho0)) (Kd.R_base ho1)) (fun _ h_ => h_.1)); have n2_ := aA (Kd.R_elder' (mR HO_445010.out) (Kd.R_base ho2) hb); have n3_ := aA (Kd.R_lower (Kd.R_new' (Kd.R_new' ho0 (Kd.R_lt (mR HO_445001.out))) (Kd.R_lt (mR HO_445007.out))) (below_size (mD1 GE444.out))); have n4_ := aA (Kd.R_lower (Kd.R_new' (Kd.R_new' ho1 (Kd.R_lt (mR HO_445001.out))) (Kd.R_lt (mR HO_445007.out))) (below_size (mD1 GE444.out))); have n5_ := aA (Kd.R_lower (Kd.R_new' ho2 (Kd.R_lt (mR HO_445010.out))) (below_size (mD1 GE444.out))); have n6_ := aA (bB BK444.out hb); have n7_ := aA (below_step (mD1 GE444.out) hb); clear HO_445001 HO_445007 HO_445010 BK444 HB; have HO_445001 := n0_; have HO_445007 := n1_; have HO_445010 := n2_; have HO487 := n3_; have HO495 := n4_; have HO500 := n5_; have BK444 := n6_; have HB := n7_; clear n0_ n1_ n2_ n3_ n4_ n5_ n6_ n7_; (try clear hb); (try clear hb2); (try clear hk); (try clear hi); (try clear ho0); (try clear ho1); (try clear ho2)) | ((with_reducible refine gate_dst (N := 9) rfl ?_); (try (refine gate_guard (by rfl) ?_; dsimp only)); refine box_event ?hg (N := 9) ?hd (cs := #[.int .i64 0, .slice none 0 0, .int .i64 0, .int .i64 0, .int .i64 0, .int .i64 0, .int .i64 0, .slice none 0 0, .int .i64 0, .int .i64 0, .slice none 0 0]) (t := 50) ?hr ?_; (case hd => rfl); (case hg => rfl); (case hr => first | (go_simp; done) | (go_simp; rfl)); intro gb502 hg w88 hbox hb; have n0_ := aA (Kd.R_below (mR HO_445001.out) hb); have n1_ := aA (Kd.R_below (mR HO_445007.out) hb); have n2_ := aA (Kd.R_below (mR HO_445010.out) hb); have n3_ := aA (Kd.R_below (mR HO487.out) hb); have n4_ := aA (Kd.R_below (mR HO495.out) hb); have n5_ := aA (Kd.R_below (mR HO500.out) hb); have n6_ := aA (bB BK444.out hb); have n7_ := aA (below_step (mD1 GE444.out) hb); have n8_ := aA (hbox); have n9_ := aA ((bZ hg (mD1 GE444.out))); have n10_ := aA ((bZ hg (mD1 GE444.out))); have n11_ := aA ((bL hg BK444.out)); have n12_ := aA ((bG hg BK444.out)); clear HO_445001 HO_445007 HO_445010 HO487 HO495 HO500 BK444 HB; have HO_445001 := n0_; have HO_445007 := n1_; have HO_445010 := n2_; have HO487 := n3_; have HO495 := n4_; have HO500 := n5_; have BK444 := n6_; have HB := n7_; have BK502 := n8_; have GW502 := n9_; have GE502 := n10_; have NB444_502 := n11_; have NB502_444 := n12_; clear n0_ n1_ n2_ n3_ n4_ n5_ n6_ n7_ n8_ n9_ n10_ n11_ n12_ hb hbox hg; have hnb89 := NB502_444.out; have hnc89 := NB444_502.out; obtain ⟨hcz90_0, hcz90_1, hcz90_2, hcz90_3, hcz90_4, hcz90_5, hcz90_6, hcz90_7, hcz90_8, hcz90_9, hcz90_10⟩ := bC11 BK502.out; obtain ⟨hfz90_0, hfz90_1, hfz90_2, hfz90_3, hfz90_4, hfz90_5, hfz90_6, hfz90_7, hfz90_8, hfz90_9, hfz90_10⟩ := bF11 BK502.out; obtain ⟨Ao91, co91, eo91⟩ := Kd.R_slice HO487.out; subst eo91; obtain ⟨Ao92, co92, eo92⟩ := Kd.R_slice HO495.out; subst eo92; obtain ⟨Ao93, co93, eo93⟩ := Kd.R_slice HO500.out; subst eo93) | ((with_reducible refine gate_callee (f := 25) rfl ?_); refine goesL_ (some 60) rfl rfl Try.func25 (by kernel_rfl) rfl #[.agg #[.int .i64 t484, .slice Ao91 t485.length co91, .int .i64 t488, .int .i64 t489, .int .i64 t490, .int .i64 t491, .int .i64 t492, .slice Ao92 t493.length co92, .int .i64 t496, .int .i64 t497, .slice Ao93 t498.length co93]] rfl mS ?_; (with_reducible refine (code_Put.calls t484 _ _ t485 t488 t489 t490 t491 t492 _ _ t493 t496 t497 _ _ t498 t503 t504 _ ?side1 ?side2 ?side3 ?side4 ?side5 ?side6 A70.out).mono ?_); (case side1 => refine (Kd.R_reads' (e := 41) (base := w.heap.size) (ok := fun k_ => ((some k_ ≠ (.slice Ao92 t493.length co92 : Value).ownBlock ∧ some k_ ≠ (.slice Ao13 t446.length co13 : Value).ownBlock) ∧ some k_ ≠ (.slice Ao20 t454.length co20 : Value).ownBlock)) (n := t485.length) (c := co91) ?_).2.2; exact (by (with_reducible repeat (first | apply Kd.R_alloc | apply Kd.R_drewN | apply Kd.R_drew)); exact (Kd.R_mono (rF 10 (rF 9 (rF 8 (rF 7 (rF 6 (rF 5 (rF 4 (rF 3 (rF 2 (rF 1 (rF 0 (Kd.R_types HO487.out BK502.out (by decide))))))))))))) (fun _ h_ => h_.1)))); (case side2 => exact (Kd.R_reads' HO487.out).2.1); (case side3 => refine (Kd.R_reads' (e := 41) (base := w.heap.size) (ok := fun k_ => ((some k_ ≠ (.slice Ao91 t485.length co91 : Value).ownBlock ∧ some k_ ≠ (.slice Ao13 t446.length co13 : Value).ownBlock) ∧ some k_ ≠ (.slice Ao20 t454.length co20 : Value).ownBlock)) (n := t493.length) (c := co92) ?_).2.2; exact (by (with_reducible repeat (first | apply Kd.R_alloc | apply Kd.R_drewN | apply Kd.R_drew)); exact (Kd.R_mono (rF 10 (rF 9 (rF 8 (rF 7 (rF 6 (rF 5 (rF 4 (rF 3 (rF 2 (rF 1 (rF 0 (Kd.R_types HO495.out BK502.out (by decide))))))))))))) (fun _ h_ => h_.1)))); (case side4 => exact (Kd.R_reads' HO495.out).2.1); (case side5 => refine (Kd.R_reads' (e := 35) (base := w.heap.size) (ok := fun k_ => (True ∧ some k_ ≠ (.slice Ao24 t459.length co24 : Value).ownBlock)) (n := t498.length) (c := co93) ?_).2.2; exact (by (with_reducible repeat (first | apply Kd.R_alloc | apply Kd.R_drewN | apply Kd.R_drew)); exact (Kd.R_mono (rF 10 (rF 9 (rF 8 (rF 7 (rF 6 (rF 5 (rF 4 (rF 3 (rF 2 (rF 1 (rF 0 (Kd.R_types HO500.out BK502.out (by decide))))))))))))) (fun _ h_ => h_.1)))); (case side6 => exact (Kd.R_reads' HO500.out).2.1); rintro e w94 ⟨rfl, hb⟩; refine ⟨_, rfl, ?_⟩; have n0_ := aA (Kd.R_below (by (with_reducible repeat (first | apply Kd.R_alloc | apply Kd.R_drewN | apply Kd.R_drew)); exact (Kd.R_mono (rF 10 (rF 9 (rF 8 (rF 7 (rF 6 (rF 5 (rF 4 (rF 3 (rF 2 (rF 1 (rF 0 (Kd.R_types HO_445001.out BK502.out (by decide))))))))))))) (fun _ h_ => h_.1))) hb); have n1_ := aA (Kd.R_below (by (with_reducible repeat (first | apply Kd.R_alloc | apply Kd.R_drewN | apply Kd.R_drew)); exact (Kd.R_mono (rF 10 (rF 9 (rF 8 (rF 7 (rF 6 (rF 5 (rF 4 (rF 3 (rF 2 (rF 1 (rF 0 (Kd.R_types HO_445007.out BK502.out (by decide))))))))))))) (fun _ h_ => h_.1))) hb); have n2_ := aA (Kd.R_below (by (with_reducible repeat (first | apply Kd.R_alloc | apply Kd.R_drewN | apply Kd.R_drew)); exact (Kd.R_mono (rF 10 (rF 9 (rF 8 (rF 7 (rF 6 (rF 5 (rF 4 (rF 3 (rF 2 (rF 1 (rF 0 (Kd.R_types HO_445010.out BK502.out (by decide))))))))))))) (fun _ h_ => h_.1))) hb); have n3_ := aA (Kd.R_below (by (with_reducible repeat (first | apply Kd.R_alloc | apply Kd.R_drewN | apply Kd.R_drew)); exact (Kd.R_mono (rF 10 (rF 9 (rF 8 (rF 7 (rF 6 (rF 5 (rF 4 (rF 3 (rF 2 (rF 1 (rF 0 (Kd.R_types HO487.out BK502.out (by decide))))))))))))) (fun _ h_ => h_.1))) hb); have n4_ := aA (Kd.R_below (by (with_reducible repeat (first | apply Kd.R_alloc | apply Kd.R_drewN | apply Kd.R_drew)); exact (Kd.R_mono (rF 10 (rF 9 (rF 8 (rF 7 (rF 6 (rF 5 (rF 4 (rF 3 (rF 2 (rF 1 (rF 0 (Kd.R_types HO495.out BK502.out (by decide))))))))))))) (fun _ h_ => h_.1))) hb); have n5_ := aA (Kd.R_below (by (with_reducible repeat (first | apply Kd.R_alloc | apply Kd.R_drewN | apply Kd.R_drew)); exact (Kd.R_mono (rF 10 (rF 9 (rF 8 (rF 7 (rF 6 (rF 5 (rF 4 (rF 3 (rF 2 (rF 1 (rF 0 (Kd.R_types HO500.out BK502.out (by decide))))))))))))) (fun _ h_ => h_.1))) hb); have n6_ := aA (blk_below (g := gb444) (o := .cells #[.int .i64 t445, .slice Ao13 t446.length co13, .int .i64 t449, .int .i64 t450, .int .i64 t451, .int .i64 t452, .int .i64 t453, .slice Ao20 t454.length co20, .int .i64 t457, .int .i64 t458, .slice Ao24 t459.length co24] 50 (0, 0)) (by (with_reducible repeat (first | refine blk_drewN ?_ _ | refine blk_drew ?_ | refine blk_alloc ?_ _)); refine blk_far ?_ NB444_502.out _; (with_reducible repeat (first | refine blk_drewN ?_ _ | refine blk_drew ?_ | refine blk_alloc ?_ _)); refine blk_far ?_ NB444_502.out _; (with_reducible repeat (first | refine blk_drewN ?_ _ | refine blk_drew ?_ | refine blk_alloc ?_ _)); refine blk_far ?_ NB444_502.out _; (with_reducible repeat (first | refine blk_drewN ?_ _ | refine blk_drew ?_ | refine blk_alloc ?_ _)); refine blk_far ?_ NB444_502.out _; (with_reducible repeat (first | refine blk_drewN ?_ _ | refine blk_drew ?_ | refine blk_alloc ?_ _)); refine blk_far ?_ NB444_502.out _; (with_reducible repeat (first | refine blk_drewN ?_ _ | refine blk_drew ?_ | refine blk_alloc ?_ _)); refine blk_far ?_ NB444_502.out _; (with_reducible repeat (first | refine blk_drewN ?_ _ | refine blk_drew ?_ | refine blk_alloc ?_ _)); refine blk_far ?_ NB444_502.out _; (with_reducible repeat (first | refine blk_drewN ?_ _ | refine blk_drew ?_ | refine blk_alloc ?_ _)); refine blk_far ?_ NB444_502.out _; (with_reducible repeat (first | refine blk_drewN ?_ _ | refine blk_drew ?_ | refine blk_alloc ?_ _)); refine blk_far ?_ NB444_502.out _; (with_reducible repeat (first | refine blk_drewN ?_ _ | refine blk_drew ?_ | refine blk_alloc ?_ _)); refine blk_far ?_ NB444_502.out _; (with_reducible repeat (first | refine blk_drewN ?_ _ | refine blk_drew ?_ | refine blk_alloc ?_ _)); refine blk_far ?_ NB444_502.out _; (with_reducible repeat (first | refine blk_drewN ?_ _ | refine blk_drew ?_ | refine blk_alloc ?_ _)); exact BK444.out) hb); have n7_ := aA (blk_below (g := gb502) (o := .cells #[.int .i64 t484, .slice Ao91 t485.length co91, .int .i64 t488, .int .i64 t489, .int .i64 t490, .int .i64 t491, .int .i64 t492, .slice Ao92 t493.length co92, .int .i64 t496, .int .i64 t497, .slice Ao93 t498.length co93] 50 (0, 0)) (by (with_reducible repeat (first | refine blk_drewN ?_ _ | refine blk_drew ?_ | refine blk_alloc ?_ _)); have h_ := BK502.out; exact pK 10 (pK 9 (pK 8 (pK 7 (pK 6 (pK 5 (pK 4 (pK 3 (pK 2 (pK 1 (pK 0 (h_)))))))))))) hb); have n8_ := aA (below_step (mD2 GE444.out GE502.out) hb); clear HO_445001 HO_445007 HO_445010 HO487 HO495 HO500 BK444 BK502 HB; have HO_445001 := n0_; have HO_445007 := n1_; have HO_445010 := n2_; have HO487 := n3_; have HO495 := n4_; have HO500 := n5_; have BK444 := n6_; have BK502 := n7_; have HB := n8_; clear n0_ n1_ n2_ n3_ n4_ n5_ n6_ n7_ n8_; (try clear hb); (try clear hb2); (try clear hk); (try clear hi)) | ((with_reducible refine gate_callee (f := 28) rfl ?_); refine goesL_ (some 63) rfl rfl Try.func28 (by kernel_rfl) rfl #[] rfl mS ?_; (with_reducible refine (foghornlaw17_alive.calls  true _ A71.out).mono ?_); rintro e w95 ⟨rfl, hb⟩; refine ⟨_, rfl, ?_⟩; have n0_ := aA (Kd.R_below (mR HO_445001.out) hb); have n1_ := aA (Kd.R_below (mR HO_445007.out) hb); have n2_ := aA (Kd.R_below (mR HO_445010.out) hb); have n3_ := aA (Kd.R_below (mR HO487.out) hb); have n4_ := aA (Kd.R_below (mR HO495.out) hb); have n5_ := aA (Kd.R_below (mR HO500.out) hb); have n6_ := aA (bB BK444.out hb); have n7_ := aA (bB BK502.out hb); have n8_ := aA (below_step (mD2 GE444.out GE502.out) hb); clear HO_445001 HO_445007 HO_445010 HO487 HO495 HO500 BK444 BK502 HB; have HO_445001 := n0_; have HO_445007 := n1_; have HO_445010 := n2_; have HO487 := n3_; have HO495 := n4_; have HO500 := n5_; have BK444 := n6_; have BK502 := n7_; have HB := n8_; clear n0_ n1_ n2_ n3_ n4_ n5_ n6_ n7_ n8_; (try clear hb); (try clear hb2); (try clear hk); (try clear hi); obtain ⟨hcz96_0, hcz96_1, hcz96_2, hcz96_3, hcz96_4, hcz96_5, hcz96_6, hcz96_7, hcz96_8, hcz96_9, hcz96_10⟩ := bC11 BK502.out; obtain ⟨hfz96_0, hfz96_1, hfz96_2, hfz96_3, hfz96_4, hfz96_5, hfz96_6, hfz96_7, hfz96_8, hfz96_9, hfz96_10⟩ := bF11 BK502.out) | (go_at_call 26; (with_reducible refine (code_Right.calls t484 _ _ t485 t488 t489 t490 t491 t492 _ _ t493 t496 t497 _ _ t498 true _ ?side1 ?side2 ?side3 ?side4 ?side5 ?side6 A73.out).mono ?_); (case side1 => exact mC ((Kd.R_reads' HO487.out).2.2)); (case side2 => exact (Kd.R_reads' HO487.out).2.1); (case side3 => exact mC ((Kd.R_reads' HO495.out).2.2)); (case side4 => exact (Kd.R_reads' HO495.out).2.1); (case side5 => exact mC ((Kd.R_reads' HO500.out).2.2)); (case side6 => exact (Kd.R_reads' HO500.out).2.1); rintro e w97 ⟨rfl, hb⟩; have n0_ := aA (Kd.R_below (mR HO_445001.out) hb); have n1_ := aA (Kd.R_below (mR HO_445007.out) hb); have n2_ := aA (Kd.R_below (mR HO_445010.out) hb); have n3_ := aA (Kd.R_below (mR HO487.out) hb); have n4_ := aA (Kd.R_below (mR HO495.out) hb); have n5_ := aA (Kd.R_below (mR HO500.out) hb); have n6_ := aA (bB BK444.out hb); have n7_ := aA (bB BK502.out hb); have n8_ := aA (below_step (mD2 GE444.out GE502.out) hb); clear HO_445001 HO_445007 HO_445010 HO487 HO495 HO500 BK444 BK502 HB; have HO_445001 := n0_; have HO_445007 := n1_; have HO_445010 := n2_; have HO487 := n3_; have HO495 := n4_; have HO500 := n5_; have BK444 := n6_; have BK502 := n7_; have HB := n8_; clear n0_ n1_ n2_ n3_ n4_ n5_ n6_ n7_ n8_; (try clear hb); (try clear hb2); (try clear hk); (try clear hi)))
         go_ret
         exact ⟨by first | rfl | (simp [errW_none, errW_some] <;> rfl) | (simp only [← hji4]; first | rfl | (simp [errW_none, errW_some] <;> rfl)) | (simp [*, errW_none, errW_some] <;> rfl), by repeat (first | (with_reducible first | exact HB.out | apply below_alloc | apply pw_below_drewN | apply below_drew1 | refine below_set ?_ GE444.out | refine below_set ?_ GE502.out) | exact HB.out)⟩
       ·replace c74 := Bool.eq_false_iff.mpr c74
        subst c74
        have H1 : (some false) = some r := by rw [if_neg (show ¬ (false = true) by decide)] at H; exact H
        clear H
        have H := H1
        clear H1
        obtain rfl := Option.some.inj H
        go_wp2_with (first | ((with_reducible refine gate_callee (f := 30) rfl ?_); refine goesL_ (some 47) rfl rfl Try.func30 (by kernel_rfl) rfl #[.string (a1.extract 0 ((ji4) : Int).toNat)] rfl (by (try simp only [List.map_toArray, List.map_cons, List.map_nil]); first | done | (simp only [hji4]; rfl) | rfl | (simp only [List.length_drop, List.length_take]; rfl)) ?_; (with_reducible refine (code_Get.calls (a1.extract 0 ((ji4) : Int).toNat) t484 t485 t488 t489 t490 t491 t492 t493 t496 t497 t498 t501 _ A68.out).mono ?_); rintro e w98 ⟨v486, v494, v499, rfl, ho0, ho1, ho2, hb⟩; refine ⟨_, rfl, ?_⟩; have n0_ := aA (Kd.R_mono (Kd.R_told (Kd.R_told (Kd.R_old (mR HO_445001.out) hb) (Kd.R_base ho0)) (Kd.R_base ho1)) (fun _ h_ => h_.1)); have n1_ := aA (Kd.R_mono (Kd.R_told (Kd.R_told (Kd.R_old (mR HO_445007.out) hb) (Kd.R_base ho0)) (Kd.R_base ho1)) (fun _ h_ => h_.1)); have n2_ := aA (Kd.R_elder' (mR HO_445010.out) (Kd.R_base ho2) hb); have n3_ := aA (Kd.R_lower (Kd.R_new' (Kd.R_new' ho0 (Kd.R_lt (mR HO_445001.out))) (Kd.R_lt (mR HO_445007.out))) (below_size (mD1 GE444.out))); have n4_ := aA (Kd.R_lower (Kd.R_new' (Kd.R_new' ho1 (Kd.R_lt (mR HO_445001.out))) (Kd.R_lt (mR HO_445007.out))) (below_size (mD1 GE444.out))); have n5_ := aA (Kd.R_lower (Kd.R_new' ho2 (Kd.R_lt (mR HO_445010.out))) (below_size (mD1 GE444.out))); have n6_ := aA (bB BK444.out hb); have n7_ := aA (below_step (mD1 GE444.out) hb); clear HO_445001 HO_445007 HO_445010 BK444 HB; have HO_445001 := n0_; have HO_445007 := n1_; have HO_445010 := n2_; have HO487 := n3_; have HO495 := n4_; have HO500 := n5_; have BK444 := n6_; have HB := n7_; clear n0_ n1_ n2_ n3_ n4_ n5_ n6_ n7_; (try clear hb); (try clear hb2); (try clear hk); (try clear hi); (try clear ho0); (try clear ho1); (try clear ho2)) | ((with_reducible refine gate_dst (N := 9) rfl ?_); (try (refine gate_guard (by rfl) ?_; dsimp only)); refine box_event ?hg (N := 9) ?hd (cs := #[.int .i64 0, .slice none 0 0, .int .i64 0, .int .i64 0, .int .i64 0, .int .i64 0, .int .i64 0, .slice none 0 0, .int .i64 0, .int .i64 0, .slice none 0 0]) (t := 50) ?hr ?_; (case hd => rfl); (case hg => rfl); (case hr => first | (go_simp; done) | (go_simp; rfl)); intro gb502 hg w99 hbox hb; have n0_ := aA (Kd.R_below (mR HO_445001.out) hb); have n1_ := aA (Kd.R_below (mR HO_445007.out) hb); have n2_ := aA (Kd.R_below (mR HO_445010.out) hb); have n3_ := aA (Kd.R_below (mR HO487.out) hb); have n4_ := aA (Kd.R_below (mR HO495.out) hb); have n5_ := aA (Kd.R_below (mR HO500.out) hb); have n6_ := aA (bB BK444.out hb); have n7_ := aA (below_step (mD1 GE444.out) hb); have n8_ := aA (hbox); have n9_ := aA ((bZ hg (mD1 GE444.out))); have n10_ := aA ((bZ hg (mD1 GE444.out))); have n11_ := aA ((bL hg BK444.out)); have n12_ := aA ((bG hg BK444.out)); clear HO_445001 HO_445007 HO_445010 HO487 HO495 HO500 BK444 HB; have HO_445001 := n0_; have HO_445007 := n1_; have HO_445010 := n2_; have HO487 := n3_; have HO495 := n4_; have HO500 := n5_; have BK444 := n6_; have HB := n7_; have BK502 := n8_; have GW502 := n9_; have GE502 := n10_; have NB444_502 := n11_; have NB502_444 := n12_; clear n0_ n1_ n2_ n3_ n4_ n5_ n6_ n7_ n8_ n9_ n10_ n11_ n12_ hb hbox hg; have hnb100 := NB502_444.out; have hnc100 := NB444_502.out; obtain ⟨hcz101_0, hcz101_1, hcz101_2, hcz101_3, hcz101_4, hcz101_5, hcz101_6, hcz101_7, hcz101_8, hcz101_9, hcz101_10⟩ := bC11 BK502.out; obtain ⟨hfz101_0, hfz101_1, hfz101_2, hfz101_3, hfz101_4, hfz101_5, hfz101_6, hfz101_7, hfz101_8, hfz101_9, hfz101_10⟩ := bF11 BK502.out; obtain ⟨Ao102, co102, eo102⟩ := Kd.R_slice HO487.out; subst eo102; obtain ⟨Ao103, co103, eo103⟩ := Kd.R_slice HO495.out; subst eo103; obtain ⟨Ao104, co104, eo104⟩ := Kd.R_slice HO500.out; subst eo104) | ((with_reducible refine gate_callee (f := 25) rfl ?_); refine goesL_ (some 60) rfl rfl Try.func25 (by kernel_rfl) rfl #[.agg #[.int .i64 t484, .slice Ao102 t485.length co102, .int .i64 t488, .int .i64 t489, .int .i64 t490, .int .i64 t491, .int .i64 t492, .slice Ao103 t493.length co103, .int .i64 t496, .int .i64 t497, .slice Ao104 t498.length co104]] rfl mS ?_; (with_reducible refine (code_Put.calls t484 _ _ t485 t488 t489 t490 t491 t492 _ _ t493 t496 t497 _ _ t498 t503 t504 _ ?side1 ?side2 ?side3 ?side4 ?side5 ?side6 A70.out).mono ?_); (case side1 => refine (Kd.R_reads' (e := 41) (base := w.heap.size) (ok := fun k_ => ((some k_ ≠ (.slice Ao103 t493.length co103 : Value).ownBlock ∧ some k_ ≠ (.slice Ao13 t446.length co13 : Value).ownBlock) ∧ some k_ ≠ (.slice Ao20 t454.length co20 : Value).ownBlock)) (n := t485.length) (c := co102) ?_).2.2; exact (by (with_reducible repeat (first | apply Kd.R_alloc | apply Kd.R_drewN | apply Kd.R_drew)); exact (Kd.R_mono (rF 10 (rF 9 (rF 8 (rF 7 (rF 6 (rF 5 (rF 4 (rF 3 (rF 2 (rF 1 (rF 0 (Kd.R_types HO487.out BK502.out (by decide))))))))))))) (fun _ h_ => h_.1)))); (case side2 => exact (Kd.R_reads' HO487.out).2.1); (case side3 => refine (Kd.R_reads' (e := 41) (base := w.heap.size) (ok := fun k_ => ((some k_ ≠ (.slice Ao102 t485.length co102 : Value).ownBlock ∧ some k_ ≠ (.slice Ao13 t446.length co13 : Value).ownBlock) ∧ some k_ ≠ (.slice Ao20 t454.length co20 : Value).ownBlock)) (n := t493.length) (c := co103) ?_).2.2; exact (by (with_reducible repeat (first | apply Kd.R_alloc | apply Kd.R_drewN | apply Kd.R_drew)); exact (Kd.R_mono (rF 10 (rF 9 (rF 8 (rF 7 (rF 6 (rF 5 (rF 4 (rF 3 (rF 2 (rF 1 (rF 0 (Kd.R_types HO495.out BK502.out (by decide))))))))))))) (fun _ h_ => h_.1)))); (case side4 => exact (Kd.R_reads' HO495.out).2.1); (case side5 => refine (Kd.R_reads' (e := 35) (base := w.heap.size) (ok := fun k_ => (True ∧ some k_ ≠ (.slice Ao24 t459.length co24 : Value).ownBlock)) (n := t498.length) (c := co104) ?_).2.2; exact (by (with_reducible repeat (first | apply Kd.R_alloc | apply Kd.R_drewN | apply Kd.R_drew)); exact (Kd.R_mono (rF 10 (rF 9 (rF 8 (rF 7 (rF 6 (rF 5 (rF 4 (rF 3 (rF 2 (rF 1 (rF 0 (Kd.R_types HO500.out BK502.out (by decide))))))))))))) (fun _ h_ => h_.1)))); (case side6 => exact (Kd.R_reads' HO500.out).2.1); rintro e w105 ⟨rfl, hb⟩; refine ⟨_, rfl, ?_⟩; have n0_ := aA (Kd.R_below (by (with_reducible repeat (first | apply Kd.R_alloc | apply Kd.R_drewN | apply Kd.R_drew)); exact (Kd.R_mono (rF 10 (rF 9 (rF 8 (rF 7 (rF 6 (rF 5 (rF 4 (rF 3 (rF 2 (rF 1 (rF 0 (Kd.R_types HO_445001.out BK502.out (by decide))))))))))))) (fun _ h_ => h_.1))) hb); have n1_ := aA (Kd.R_below (by (with_reducible repeat (first | apply Kd.R_alloc | apply Kd.R_drewN | apply Kd.R_drew)); exact (Kd.R_mono (rF 10 (rF 9 (rF 8 (rF 7 (rF 6 (rF 5 (rF 4 (rF 3 (rF 2 (rF 1 (rF 0 (Kd.R_types HO_445007.out BK502.out (by decide))))))))))))) (fun _ h_ => h_.1))) hb); have n2_ := aA (Kd.R_below (by (with_reducible repeat (first | apply Kd.R_alloc | apply Kd.R_drewN | apply Kd.R_drew)); exact (Kd.R_mono (rF 10 (rF 9 (rF 8 (rF 7 (rF 6 (rF 5 (rF 4 (rF 3 (rF 2 (rF 1 (rF 0 (Kd.R_types HO_445010.out BK502.out (by decide))))))))))))) (fun _ h_ => h_.1))) hb); have n3_ := aA (Kd.R_below (by (with_reducible repeat (first | apply Kd.R_alloc | apply Kd.R_drewN | apply Kd.R_drew)); exact (Kd.R_mono (rF 10 (rF 9 (rF 8 (rF 7 (rF 6 (rF 5 (rF 4 (rF 3 (rF 2 (rF 1 (rF 0 (Kd.R_types HO487.out BK502.out (by decide))))))))))))) (fun _ h_ => h_.1))) hb); have n4_ := aA (Kd.R_below (by (with_reducible repeat (first | apply Kd.R_alloc | apply Kd.R_drewN | apply Kd.R_drew)); exact (Kd.R_mono (rF 10 (rF 9 (rF 8 (rF 7 (rF 6 (rF 5 (rF 4 (rF 3 (rF 2 (rF 1 (rF 0 (Kd.R_types HO495.out BK502.out (by decide))))))))))))) (fun _ h_ => h_.1))) hb); have n5_ := aA (Kd.R_below (by (with_reducible repeat (first | apply Kd.R_alloc | apply Kd.R_drewN | apply Kd.R_drew)); exact (Kd.R_mono (rF 10 (rF 9 (rF 8 (rF 7 (rF 6 (rF 5 (rF 4 (rF 3 (rF 2 (rF 1 (rF 0 (Kd.R_types HO500.out BK502.out (by decide))))))))))))) (fun _ h_ => h_.1))) hb); have n6_ := aA (blk_below (g := gb444) (o := .cells #[.int .i64 t445, .slice Ao13 t446.length co13, .int .i64 t449, .int .i64 t450, .int .i64 t451, .int .i64 t452, .int .i64 t453, .slice Ao20 t454.length co20, .int .i64 t457, .int .i64 t458, .slice Ao24 t459.length co24] 50 (0, 0)) (by (with_reducible repeat (first | refine blk_drewN ?_ _ | refine blk_drew ?_ | refine blk_alloc ?_ _)); refine blk_far ?_ NB444_502.out _; (with_reducible repeat (first | refine blk_drewN ?_ _ | refine blk_drew ?_ | refine blk_alloc ?_ _)); refine blk_far ?_ NB444_502.out _; (with_reducible repeat (first | refine blk_drewN ?_ _ | refine blk_drew ?_ | refine blk_alloc ?_ _)); refine blk_far ?_ NB444_502.out _; (with_reducible repeat (first | refine blk_drewN ?_ _ | refine blk_drew ?_ | refine blk_alloc ?_ _)); refine blk_far ?_ NB444_502.out _; (with_reducible repeat (first | refine blk_drewN ?_ _ | refine blk_drew ?_ | refine blk_alloc ?_ _)); refine blk_far ?_ NB444_502.out _; (with_reducible repeat (first | refine blk_drewN ?_ _ | refine blk_drew ?_ | refine blk_alloc ?_ _)); refine blk_far ?_ NB444_502.out _; (with_reducible repeat (first | refine blk_drewN ?_ _ | refine blk_drew ?_ | refine blk_alloc ?_ _)); refine blk_far ?_ NB444_502.out _; (with_reducible repeat (first | refine blk_drewN ?_ _ | refine blk_drew ?_ | refine blk_alloc ?_ _)); refine blk_far ?_ NB444_502.out _; (with_reducible repeat (first | refine blk_drewN ?_ _ | refine blk_drew ?_ | refine blk_alloc ?_ _)); refine blk_far ?_ NB444_502.out _; (with_reducible repeat (first | refine blk_drewN ?_ _ | refine blk_drew ?_ | refine blk_alloc ?_ _)); refine blk_far ?_ NB444_502.out _; (with_reducible repeat (first | refine blk_drewN ?_ _ | refine blk_drew ?_ | refine blk_alloc ?_ _)); refine blk_far ?_ NB444_502.out _; (with_reducible repeat (first | refine blk_drewN ?_ _ | refine blk_drew ?_ | refine blk_alloc ?_ _)); exact BK444.out) hb); have n7_ := aA (blk_below (g := gb502) (o := .cells #[.int .i64 t484, .slice Ao102 t485.length co102, .int .i64 t488, .int .i64 t489, .int .i64 t490, .int .i64 t491, .int .i64 t492, .slice Ao103 t493.length co103, .int .i64 t496, .int .i64 t497, .slice Ao104 t498.length co104] 50 (0, 0)) (by (with_reducible repeat (first | refine blk_drewN ?_ _ | refine blk_drew ?_ | refine blk_alloc ?_ _)); have h_ := BK502.out; exact pK 10 (pK 9 (pK 8 (pK 7 (pK 6 (pK 5 (pK 4 (pK 3 (pK 2 (pK 1 (pK 0 (h_)))))))))))) hb); have n8_ := aA (below_step (mD2 GE444.out GE502.out) hb); clear HO_445001 HO_445007 HO_445010 HO487 HO495 HO500 BK444 BK502 HB; have HO_445001 := n0_; have HO_445007 := n1_; have HO_445010 := n2_; have HO487 := n3_; have HO495 := n4_; have HO500 := n5_; have BK444 := n6_; have BK502 := n7_; have HB := n8_; clear n0_ n1_ n2_ n3_ n4_ n5_ n6_ n7_ n8_; (try clear hb); (try clear hb2); (try clear hk); (try clear hi)) | ((with_reducible refine gate_callee (f := 28) rfl ?_); refine goesL_ (some 63) rfl rfl Try.func28 (by kernel_rfl) rfl #[] rfl mS ?_; (with_reducible refine (foghornlaw17_alive.calls  true _ A71.out).mono ?_); rintro e w106 ⟨rfl, hb⟩; refine ⟨_, rfl, ?_⟩; have n0_ := aA (Kd.R_below (mR HO_445001.out) hb); have n1_ := aA (Kd.R_below (mR HO_445007.out) hb); have n2_ := aA (Kd.R_below (mR HO_445010.out) hb); have n3_ := aA (Kd.R_below (mR HO487.out) hb); have n4_ := aA (Kd.R_below (mR HO495.out) hb); have n5_ := aA (Kd.R_below (mR HO500.out) hb); have n6_ := aA (bB BK444.out hb); have n7_ := aA (bB BK502.out hb); have n8_ := aA (below_step (mD2 GE444.out GE502.out) hb); clear HO_445001 HO_445007 HO_445010 HO487 HO495 HO500 BK444 BK502 HB; have HO_445001 := n0_; have HO_445007 := n1_; have HO_445010 := n2_; have HO487 := n3_; have HO495 := n4_; have HO500 := n5_; have BK444 := n6_; have BK502 := n7_; have HB := n8_; clear n0_ n1_ n2_ n3_ n4_ n5_ n6_ n7_ n8_; (try clear hb); (try clear hb2); (try clear hk); (try clear hi); obtain ⟨hcz107_0, hcz107_1, hcz107_2, hcz107_3, hcz107_4, hcz107_5, hcz107_6, hcz107_7, hcz107_8, hcz107_9, hcz107_10⟩ := bC11 BK502.out; obtain ⟨hfz107_0, hfz107_1, hfz107_2, hfz107_3, hfz107_4, hfz107_5, hfz107_6, hfz107_7, hfz107_8, hfz107_9, hfz107_10⟩ := bF11 BK502.out) | (go_at_call 26; (with_reducible refine (code_Right.calls t484 _ _ t485 t488 t489 t490 t491 t492 _ _ t493 t496 t497 _ _ t498 false _ ?side1 ?side2 ?side3 ?side4 ?side5 ?side6 A73.out).mono ?_); (case side1 => exact mC ((Kd.R_reads' HO487.out).2.2)); (case side2 => exact (Kd.R_reads' HO487.out).2.1); (case side3 => exact mC ((Kd.R_reads' HO495.out).2.2)); (case side4 => exact (Kd.R_reads' HO495.out).2.1); (case side5 => exact mC ((Kd.R_reads' HO500.out).2.2)); (case side6 => exact (Kd.R_reads' HO500.out).2.1); rintro e w108 ⟨rfl, hb⟩; have n0_ := aA (Kd.R_below (mR HO_445001.out) hb); have n1_ := aA (Kd.R_below (mR HO_445007.out) hb); have n2_ := aA (Kd.R_below (mR HO_445010.out) hb); have n3_ := aA (Kd.R_below (mR HO487.out) hb); have n4_ := aA (Kd.R_below (mR HO495.out) hb); have n5_ := aA (Kd.R_below (mR HO500.out) hb); have n6_ := aA (bB BK444.out hb); have n7_ := aA (bB BK502.out hb); have n8_ := aA (below_step (mD2 GE444.out GE502.out) hb); clear HO_445001 HO_445007 HO_445010 HO487 HO495 HO500 BK444 BK502 HB; have HO_445001 := n0_; have HO_445007 := n1_; have HO_445010 := n2_; have HO487 := n3_; have HO495 := n4_; have HO500 := n5_; have BK444 := n6_; have BK502 := n7_; have HB := n8_; clear n0_ n1_ n2_ n3_ n4_ n5_ n6_ n7_ n8_; (try clear hb); (try clear hb2); (try clear hk); (try clear hi)))
        go_ret
        exact ⟨by first | rfl | (simp [errW_none, errW_some] <;> rfl) | (simp only [← hji4]; first | rfl | (simp [errW_none, errW_some] <;> rfl)) | (simp [*, errW_none, errW_some] <;> rfl), by repeat (first | (with_reducible first | exact HB.out | apply below_alloc | apply pw_below_drewN | apply below_drew1 | refine below_set ?_ GE444.out | refine below_set ?_ GE502.out) | exact HB.out)⟩
      ·replace c72 := Bool.eq_false_iff.mpr c72
       subst c72
       have H1 : (some false) = some r := by rw [if_neg (show ¬ (false = true) by decide)] at H; exact H
       clear H
       have H := H1
       clear H1
       obtain rfl := Option.some.inj H
       go_wp2_with (first | ((with_reducible refine gate_callee (f := 30) rfl ?_); refine goesL_ (some 47) rfl rfl Try.func30 (by kernel_rfl) rfl #[.string (a1.extract 0 ((ji4) : Int).toNat)] rfl (by (try simp only [List.map_toArray, List.map_cons, List.map_nil]); first | done | (simp only [hji4]; rfl) | rfl | (simp only [List.length_drop, List.length_take]; rfl)) ?_; (with_reducible refine (code_Get.calls (a1.extract 0 ((ji4) : Int).toNat) t484 t485 t488 t489 t490 t491 t492 t493 t496 t497 t498 t501 _ A68.out).mono ?_); rintro e w109 ⟨v486, v494, v499, rfl, ho0, ho1, ho2, hb⟩; refine ⟨_, rfl, ?_⟩; have n0_ := aA (Kd.R_mono (Kd.R_told (Kd.R_told (Kd.R_old (mR HO_445001.out) hb) (Kd.R_base ho0)) (Kd.R_base ho1)) (fun _ h_ => h_.1)); have n1_ := aA (Kd.R_mono (Kd.R_told (Kd.R_told (Kd.R_old (mR HO_445007.out) hb) (Kd.R_base ho0)) (Kd.R_base ho1)) (fun _ h_ => h_.1)); have n2_ := aA (Kd.R_elder' (mR HO_445010.out) (Kd.R_base ho2) hb); have n3_ := aA (Kd.R_lower (Kd.R_new' (Kd.R_new' ho0 (Kd.R_lt (mR HO_445001.out))) (Kd.R_lt (mR HO_445007.out))) (below_size (mD1 GE444.out))); have n4_ := aA (Kd.R_lower (Kd.R_new' (Kd.R_new' ho1 (Kd.R_lt (mR HO_445001.out))) (Kd.R_lt (mR HO_445007.out))) (below_size (mD1 GE444.out))); have n5_ := aA (Kd.R_lower (Kd.R_new' ho2 (Kd.R_lt (mR HO_445010.out))) (below_size (mD1 GE444.out))); have n6_ := aA (bB BK444.out hb); have n7_ := aA (below_step (mD1 GE444.out) hb); clear HO_445001 HO_445007 HO_445010 BK444 HB; have HO_445001 := n0_; have HO_445007 := n1_; have HO_445010 := n2_; have HO487 := n3_; have HO495 := n4_; have HO500 := n5_; have BK444 := n6_; have HB := n7_; clear n0_ n1_ n2_ n3_ n4_ n5_ n6_ n7_; (try clear hb); (try clear hb2); (try clear hk); (try clear hi); (try clear ho0); (try clear ho1); (try clear ho2)) | ((with_reducible refine gate_dst (N := 9) rfl ?_); (try (refine gate_guard (by rfl) ?_; dsimp only)); refine box_event ?hg (N := 9) ?hd (cs := #[.int .i64 0, .slice none 0 0, .int .i64 0, .int .i64 0, .int .i64 0, .int .i64 0, .int .i64 0, .slice none 0 0, .int .i64 0, .int .i64 0, .slice none 0 0]) (t := 50) ?hr ?_; (case hd => rfl); (case hg => rfl); (case hr => first | (go_simp; done) | (go_simp; rfl)); intro gb502 hg w110 hbox hb; have n0_ := aA (Kd.R_below (mR HO_445001.out) hb); have n1_ := aA (Kd.R_below (mR HO_445007.out) hb); have n2_ := aA (Kd.R_below (mR HO_445010.out) hb); have n3_ := aA (Kd.R_below (mR HO487.out) hb); have n4_ := aA (Kd.R_below (mR HO495.out) hb); have n5_ := aA (Kd.R_below (mR HO500.out) hb); have n6_ := aA (bB BK444.out hb); have n7_ := aA (below_step (mD1 GE444.out) hb); have n8_ := aA (hbox); have n9_ := aA ((bZ hg (mD1 GE444.out))); have n10_ := aA ((bZ hg (mD1 GE444.out))); have n11_ := aA ((bL hg BK444.out)); have n12_ := aA ((bG hg BK444.out)); clear HO_445001 HO_445007 HO_445010 HO487 HO495 HO500 BK444 HB; have HO_445001 := n0_; have HO_445007 := n1_; have HO_445010 := n2_; have HO487 := n3_; have HO495 := n4_; have HO500 := n5_; have BK444 := n6_; have HB := n7_; have BK502 := n8_; have GW502 := n9_; have GE502 := n10_; have NB444_502 := n11_; have NB502_444 := n12_; clear n0_ n1_ n2_ n3_ n4_ n5_ n6_ n7_ n8_ n9_ n10_ n11_ n12_ hb hbox hg; have hnb111 := NB502_444.out; have hnc111 := NB444_502.out; obtain ⟨hcz112_0, hcz112_1, hcz112_2, hcz112_3, hcz112_4, hcz112_5, hcz112_6, hcz112_7, hcz112_8, hcz112_9, hcz112_10⟩ := bC11 BK502.out; obtain ⟨hfz112_0, hfz112_1, hfz112_2, hfz112_3, hfz112_4, hfz112_5, hfz112_6, hfz112_7, hfz112_8, hfz112_9, hfz112_10⟩ := bF11 BK502.out; obtain ⟨Ao113, co113, eo113⟩ := Kd.R_slice HO487.out; subst eo113; obtain ⟨Ao114, co114, eo114⟩ := Kd.R_slice HO495.out; subst eo114; obtain ⟨Ao115, co115, eo115⟩ := Kd.R_slice HO500.out; subst eo115) | ((with_reducible refine gate_callee (f := 25) rfl ?_); refine goesL_ (some 60) rfl rfl Try.func25 (by kernel_rfl) rfl #[.agg #[.int .i64 t484, .slice Ao113 t485.length co113, .int .i64 t488, .int .i64 t489, .int .i64 t490, .int .i64 t491, .int .i64 t492, .slice Ao114 t493.length co114, .int .i64 t496, .int .i64 t497, .slice Ao115 t498.length co115]] rfl mS ?_; (with_reducible refine (code_Put.calls t484 _ _ t485 t488 t489 t490 t491 t492 _ _ t493 t496 t497 _ _ t498 t503 t504 _ ?side1 ?side2 ?side3 ?side4 ?side5 ?side6 A70.out).mono ?_); (case side1 => refine (Kd.R_reads' (e := 41) (base := w.heap.size) (ok := fun k_ => ((some k_ ≠ (.slice Ao114 t493.length co114 : Value).ownBlock ∧ some k_ ≠ (.slice Ao13 t446.length co13 : Value).ownBlock) ∧ some k_ ≠ (.slice Ao20 t454.length co20 : Value).ownBlock)) (n := t485.length) (c := co113) ?_).2.2; exact (by (with_reducible repeat (first | apply Kd.R_alloc | apply Kd.R_drewN | apply Kd.R_drew)); exact (Kd.R_mono (rF 10 (rF 9 (rF 8 (rF 7 (rF 6 (rF 5 (rF 4 (rF 3 (rF 2 (rF 1 (rF 0 (Kd.R_types HO487.out BK502.out (by decide))))))))))))) (fun _ h_ => h_.1)))); (case side2 => exact (Kd.R_reads' HO487.out).2.1); (case side3 => refine (Kd.R_reads' (e := 41) (base := w.heap.size) (ok := fun k_ => ((some k_ ≠ (.slice Ao113 t485.length co113 : Value).ownBlock ∧ some k_ ≠ (.slice Ao13 t446.length co13 : Value).ownBlock) ∧ some k_ ≠ (.slice Ao20 t454.length co20 : Value).ownBlock)) (n := t493.length) (c := co114) ?_).2.2; exact (by (with_reducible repeat (first | apply Kd.R_alloc | apply Kd.R_drewN | apply Kd.R_drew)); exact (Kd.R_mono (rF 10 (rF 9 (rF 8 (rF 7 (rF 6 (rF 5 (rF 4 (rF 3 (rF 2 (rF 1 (rF 0 (Kd.R_types HO495.out BK502.out (by decide))))))))))))) (fun _ h_ => h_.1)))); (case side4 => exact (Kd.R_reads' HO495.out).2.1); (case side5 => refine (Kd.R_reads' (e := 35) (base := w.heap.size) (ok := fun k_ => (True ∧ some k_ ≠ (.slice Ao24 t459.length co24 : Value).ownBlock)) (n := t498.length) (c := co115) ?_).2.2; exact (by (with_reducible repeat (first | apply Kd.R_alloc | apply Kd.R_drewN | apply Kd.R_drew)); exact (Kd.R_mono (rF 10 (rF 9 (rF 8 (rF 7 (rF 6 (rF 5 (rF 4 (rF 3 (rF 2 (rF 1 (rF 0 (Kd.R_types HO500.out BK502.out (by decide))))))))))))) (fun _ h_ => h_.1)))); (case side6 => exact (Kd.R_reads' HO500.out).2.1); rintro e w116 ⟨rfl, hb⟩; refine ⟨_, rfl, ?_⟩; have n0_ := aA (Kd.R_below (by (with_reducible repeat (first | apply Kd.R_alloc | apply Kd.R_drewN | apply Kd.R_drew)); exact (Kd.R_mono (rF 10 (rF 9 (rF 8 (rF 7 (rF 6 (rF 5 (rF 4 (rF 3 (rF 2 (rF 1 (rF 0 (Kd.R_types HO_445001.out BK502.out (by decide))))))))))))) (fun _ h_ => h_.1))) hb); have n1_ := aA (Kd.R_below (by (with_reducible repeat (first | apply Kd.R_alloc | apply Kd.R_drewN | apply Kd.R_drew)); exact (Kd.R_mono (rF 10 (rF 9 (rF 8 (rF 7 (rF 6 (rF 5 (rF 4 (rF 3 (rF 2 (rF 1 (rF 0 (Kd.R_types HO_445007.out BK502.out (by decide))))))))))))) (fun _ h_ => h_.1))) hb); have n2_ := aA (Kd.R_below (by (with_reducible repeat (first | apply Kd.R_alloc | apply Kd.R_drewN | apply Kd.R_drew)); exact (Kd.R_mono (rF 10 (rF 9 (rF 8 (rF 7 (rF 6 (rF 5 (rF 4 (rF 3 (rF 2 (rF 1 (rF 0 (Kd.R_types HO_445010.out BK502.out (by decide))))))))))))) (fun _ h_ => h_.1))) hb); have n3_ := aA (Kd.R_below (by (with_reducible repeat (first | apply Kd.R_alloc | apply Kd.R_drewN | apply Kd.R_drew)); exact (Kd.R_mono (rF 10 (rF 9 (rF 8 (rF 7 (rF 6 (rF 5 (rF 4 (rF 3 (rF 2 (rF 1 (rF 0 (Kd.R_types HO487.out BK502.out (by decide))))))))))))) (fun _ h_ => h_.1))) hb); have n4_ := aA (Kd.R_below (by (with_reducible repeat (first | apply Kd.R_alloc | apply Kd.R_drewN | apply Kd.R_drew)); exact (Kd.R_mono (rF 10 (rF 9 (rF 8 (rF 7 (rF 6 (rF 5 (rF 4 (rF 3 (rF 2 (rF 1 (rF 0 (Kd.R_types HO495.out BK502.out (by decide))))))))))))) (fun _ h_ => h_.1))) hb); have n5_ := aA (Kd.R_below (by (with_reducible repeat (first | apply Kd.R_alloc | apply Kd.R_drewN | apply Kd.R_drew)); exact (Kd.R_mono (rF 10 (rF 9 (rF 8 (rF 7 (rF 6 (rF 5 (rF 4 (rF 3 (rF 2 (rF 1 (rF 0 (Kd.R_types HO500.out BK502.out (by decide))))))))))))) (fun _ h_ => h_.1))) hb); have n6_ := aA (blk_below (g := gb444) (o := .cells #[.int .i64 t445, .slice Ao13 t446.length co13, .int .i64 t449, .int .i64 t450, .int .i64 t451, .int .i64 t452, .int .i64 t453, .slice Ao20 t454.length co20, .int .i64 t457, .int .i64 t458, .slice Ao24 t459.length co24] 50 (0, 0)) (by (with_reducible repeat (first | refine blk_drewN ?_ _ | refine blk_drew ?_ | refine blk_alloc ?_ _)); refine blk_far ?_ NB444_502.out _; (with_reducible repeat (first | refine blk_drewN ?_ _ | refine blk_drew ?_ | refine blk_alloc ?_ _)); refine blk_far ?_ NB444_502.out _; (with_reducible repeat (first | refine blk_drewN ?_ _ | refine blk_drew ?_ | refine blk_alloc ?_ _)); refine blk_far ?_ NB444_502.out _; (with_reducible repeat (first | refine blk_drewN ?_ _ | refine blk_drew ?_ | refine blk_alloc ?_ _)); refine blk_far ?_ NB444_502.out _; (with_reducible repeat (first | refine blk_drewN ?_ _ | refine blk_drew ?_ | refine blk_alloc ?_ _)); refine blk_far ?_ NB444_502.out _; (with_reducible repeat (first | refine blk_drewN ?_ _ | refine blk_drew ?_ | refine blk_alloc ?_ _)); refine blk_far ?_ NB444_502.out _; (with_reducible repeat (first | refine blk_drewN ?_ _ | refine blk_drew ?_ | refine blk_alloc ?_ _)); refine blk_far ?_ NB444_502.out _; (with_reducible repeat (first | refine blk_drewN ?_ _ | refine blk_drew ?_ | refine blk_alloc ?_ _)); refine blk_far ?_ NB444_502.out _; (with_reducible repeat (first | refine blk_drewN ?_ _ | refine blk_drew ?_ | refine blk_alloc ?_ _)); refine blk_far ?_ NB444_502.out _; (with_reducible repeat (first | refine blk_drewN ?_ _ | refine blk_drew ?_ | refine blk_alloc ?_ _)); refine blk_far ?_ NB444_502.out _; (with_reducible repeat (first | refine blk_drewN ?_ _ | refine blk_drew ?_ | refine blk_alloc ?_ _)); refine blk_far ?_ NB444_502.out _; (with_reducible repeat (first | refine blk_drewN ?_ _ | refine blk_drew ?_ | refine blk_alloc ?_ _)); exact BK444.out) hb); have n7_ := aA (blk_below (g := gb502) (o := .cells #[.int .i64 t484, .slice Ao113 t485.length co113, .int .i64 t488, .int .i64 t489, .int .i64 t490, .int .i64 t491, .int .i64 t492, .slice Ao114 t493.length co114, .int .i64 t496, .int .i64 t497, .slice Ao115 t498.length co115] 50 (0, 0)) (by (with_reducible repeat (first | refine blk_drewN ?_ _ | refine blk_drew ?_ | refine blk_alloc ?_ _)); have h_ := BK502.out; exact pK 10 (pK 9 (pK 8 (pK 7 (pK 6 (pK 5 (pK 4 (pK 3 (pK 2 (pK 1 (pK 0 (h_)))))))))))) hb); have n8_ := aA (below_step (mD2 GE444.out GE502.out) hb); clear HO_445001 HO_445007 HO_445010 HO487 HO495 HO500 BK444 BK502 HB; have HO_445001 := n0_; have HO_445007 := n1_; have HO_445010 := n2_; have HO487 := n3_; have HO495 := n4_; have HO500 := n5_; have BK444 := n6_; have BK502 := n7_; have HB := n8_; clear n0_ n1_ n2_ n3_ n4_ n5_ n6_ n7_ n8_; (try clear hb); (try clear hb2); (try clear hk); (try clear hi)) | ((with_reducible refine gate_callee (f := 28) rfl ?_); refine goesL_ (some 63) rfl rfl Try.func28 (by kernel_rfl) rfl #[] rfl mS ?_; (with_reducible refine (foghornlaw17_alive.calls  false _ A71.out).mono ?_); rintro e w117 ⟨rfl, hb⟩; refine ⟨_, rfl, ?_⟩; have n0_ := aA (Kd.R_below (mR HO_445001.out) hb); have n1_ := aA (Kd.R_below (mR HO_445007.out) hb); have n2_ := aA (Kd.R_below (mR HO_445010.out) hb); have n3_ := aA (Kd.R_below (mR HO487.out) hb); have n4_ := aA (Kd.R_below (mR HO495.out) hb); have n5_ := aA (Kd.R_below (mR HO500.out) hb); have n6_ := aA (bB BK444.out hb); have n7_ := aA (bB BK502.out hb); have n8_ := aA (below_step (mD2 GE444.out GE502.out) hb); clear HO_445001 HO_445007 HO_445010 HO487 HO495 HO500 BK444 BK502 HB; have HO_445001 := n0_; have HO_445007 := n1_; have HO_445010 := n2_; have HO487 := n3_; have HO495 := n4_; have HO500 := n5_; have BK444 := n6_; have BK502 := n7_; have HB := n8_; clear n0_ n1_ n2_ n3_ n4_ n5_ n6_ n7_ n8_; (try clear hb); (try clear hb2); (try clear hk); (try clear hi)))
       go_ret
       exact ⟨by first | rfl | (simp [errW_none, errW_some] <;> rfl) | (simp only [← hji4]; first | rfl | (simp [errW_none, errW_some] <;> rfl)) | (simp [*, errW_none, errW_some] <;> rfl), by repeat (first | (with_reducible first | exact HB.out | apply below_alloc | apply pw_below_drewN | apply below_drew1 | refine below_set ?_ GE444.out | refine below_set ?_ GE502.out) | exact HB.out)⟩
     ·rw [if_neg c69] at H
      have c69b0 : (t501 == 0) = false := beq_eq_false_iff_ne.mpr c69
      have c69b1 : (t501 != 0) = true := bne_iff_ne.mpr c69
      replace H := Option.bind_eq_some_iff.mp H
      obtain ⟨t507, A1180, H⟩ := H
      have A118 := aA A1180
      clear A1180
      by_cases c119 : t507 = true
      ·subst c119
       have H1 : ((foghornref17_Same.f kj7 t484 t485 t488 t489 t490 t491 t492 t493 t496 t497 t498 0 ([] : List (S41)) 0 0 0 0 0 ([] : List (S41)) 0 0 ([] : List (S35))).bind fun t508 => (some t508)) = some r := by rw [if_pos rfl] at H; exact H
       clear H
       have H := H1
       clear H1
       replace H := Option.bind_eq_some_iff.mp H
       obtain ⟨t508, A1200, H⟩ := H
       have A120 := aA A1200
       clear A1200
       obtain rfl := Option.some.inj H
       go_wp2_with (first | ((with_reducible refine gate_callee (f := 30) rfl ?_); refine goesL_ (some 47) rfl rfl Try.func30 (by kernel_rfl) rfl #[.string (a1.extract 0 ((ji4) : Int).toNat)] rfl (by (try simp only [List.map_toArray, List.map_cons, List.map_nil]); first | done | (simp only [hji4]; rfl) | rfl | (simp only [List.length_drop, List.length_take]; rfl)) ?_; (with_reducible refine (code_Get.calls (a1.extract 0 ((ji4) : Int).toNat) t484 t485 t488 t489 t490 t491 t492 t493 t496 t497 t498 t501 _ A68.out).mono ?_); rintro e w121 ⟨v486, v494, v499, rfl, ho0, ho1, ho2, hb⟩; refine ⟨_, rfl, ?_⟩; have n0_ := aA (Kd.R_mono (Kd.R_told (Kd.R_told (Kd.R_old (mR HO_445001.out) hb) (Kd.R_base ho0)) (Kd.R_base ho1)) (fun _ h_ => h_.1)); have n1_ := aA (Kd.R_mono (Kd.R_told (Kd.R_told (Kd.R_old (mR HO_445007.out) hb) (Kd.R_base ho0)) (Kd.R_base ho1)) (fun _ h_ => h_.1)); have n2_ := aA (Kd.R_elder' (mR HO_445010.out) (Kd.R_base ho2) hb); have n3_ := aA (Kd.R_lower (Kd.R_new' (Kd.R_new' ho0 (Kd.R_lt (mR HO_445001.out))) (Kd.R_lt (mR HO_445007.out))) (below_size (mD1 GE444.out))); have n4_ := aA (Kd.R_lower (Kd.R_new' (Kd.R_new' ho1 (Kd.R_lt (mR HO_445001.out))) (Kd.R_lt (mR HO_445007.out))) (below_size (mD1 GE444.out))); have n5_ := aA (Kd.R_lower (Kd.R_new' ho2 (Kd.R_lt (mR HO_445010.out))) (below_size (mD1 GE444.out))); have n6_ := aA (bB BK444.out hb); have n7_ := aA (below_step (mD1 GE444.out) hb); clear HO_445001 HO_445007 HO_445010 BK444 HB; have HO_445001 := n0_; have HO_445007 := n1_; have HO_445010 := n2_; have HO487 := n3_; have HO495 := n4_; have HO500 := n5_; have BK444 := n6_; have HB := n7_; clear n0_ n1_ n2_ n3_ n4_ n5_ n6_ n7_; (try clear hb); (try clear hb2); (try clear hk); (try clear hi); (try clear ho0); (try clear ho1); (try clear ho2)) | ((with_reducible refine gate_dst (N := 9) rfl ?_); (try (refine gate_guard (by rfl) ?_; dsimp only)); refine box_event ?hg (N := 9) ?hd (cs := #[.int .i64 0, .slice none 0 0, .int .i64 0, .int .i64 0, .int .i64 0, .int .i64 0, .int .i64 0, .slice none 0 0, .int .i64 0, .int .i64 0, .slice none 0 0]) (t := 50) ?hr ?_; (case hd => rfl); (case hg => rfl); (case hr => first | (go_simp; done) | (go_simp; rfl)); intro gb502 hg w122 hbox hb; have n0_ := aA (Kd.R_below (mR HO_445001.out) hb); have n1_ := aA (Kd.R_below (mR HO_445007.out) hb); have n2_ := aA (Kd.R_below (mR HO_445010.out) hb); have n3_ := aA (Kd.R_below (mR HO487.out) hb); have n4_ := aA (Kd.R_below (mR HO495.out) hb); have n5_ := aA (Kd.R_below (mR HO500.out) hb); have n6_ := aA (bB BK444.out hb); have n7_ := aA (below_step (mD1 GE444.out) hb); have n8_ := aA (hbox); have n9_ := aA ((bZ hg (mD1 GE444.out))); have n10_ := aA ((bZ hg (mD1 GE444.out))); have n11_ := aA ((bL hg BK444.out)); have n12_ := aA ((bG hg BK444.out)); clear HO_445001 HO_445007 HO_445010 HO487 HO495 HO500 BK444 HB; have HO_445001 := n0_; have HO_445007 := n1_; have HO_445010 := n2_; have HO487 := n3_; have HO495 := n4_; have HO500 := n5_; have BK444 := n6_; have HB := n7_; have BK502 := n8_; have GW502 := n9_; have GE502 := n10_; have NB444_502 := n11_; have NB502_444 := n12_; clear n0_ n1_ n2_ n3_ n4_ n5_ n6_ n7_ n8_ n9_ n10_ n11_ n12_ hb hbox hg; have hnb123 := NB502_444.out; have hnc123 := NB444_502.out; obtain ⟨hcz124_0, hcz124_1, hcz124_2, hcz124_3, hcz124_4, hcz124_5, hcz124_6, hcz124_7, hcz124_8, hcz124_9, hcz124_10⟩ := bC11 BK502.out; obtain ⟨hfz124_0, hfz124_1, hfz124_2, hfz124_3, hfz124_4, hfz124_5, hfz124_6, hfz124_7, hfz124_8, hfz124_9, hfz124_10⟩ := bF11 BK502.out; obtain ⟨Ao125, co125, eo125⟩ := Kd.R_slice HO487.out; subst eo125; obtain ⟨Ao126, co126, eo126⟩ := Kd.R_slice HO495.out; subst eo126; obtain ⟨Ao127, co127, eo127⟩ := Kd.R_slice HO500.out; subst eo127) | ((with_reducible refine gate_callee (f := 28) rfl ?_); refine goesL_ (some 52) rfl rfl Try.func28 (by kernel_rfl) rfl #[] rfl mS ?_; (with_reducible refine (foghornlaw17_alive.calls  true _ A118.out).mono ?_); rintro e w128 ⟨rfl, hb⟩; refine ⟨_, rfl, ?_⟩; have n0_ := aA (Kd.R_below (by (with_reducible repeat (first | apply Kd.R_alloc | apply Kd.R_drewN | apply Kd.R_drew)); exact (Kd.R_mono (rF 10 (rF 9 (rF 8 (rF 7 (rF 6 (rF 5 (rF 4 (rF 3 (rF 2 (rF 1 (rF 0 (Kd.R_types HO_445001.out BK502.out (by decide))))))))))))) (fun _ h_ => h_.1))) hb); have n1_ := aA (Kd.R_below (by (with_reducible repeat (first | apply Kd.R_alloc | apply Kd.R_drewN | apply Kd.R_drew)); exact (Kd.R_mono (rF 10 (rF 9 (rF 8 (rF 7 (rF 6 (rF 5 (rF 4 (rF 3 (rF 2 (rF 1 (rF 0 (Kd.R_types HO_445007.out BK502.out (by decide))))))))))))) (fun _ h_ => h_.1))) hb); have n2_ := aA (Kd.R_below (by (with_reducible repeat (first | apply Kd.R_alloc | apply Kd.R_drewN | apply Kd.R_drew)); exact (Kd.R_mono (rF 10 (rF 9 (rF 8 (rF 7 (rF 6 (rF 5 (rF 4 (rF 3 (rF 2 (rF 1 (rF 0 (Kd.R_types HO_445010.out BK502.out (by decide))))))))))))) (fun _ h_ => h_.1))) hb); have n3_ := aA (Kd.R_below (by (with_reducible repeat (first | apply Kd.R_alloc | apply Kd.R_drewN | apply Kd.R_drew)); exact (Kd.R_mono (rF 10 (rF 9 (rF 8 (rF 7 (rF 6 (rF 5 (rF 4 (rF 3 (rF 2 (rF 1 (rF 0 (Kd.R_types HO487.out BK502.out (by decide))))))))))))) (fun _ h_ => h_.1))) hb); have n4_ := aA (Kd.R_below (by (with_reducible repeat (first | apply Kd.R_alloc | apply Kd.R_drewN | apply Kd.R_drew)); exact (Kd.R_mono (rF 10 (rF 9 (rF 8 (rF 7 (rF 6 (rF 5 (rF 4 (rF 3 (rF 2 (rF 1 (rF 0 (Kd.R_types HO495.out BK502.out (by decide))))))))))))) (fun _ h_ => h_.1))) hb); have n5_ := aA (Kd.R_below (by (with_reducible repeat (first | apply Kd.R_alloc | apply Kd.R_drewN | apply Kd.R_drew)); exact (Kd.R_mono (rF 10 (rF 9 (rF 8 (rF 7 (rF 6 (rF 5 (rF 4 (rF 3 (rF 2 (rF 1 (rF 0 (Kd.R_types HO500.out BK502.out (by decide))))))))))))) (fun _ h_ => h_.1))) hb); have n6_ := aA (blk_below (g := gb444) (o := .cells #[.int .i64 t445, .slice Ao13 t446.length co13, .int .i64 t449, .int .i64 t450, .int .i64 t451, .int .i64 t452, .int .i64 t453, .slice Ao20 t454.length co20, .int .i64 t457, .int .i64 t458, .slice Ao24 t459.length co24] 50 (0, 0)) (by (with_reducible repeat (first | refine blk_drewN ?_ _ | refine blk_drew ?_ | refine blk_alloc ?_ _)); refine blk_far ?_ NB444_502.out _; (with_reducible repeat (first | refine blk_drewN ?_ _ | refine blk_drew ?_ | refine blk_alloc ?_ _)); refine blk_far ?_ NB444_502.out _; (with_reducible repeat (first | refine blk_drewN ?_ _ | refine blk_drew ?_ | refine blk_alloc ?_ _)); refine blk_far ?_ NB444_502.out _; (with_reducible repeat (first | refine blk_drewN ?_ _ | refine blk_drew ?_ | refine blk_alloc ?_ _)); refine blk_far ?_ NB444_502.out _; (with_reducible repeat (first | refine blk_drewN ?_ _ | refine blk_drew ?_ | refine blk_alloc ?_ _)); refine blk_far ?_ NB444_502.out _; (with_reducible repeat (first | refine blk_drewN ?_ _ | refine blk_drew ?_ | refine blk_alloc ?_ _)); refine blk_far ?_ NB444_502.out _; (with_reducible repeat (first | refine blk_drewN ?_ _ | refine blk_drew ?_ | refine blk_alloc ?_ _)); refine blk_far ?_ NB444_502.out _; (with_reducible repeat (first | refine blk_drewN ?_ _ | refine blk_drew ?_ | refine blk_alloc ?_ _)); refine blk_far ?_ NB444_502.out _; (with_reducible repeat (first | refine blk_drewN ?_ _ | refine blk_drew ?_ | refine blk_alloc ?_ _)); refine blk_far ?_ NB444_502.out _; (with_reducible repeat (first | refine blk_drewN ?_ _ | refine blk_drew ?_ | refine blk_alloc ?_ _)); refine blk_far ?_ NB444_502.out _; (with_reducible repeat (first | refine blk_drewN ?_ _ | refine blk_drew ?_ | refine blk_alloc ?_ _)); refine blk_far ?_ NB444_502.out _; (with_reducible repeat (first | refine blk_drewN ?_ _ | refine blk_drew ?_ | refine blk_alloc ?_ _)); exact BK444.out) hb); have n7_ := aA (blk_below (g := gb502) (o := .cells #[.int .i64 t484, .slice Ao125 t485.length co125, .int .i64 t488, .int .i64 t489, .int .i64 t490, .int .i64 t491, .int .i64 t492, .slice Ao126 t493.length co126, .int .i64 t496, .int .i64 t497, .slice Ao127 t498.length co127] 50 (0, 0)) (by (with_reducible repeat (first | refine blk_drewN ?_ _ | refine blk_drew ?_ | refine blk_alloc ?_ _)); have h_ := BK502.out; exact pK 10 (pK 9 (pK 8 (pK 7 (pK 6 (pK 5 (pK 4 (pK 3 (pK 2 (pK 1 (pK 0 (h_)))))))))))) hb); have n8_ := aA (below_step (mD2 GE444.out GE502.out) hb); clear HO_445001 HO_445007 HO_445010 HO487 HO495 HO500 BK444 BK502 HB; have HO_445001 := n0_; have HO_445007 := n1_; have HO_445010 := n2_; have HO487 := n3_; have HO495 := n4_; have HO500 := n5_; have BK444 := n6_; have BK502 := n7_; have HB := n8_; clear n0_ n1_ n2_ n3_ n4_ n5_ n6_ n7_ n8_; (try clear hb); (try clear hb2); (try clear hk); (try clear hi); obtain ⟨hcz129_0, hcz129_1, hcz129_2, hcz129_3, hcz129_4, hcz129_5, hcz129_6, hcz129_7, hcz129_8, hcz129_9, hcz129_10⟩ := bC11 BK502.out; obtain ⟨hfz129_0, hfz129_1, hfz129_2, hfz129_3, hfz129_4, hfz129_5, hfz129_6, hfz129_7, hfz129_8, hfz129_9, hfz129_10⟩ := bF11 BK502.out) | (go_at_call 32; (refine (foghornref17_Same.calls kj7 t484 _ _ t485 t488 t489 t490 t491 t492 _ _ t493 t496 t497 _ _ t498 0 _ _ ([] : List (S41)) 0 0 0 0 0 _ _ ([] : List (S41)) 0 0 _ _ ([] : List (S35)) t508 _ ?side1 ?side2 ?side3 ?side4 ?side5 ?side6 ?side7 ?side8 ?side9 ?side10 ?side11 ?side12 A120.out).mono ?_); (case side1 => exact mC ((Kd.R_reads' HO487.out).2.2)); (case side2 => exact (Kd.R_reads' HO487.out).2.1); (case side3 => exact mC ((Kd.R_reads' HO495.out).2.2)); (case side4 => exact (Kd.R_reads' HO495.out).2.1); (case side5 => exact mC ((Kd.R_reads' HO500.out).2.2)); (case side6 => exact (Kd.R_reads' HO500.out).2.1); (case side7 => exact Kd.C_nil _ _); (case side8 => exact Nat.le_refl _); (case side9 => exact Kd.C_nil _ _); (case side10 => exact Nat.le_refl _); (case side11 => exact Kd.C_nil _ _); (case side12 => exact Nat.le_refl _); rintro e w130 ⟨rfl, hb⟩; have n0_ := aA (Kd.R_below (mR HO_445001.out) hb); have n1_ := aA (Kd.R_below (mR HO_445007.out) hb); have n2_ := aA (Kd.R_below (mR HO_445010.out) hb); have n3_ := aA (Kd.R_below (mR HO487.out) hb); have n4_ := aA (Kd.R_below (mR HO495.out) hb); have n5_ := aA (Kd.R_below (mR HO500.out) hb); have n6_ := aA (bB BK444.out hb); have n7_ := aA (bB BK502.out hb); have n8_ := aA (below_step (mD2 GE444.out GE502.out) hb); clear HO_445001 HO_445007 HO_445010 HO487 HO495 HO500 BK444 BK502 HB; have HO_445001 := n0_; have HO_445007 := n1_; have HO_445010 := n2_; have HO487 := n3_; have HO495 := n4_; have HO500 := n5_; have BK444 := n6_; have BK502 := n7_; have HB := n8_; clear n0_ n1_ n2_ n3_ n4_ n5_ n6_ n7_ n8_; (try clear hb); (try clear hb2); (try clear hk); (try clear hi)))
       go_ret
       exact ⟨by first | rfl | (simp [errW_none, errW_some] <;> rfl) | (simp only [← hji4]; first | rfl | (simp [errW_none, errW_some] <;> rfl)) | (simp [*, errW_none, errW_some] <;> rfl), by repeat (first | (with_reducible first | exact HB.out | apply below_alloc | apply pw_below_drewN | apply below_drew1 | refine below_set ?_ GE444.out | refine below_set ?_ GE502.out) | exact HB.out)⟩
      ·replace c119 := Bool.eq_false_iff.mpr c119
       subst c119
       have H1 : (some false) = some r := by rw [if_neg (show ¬ (false = true) by decide)] at H; exact H
       clear H
       have H := H1
       clear H1
       obtain rfl := Option.some.inj H
       go_wp2_with (first | ((with_reducible refine gate_callee (f := 30) rfl ?_); refine goesL_ (some 47) rfl rfl Try.func30 (by kernel_rfl) rfl #[.string (a1.extract 0 ((ji4) : Int).toNat)] rfl (by (try simp only [List.map_toArray, List.map_cons, List.map_nil]); first | done | (simp only [hji4]; rfl) | rfl | (simp only [List.length_drop, List.length_take]; rfl)) ?_; (with_reducible refine (code_Get.calls (a1.extract 0 ((ji4) : Int).toNat) t484 t485 t488 t489 t490 t491 t492 t493 t496 t497 t498 t501 _ A68.out).mono ?_); rintro e w131 ⟨v486, v494, v499, rfl, ho0, ho1, ho2, hb⟩; refine ⟨_, rfl, ?_⟩; have n0_ := aA (Kd.R_mono (Kd.R_told (Kd.R_told (Kd.R_old (mR HO_445001.out) hb) (Kd.R_base ho0)) (Kd.R_base ho1)) (fun _ h_ => h_.1)); have n1_ := aA (Kd.R_mono (Kd.R_told (Kd.R_told (Kd.R_old (mR HO_445007.out) hb) (Kd.R_base ho0)) (Kd.R_base ho1)) (fun _ h_ => h_.1)); have n2_ := aA (Kd.R_elder' (mR HO_445010.out) (Kd.R_base ho2) hb); have n3_ := aA (Kd.R_lower (Kd.R_new' (Kd.R_new' ho0 (Kd.R_lt (mR HO_445001.out))) (Kd.R_lt (mR HO_445007.out))) (below_size (mD1 GE444.out))); have n4_ := aA (Kd.R_lower (Kd.R_new' (Kd.R_new' ho1 (Kd.R_lt (mR HO_445001.out))) (Kd.R_lt (mR HO_445007.out))) (below_size (mD1 GE444.out))); have n5_ := aA (Kd.R_lower (Kd.R_new' ho2 (Kd.R_lt (mR HO_445010.out))) (below_size (mD1 GE444.out))); have n6_ := aA (bB BK444.out hb); have n7_ := aA (below_step (mD1 GE444.out) hb); clear HO_445001 HO_445007 HO_445010 BK444 HB; have HO_445001 := n0_; have HO_445007 := n1_; have HO_445010 := n2_; have HO487 := n3_; have HO495 := n4_; have HO500 := n5_; have BK444 := n6_; have HB := n7_; clear n0_ n1_ n2_ n3_ n4_ n5_ n6_ n7_; (try clear hb); (try clear hb2); (try clear hk); (try clear hi); (try clear ho0); (try clear ho1); (try clear ho2)) | ((with_reducible refine gate_dst (N := 9) rfl ?_); (try (refine gate_guard (by rfl) ?_; dsimp only)); refine box_event ?hg (N := 9) ?hd (cs := #[.int .i64 0, .slice none 0 0, .int .i64 0, .int .i64 0, .int .i64 0, .int .i64 0, .int .i64 0, .slice none 0 0, .int .i64 0, .int .i64 0, .slice none 0 0]) (t := 50) ?hr ?_; (case hd => rfl); (case hg => rfl); (case hr => first | (go_simp; done) | (go_simp; rfl)); intro gb502 hg w132 hbox hb; have n0_ := aA (Kd.R_below (mR HO_445001.out) hb); have n1_ := aA (Kd.R_below (mR HO_445007.out) hb); have n2_ := aA (Kd.R_below (mR HO_445010.out) hb); have n3_ := aA (Kd.R_below (mR HO487.out) hb); have n4_ := aA (Kd.R_below (mR HO495.out) hb); have n5_ := aA (Kd.R_below (mR HO500.out) hb); have n6_ := aA (bB BK444.out hb); have n7_ := aA (below_step (mD1 GE444.out) hb); have n8_ := aA (hbox); have n9_ := aA ((bZ hg (mD1 GE444.out))); have n10_ := aA ((bZ hg (mD1 GE444.out))); have n11_ := aA ((bL hg BK444.out)); have n12_ := aA ((bG hg BK444.out)); clear HO_445001 HO_445007 HO_445010 HO487 HO495 HO500 BK444 HB; have HO_445001 := n0_; have HO_445007 := n1_; have HO_445010 := n2_; have HO487 := n3_; have HO495 := n4_; have HO500 := n5_; have BK444 := n6_; have HB := n7_; have BK502 := n8_; have GW502 := n9_; have GE502 := n10_; have NB444_502 := n11_; have NB502_444 := n12_; clear n0_ n1_ n2_ n3_ n4_ n5_ n6_ n7_ n8_ n9_ n10_ n11_ n12_ hb hbox hg; have hnb133 := NB502_444.out; have hnc133 := NB444_502.out; obtain ⟨hcz134_0, hcz134_1, hcz134_2, hcz134_3, hcz134_4, hcz134_5, hcz134_6, hcz134_7, hcz134_8, hcz134_9, hcz134_10⟩ := bC11 BK502.out; obtain ⟨hfz134_0, hfz134_1, hfz134_2, hfz134_3, hfz134_4, hfz134_5, hfz134_6, hfz134_7, hfz134_8, hfz134_9, hfz134_10⟩ := bF11 BK502.out; obtain ⟨Ao135, co135, eo135⟩ := Kd.R_slice HO487.out; subst eo135; obtain ⟨Ao136, co136, eo136⟩ := Kd.R_slice HO495.out; subst eo136; obtain ⟨Ao137, co137, eo137⟩ := Kd.R_slice HO500.out; subst eo137) | ((with_reducible refine gate_callee (f := 28) rfl ?_); refine goesL_ (some 52) rfl rfl Try.func28 (by kernel_rfl) rfl #[] rfl mS ?_; (with_reducible refine (foghornlaw17_alive.calls  false _ A118.out).mono ?_); rintro e w138 ⟨rfl, hb⟩; refine ⟨_, rfl, ?_⟩; have n0_ := aA (Kd.R_below (by (with_reducible repeat (first | apply Kd.R_alloc | apply Kd.R_drewN | apply Kd.R_drew)); exact (Kd.R_mono (rF 10 (rF 9 (rF 8 (rF 7 (rF 6 (rF 5 (rF 4 (rF 3 (rF 2 (rF 1 (rF 0 (Kd.R_types HO_445001.out BK502.out (by decide))))))))))))) (fun _ h_ => h_.1))) hb); have n1_ := aA (Kd.R_below (by (with_reducible repeat (first | apply Kd.R_alloc | apply Kd.R_drewN | apply Kd.R_drew)); exact (Kd.R_mono (rF 10 (rF 9 (rF 8 (rF 7 (rF 6 (rF 5 (rF 4 (rF 3 (rF 2 (rF 1 (rF 0 (Kd.R_types HO_445007.out BK502.out (by decide))))))))))))) (fun _ h_ => h_.1))) hb); have n2_ := aA (Kd.R_below (by (with_reducible repeat (first | apply Kd.R_alloc | apply Kd.R_drewN | apply Kd.R_drew)); exact (Kd.R_mono (rF 10 (rF 9 (rF 8 (rF 7 (rF 6 (rF 5 (rF 4 (rF 3 (rF 2 (rF 1 (rF 0 (Kd.R_types HO_445010.out BK502.out (by decide))))))))))))) (fun _ h_ => h_.1))) hb); have n3_ := aA (Kd.R_below (by (with_reducible repeat (first | apply Kd.R_alloc | apply Kd.R_drewN | apply Kd.R_drew)); exact (Kd.R_mono (rF 10 (rF 9 (rF 8 (rF 7 (rF 6 (rF 5 (rF 4 (rF 3 (rF 2 (rF 1 (rF 0 (Kd.R_types HO487.out BK502.out (by decide))))))))))))) (fun _ h_ => h_.1))) hb); have n4_ := aA (Kd.R_below (by (with_reducible repeat (first | apply Kd.R_alloc | apply Kd.R_drewN | apply Kd.R_drew)); exact (Kd.R_mono (rF 10 (rF 9 (rF 8 (rF 7 (rF 6 (rF 5 (rF 4 (rF 3 (rF 2 (rF 1 (rF 0 (Kd.R_types HO495.out BK502.out (by decide))))))))))))) (fun _ h_ => h_.1))) hb); have n5_ := aA (Kd.R_below (by (with_reducible repeat (first | apply Kd.R_alloc | apply Kd.R_drewN | apply Kd.R_drew)); exact (Kd.R_mono (rF 10 (rF 9 (rF 8 (rF 7 (rF 6 (rF 5 (rF 4 (rF 3 (rF 2 (rF 1 (rF 0 (Kd.R_types HO500.out BK502.out (by decide))))))))))))) (fun _ h_ => h_.1))) hb); have n6_ := aA (blk_below (g := gb444) (o := .cells #[.int .i64 t445, .slice Ao13 t446.length co13, .int .i64 t449, .int .i64 t450, .int .i64 t451, .int .i64 t452, .int .i64 t453, .slice Ao20 t454.length co20, .int .i64 t457, .int .i64 t458, .slice Ao24 t459.length co24] 50 (0, 0)) (by (with_reducible repeat (first | refine blk_drewN ?_ _ | refine blk_drew ?_ | refine blk_alloc ?_ _)); refine blk_far ?_ NB444_502.out _; (with_reducible repeat (first | refine blk_drewN ?_ _ | refine blk_drew ?_ | refine blk_alloc ?_ _)); refine blk_far ?_ NB444_502.out _; (with_reducible repeat (first | refine blk_drewN ?_ _ | refine blk_drew ?_ | refine blk_alloc ?_ _)); refine blk_far ?_ NB444_502.out _; (with_reducible repeat (first | refine blk_drewN ?_ _ | refine blk_drew ?_ | refine blk_alloc ?_ _)); refine blk_far ?_ NB444_502.out _; (with_reducible repeat (first | refine blk_drewN ?_ _ | refine blk_drew ?_ | refine blk_alloc ?_ _)); refine blk_far ?_ NB444_502.out _; (with_reducible repeat (first | refine blk_drewN ?_ _ | refine blk_drew ?_ | refine blk_alloc ?_ _)); refine blk_far ?_ NB444_502.out _; (with_reducible repeat (first | refine blk_drewN ?_ _ | refine blk_drew ?_ | refine blk_alloc ?_ _)); refine blk_far ?_ NB444_502.out _; (with_reducible repeat (first | refine blk_drewN ?_ _ | refine blk_drew ?_ | refine blk_alloc ?_ _)); refine blk_far ?_ NB444_502.out _; (with_reducible repeat (first | refine blk_drewN ?_ _ | refine blk_drew ?_ | refine blk_alloc ?_ _)); refine blk_far ?_ NB444_502.out _; (with_reducible repeat (first | refine blk_drewN ?_ _ | refine blk_drew ?_ | refine blk_alloc ?_ _)); refine blk_far ?_ NB444_502.out _; (with_reducible repeat (first | refine blk_drewN ?_ _ | refine blk_drew ?_ | refine blk_alloc ?_ _)); refine blk_far ?_ NB444_502.out _; (with_reducible repeat (first | refine blk_drewN ?_ _ | refine blk_drew ?_ | refine blk_alloc ?_ _)); exact BK444.out) hb); have n7_ := aA (blk_below (g := gb502) (o := .cells #[.int .i64 t484, .slice Ao135 t485.length co135, .int .i64 t488, .int .i64 t489, .int .i64 t490, .int .i64 t491, .int .i64 t492, .slice Ao136 t493.length co136, .int .i64 t496, .int .i64 t497, .slice Ao137 t498.length co137] 50 (0, 0)) (by (with_reducible repeat (first | refine blk_drewN ?_ _ | refine blk_drew ?_ | refine blk_alloc ?_ _)); have h_ := BK502.out; exact pK 10 (pK 9 (pK 8 (pK 7 (pK 6 (pK 5 (pK 4 (pK 3 (pK 2 (pK 1 (pK 0 (h_)))))))))))) hb); have n8_ := aA (below_step (mD2 GE444.out GE502.out) hb); clear HO_445001 HO_445007 HO_445010 HO487 HO495 HO500 BK444 BK502 HB; have HO_445001 := n0_; have HO_445007 := n1_; have HO_445010 := n2_; have HO487 := n3_; have HO495 := n4_; have HO500 := n5_; have BK444 := n6_; have BK502 := n7_; have HB := n8_; clear n0_ n1_ n2_ n3_ n4_ n5_ n6_ n7_ n8_; (try clear hb); (try clear hb2); (try clear hk); (try clear hi)))
       go_ret
       exact ⟨by first | rfl | (simp [errW_none, errW_some] <;> rfl) | (simp only [← hji4]; first | rfl | (simp [errW_none, errW_some] <;> rfl)) | (simp [*, errW_none, errW_some] <;> rfl), by repeat (first | (with_reducible first | exact HB.out | apply below_alloc | apply pw_below_drewN | apply below_drew1 | refine below_set ?_ GE444.out | refine below_set ?_ GE502.out) | exact HB.out)⟩
  ·rw [if_neg c6] at H
   exact absurd H (by simp)
 ·rw [if_neg c5] at H
  exact absurd H (by simp)
end Go.Proofs.YtndgollcganhmaaQ.P
namespace Go.Proofs.Ytndgollcganhmaa
open Go.RowKit Go.Proofs.YtndgollcganhmaaW.PrintWords Go.Proofs.YtndgollcganhmaaW.PrintMore
theorem w64 {x : Int} (h0 : -9223372036854775808 ≤ x) (h1 : x ≤ 9223372036854775807) : wrap64 x = x := by unfold wrap64; omega
theorem w64s {i : Nat} (h : i < 9223372036854775807) : wrap64 ((i : Int) + 1) = ((i + 1 : Nat) : Int) := by rw [w64 (by omega) (by omega)]; omega
theorem getD_cast {α : Type} {z : α} {xs : List α} {i : Nat} (h : i < xs.length) : xs.getD (i : Int).toNat z = xs[i] := by
  rw [List.getD_eq_getElem?_getD, Int.toNat_natCast, List.getElem?_eq_getElem h]
  rfl
theorem drop_cons {α : Type} {xs : List α} {i : Nat} (h : i < xs.length) : xs.drop i = xs[i] :: xs.drop (i + 1) := List.drop_eq_getElem_cons h
theorem drop_end {α : Type} {xs : List α} {i : Nat} (h : xs.length ≤ i) : xs.drop i = [] := List.drop_eq_nil_of_le h
theorem mn_eq (a b : Int) : mn a b = min a b := by unfold mn; omega
def cutB (n : Nat) (x : ByteArray) : ByteArray := x.extract 0 n
theorem cutB_size (n : Nat) (x : ByteArray) : (cutB n x).size = min n x.size := by
  unfold cutB
  rw [ByteArray.size_extract]
  omega
theorem cutB_mn (n : Nat) (m : Int) (x : ByteArray) (hm : m = n) : x.extract 0 (mn (x.size : Int) m).toNat = cutB n x := by
  subst hm
  unfold cutB
  rw [mn_eq]
  apply ByteArray.ext
  rw [ByteArray.data_extract, ByteArray.data_extract]
  rcases Nat.le_total x.size n with h | h
  · rw [show (min (x.size : Int) n).toNat = x.size by omega]
    rw [Array.extract_eq_self_of_le (show x.data.size ≤ x.size from Nat.le_refl _), Array.extract_eq_self_of_le (show x.data.size ≤ n from h)]
  · rw [show (min (x.size : Int) n).toNat = n by omega]
theorem take_mn {α : Type} (n : Nat) (m : Int) (xs : List α) (hm : m = n) : xs.take (mn (xs.length : Int) m).toNat = xs.take n := by
  subst hm
  rw [mn_eq]
  rcases Nat.le_total xs.length n with h | h
  · rw [List.take_of_length_le (by omega), List.take_of_length_le h]
  · rw [show (min (xs.length : Int) n).toNat = n by omega]
end Go.Proofs.Ytndgollcganhmaa
