/- Part 3 of a proof: contracts and plain laws of what the statement reaches. No condition. -/
import Derived.Deep.RegionHeld3
import Derived.Test.YtndgollcganhmaaCodeApartz1
import Derived.Test.YtndgollcganhmaaCodeApartz2
set_option linter.unusedVariables false
set_option linter.unusedSimpArgs false
namespace Go.Proofs.Ytndgollcganhmaa
open Go.RowKit
theorem tx_nil {l : List UInt8} (h : l.isEmpty = true) : (tx l).toList = [] := by
  cases l with
  | nil => rw [ByteArray.toList_eq]; rfl
  | cons a l => simp at h
theorem tx_cons {l : List UInt8} (h : l.isEmpty = false) : ¬ (tx l).toList = [] := by
  cases l with
  | nil => simp at h
  | cons a l => rw [ByteArray.toList_eq]; simp [tx]
theorem set_bel {B b j : Nat} {w W : World} {u : Value} (h : Below B w W) (hb : B ≤ b) : Below B w (W.setCell ⟨b, j, none⟩ u) := h.setCell (p := ⟨b, j, none⟩) hb u
def getE (s : Rst) (rb : Bool) (x y : Value) : Ending := if (s.2 || !s.1.isEmpty || !rb) = true then .returned (.tuple #[x, .int .i64 13]) else .returned (.tuple #[y, .int .i64 0])
theorem getE1 {s : Rst} {rb : Bool} {x y : Value} (h : s.2 = true) : .returned (.tuple #[x, .int .i64 13]) = getE s rb x y := by simp [getE, h]
theorem getE2 {s : Rst} {rb : Bool} {x y : Value} (h : s.1.isEmpty = false) : .returned (.tuple #[x, .int .i64 13]) = getE s rb x y := by simp [getE, h]
theorem getE3 {s : Rst} {x y : Value} : .returned (.tuple #[x, .int .i64 13]) = getE s false x y := by simp [getE]
theorem getE4 {s : Rst} {x y : Value} (h : s.2 = false) (h2 : s.1.isEmpty = true) : .returned (.tuple #[y, .int .i64 0]) = getE s true x y := by simp only [getE, h, h2]; rfl
section
variable (g : Nat)
set_option maxHeartbeats 8000000 in
set_option maxRecDepth 100000 in
theorem get0_any (a0 : ByteArray) (w : World) (hl : a0.data.toList.length ≤ 100000) (hkk : (numF (a0.data.toList, false)).1 ≠ 1 ∧ (numF (a0.data.toList, false)).1 ≠ 2 ∧ (numF (a0.data.toList, false)).1 ≠ 3) (rb : Bool)
    (HR : ∀ W, Calls Try.prog 26 #[.agg (recC (numF (a0.data.toList, false)).1 (.slice none 0 0) 0 0 0 0 0 (.slice none 0 0) 0 0 (.slice none 0 0))] W fun e w' => e = .returned (.bool rb) ∧ Below W.heap.size W w') :
    Calls Try.prog 30 #[.string a0] w fun e w' => e = getE (numF (a0.data.toList, false)).2 rb (.agg (recC 0 (.slice none 0 0) 0 0 0 0 0 (.slice none 0 0) 0 0 (.slice none 0 0))) (.agg (recC (numF (a0.data.toList, false)).1 (.slice none 0 0) 0 0 0 0 0 (.slice none 0 0) 0 0 (.slice none 0 0))) ∧ Below w.heap.size w w' := by
  have hl0 : (numF (a0.data.toList, false)).2.1.length ≤ a0.data.toList.length := numF_rest (a0.data.toList, false)
  have HN := Lib.hid fun W (h : FA (w.heap.size + 1) (a0.data.toList, false) W) => number_any (w.heap.size + 1) (a0.data.toList, false) W h hl
  obtain ⟨k, hk⟩ : ∃ q, q = (numF (a0.data.toList, false)).1 := ⟨_, rfl⟩
  obtain ⟨s0, hs0⟩ : ∃ q, q = (numF (a0.data.toList, false)).2 := ⟨_, rfl⟩
  rw [← hk, ← hs0] at HN
  rw [← hk] at hkk
  rw [← hs0] at hl0
  have HR := Lib.hid HR
  rw [← hk] at HR
  rw [← hk, ← hs0]
  unfold recC at *
  clear hk hs0
  go_enter Try.func30, Try.ntmps30
  go_wp2_with fail
  refine (HN.out _ ?_).mono ?_
  case refine_1 =>
    have := blk_new (w.alloc (.cells (recC 0 (.slice none 0 0) 0 0 0 0 0 (.slice none 0 0) 0 0 (.slice none 0 0)) 50)) (.cells #[.string a0, .bool false] 81)
    rw [size_alloc] at this
    unfold FA
    rw [tx_of]
    exact this
  rintro e w1 ⟨rfl, hp⟩
  have hZ := hp.stay (blk_new1 w (.cells (recC 0 (.slice none 0 0) 0 0 0 0 0 (.slice none 0 0) 0 0 (.slice none 0 0)) 50) (.cells #[.string a0, .bool false] 81)) (by omega)
  have hsz1 := hp.2.size
  simp only [size_alloc] at hsz1
  have HP1 := Lib.hid hp
  have HZ := Lib.hid hZ
  clear hp hZ HN
  have hbw : Below w.heap.size w w1 := ⟨HP1.out.2.os, HP1.out.2.tape, HP1.out.2.output, by omega, fun i hi => (HP1.out.2.block i (by simp only [size_alloc]; omega) (by simp; omega)).trans ((Lib.alloc_old _ _ _ (by rw [size_alloc]; omega)).trans (Lib.alloc_old _ _ _ hi))⟩
  have HX := Lib.hid (blk_new w1 (.cells (recC k (.slice none 0 0) 0 0 0 0 0 (.slice none 0 0) 0 0 (.slice none 0 0)) 50))
  have hZ := (Lib.alloc_old w1 (.cells (recC k (.slice none 0 0) 0 0 0 0 0 (.slice none 0 0) 0 0 (.slice none 0 0)) 50) _ (blk_lt HZ.out)).trans HZ.out
  have HF := Lib.hid (HP1.out.1.far (World.grownBy_alloc w1 (.cells (recC k (.slice none 0 0) 0 0 0 0 0 (.slice none 0 0) 0 0 (.slice none 0 0)) 50) none) (by simp))
  have HB := Lib.hid (hbw.alloc (by omega) (.cells (recC k (.slice none 0 0) 0 0 0 0 0 (.slice none 0 0) 0 0 (.slice none 0 0)) 50))
  clear HZ hbw
  have HZ := Lib.hid hZ
  unfold recC at *
  clear hZ HP1
  go_upto_region 4 with fail
  refine name_world (fun W hW => ?_)
  rw [← hW] at HX HZ HF HB
  clear hW
  obtain ⟨r, hr⟩ : ∃ r, r = w1.heap.size := ⟨_, rfl⟩
  simp only [← hr]
  rw [← hr] at HX hsz1
  clear hr
  have k1 : ((k : Int) == 1) = false := by simp; omega
  have k2 : ((k : Int) == 2) = false := by simp; omega
  have k3 : ((k : Int) == 3) = false := by simp; omega
  have cg0 : W.cell? ⟨w.heap.size + 1, 0, none⟩ = some (.string (tx s0.1)) := blk_cell HF.out rfl
  have cg1 : W.cell? ⟨w.heap.size + 1, 1, none⟩ = some (.bool s0.2) := blk_cell HF.out rfl
  have hgW := blk_lt HF.out
  have zf := fun j => Lib.frozen_of_heap HZ.out j
  have z0 : W.cell? ⟨w.heap.size, 0, none⟩ = some (.int .i64 0) := blk_cell HZ.out rfl
  have z1 : W.cell? ⟨w.heap.size, 1, none⟩ = some (.slice none 0 0) := blk_cell HZ.out rfl
  have z2 : W.cell? ⟨w.heap.size, 2, none⟩ = some (.int .i64 0) := blk_cell HZ.out rfl
  have z3 : W.cell? ⟨w.heap.size, 3, none⟩ = some (.int .i64 0) := blk_cell HZ.out rfl
  have z4 : W.cell? ⟨w.heap.size, 4, none⟩ = some (.int .i64 0) := blk_cell HZ.out rfl
  have z5 : W.cell? ⟨w.heap.size, 5, none⟩ = some (.int .i64 0) := blk_cell HZ.out rfl
  have z6 : W.cell? ⟨w.heap.size, 6, none⟩ = some (.int .i64 0) := blk_cell HZ.out rfl
  have z7 : W.cell? ⟨w.heap.size, 7, none⟩ = some (.slice none 0 0) := blk_cell HZ.out rfl
  have z8 : W.cell? ⟨w.heap.size, 8, none⟩ = some (.int .i64 0) := blk_cell HZ.out rfl
  have z9 : W.cell? ⟨w.heap.size, 9, none⟩ = some (.int .i64 0) := blk_cell HZ.out rfl
  have z10 : W.cell? ⟨w.heap.size, 10, none⟩ = some (.slice none 0 0) := blk_cell HZ.out rfl
  have x0 : W.cell? ⟨r, 0, none⟩ = some (.int .i64 k) := blk_cell HX.out rfl
  have x1 : W.cell? ⟨r, 1, none⟩ = some (.slice none 0 0) := blk_cell HX.out rfl
  have x2 : W.cell? ⟨r, 2, none⟩ = some (.int .i64 0) := blk_cell HX.out rfl
  have x3 : W.cell? ⟨r, 3, none⟩ = some (.int .i64 0) := blk_cell HX.out rfl
  have x4 : W.cell? ⟨r, 4, none⟩ = some (.int .i64 0) := blk_cell HX.out rfl
  have x5 : W.cell? ⟨r, 5, none⟩ = some (.int .i64 0) := blk_cell HX.out rfl
  have x6 : W.cell? ⟨r, 6, none⟩ = some (.int .i64 0) := blk_cell HX.out rfl
  have x7 : W.cell? ⟨r, 7, none⟩ = some (.slice none 0 0) := blk_cell HX.out rfl
  have x8 : W.cell? ⟨r, 8, none⟩ = some (.int .i64 0) := blk_cell HX.out rfl
  have x9 : W.cell? ⟨r, 9, none⟩ = some (.int .i64 0) := blk_cell HX.out rfl
  have x10 : W.cell? ⟨r, 10, none⟩ = some (.slice none 0 0) := blk_cell HX.out rfl
  rcases Bool.eq_false_or_eq_true s0.2 with hb | hb
  · rw [hb] at cg1
    go_wp2_with fail
    refine bodyPost_ret (v := .tuple #[.agg #[.int .i64 0, .slice none 0 0, .int .i64 0, .int .i64 0, .int .i64 0, .int .i64 0, .int .i64 0, .slice none 0 0, .int .i64 0, .int .i64 0, .slice none 0 0], .int .i64 13]) ?_ rfl ?_
    · simp [results, Try.results30, go_sem, z0, z1, z2, z3, z4, z5, z6, z7, z8, z9, z10]
    · exact ⟨getE1 hb, by (with_reducible (repeat (refine set_bel ?_ (Nat.le_refl _)))); exact HB.out⟩
  · rw [hb] at cg1
    rcases Bool.eq_false_or_eq_true s0.1.isEmpty with he | he
    · have hne2 := tx_nil he
      go_wp2_with fail
      refine (HR.out _).mono ?_
      rintro e w9 ⟨rfl, hbR⟩
      have HZ9 := Lib.hid ((hbR.block _ (blk_lt HZ.out)).trans HZ.out)
      have HX9 := Lib.hid ((hbR.block _ (blk_lt HX.out)).trans HX.out)
      have hsz9 := hbR.size
      have HB9 := Lib.hid (HB.out.trans (hbR.mono HB.out.size))
      clear z0 z1 z2 z3 z4 z5 z6 z7 z8 z9 z10 x0 x1 x2 x3 x4 x5 x6 x7 x8 x9 x10
      clear hbR zf
      have zf := fun j => Lib.frozen_of_heap HZ9.out j
      have z0 : w9.cell? ⟨w.heap.size, 0, none⟩ = some (.int .i64 0) := blk_cell HZ9.out rfl
      have z1 : w9.cell? ⟨w.heap.size, 1, none⟩ = some (.slice none 0 0) := blk_cell HZ9.out rfl
      have z2 : w9.cell? ⟨w.heap.size, 2, none⟩ = some (.int .i64 0) := blk_cell HZ9.out rfl
      have z3 : w9.cell? ⟨w.heap.size, 3, none⟩ = some (.int .i64 0) := blk_cell HZ9.out rfl
      have z4 : w9.cell? ⟨w.heap.size, 4, none⟩ = some (.int .i64 0) := blk_cell HZ9.out rfl
      have z5 : w9.cell? ⟨w.heap.size, 5, none⟩ = some (.int .i64 0) := blk_cell HZ9.out rfl
      have z6 : w9.cell? ⟨w.heap.size, 6, none⟩ = some (.int .i64 0) := blk_cell HZ9.out rfl
      have z7 : w9.cell? ⟨w.heap.size, 7, none⟩ = some (.slice none 0 0) := blk_cell HZ9.out rfl
      have z8 : w9.cell? ⟨w.heap.size, 8, none⟩ = some (.int .i64 0) := blk_cell HZ9.out rfl
      have z9 : w9.cell? ⟨w.heap.size, 9, none⟩ = some (.int .i64 0) := blk_cell HZ9.out rfl
      have z10 : w9.cell? ⟨w.heap.size, 10, none⟩ = some (.slice none 0 0) := blk_cell HZ9.out rfl
      have x0 : w9.cell? ⟨r, 0, none⟩ = some (.int .i64 k) := blk_cell HX9.out rfl
      have x1 : w9.cell? ⟨r, 1, none⟩ = some (.slice none 0 0) := blk_cell HX9.out rfl
      have x2 : w9.cell? ⟨r, 2, none⟩ = some (.int .i64 0) := blk_cell HX9.out rfl
      have x3 : w9.cell? ⟨r, 3, none⟩ = some (.int .i64 0) := blk_cell HX9.out rfl
      have x4 : w9.cell? ⟨r, 4, none⟩ = some (.int .i64 0) := blk_cell HX9.out rfl
      have x5 : w9.cell? ⟨r, 5, none⟩ = some (.int .i64 0) := blk_cell HX9.out rfl
      have x6 : w9.cell? ⟨r, 6, none⟩ = some (.int .i64 0) := blk_cell HX9.out rfl
      have x7 : w9.cell? ⟨r, 7, none⟩ = some (.slice none 0 0) := blk_cell HX9.out rfl
      have x8 : w9.cell? ⟨r, 8, none⟩ = some (.int .i64 0) := blk_cell HX9.out rfl
      have x9 : w9.cell? ⟨r, 9, none⟩ = some (.int .i64 0) := blk_cell HX9.out rfl
      have x10 : w9.cell? ⟨r, 10, none⟩ = some (.slice none 0 0) := blk_cell HX9.out rfl
      cases rb
      · skip
        go_wp2_with fail
        refine bodyPost_ret (v := .tuple #[.agg #[.int .i64 0, .slice none 0 0, .int .i64 0, .int .i64 0, .int .i64 0, .int .i64 0, .int .i64 0, .slice none 0 0, .int .i64 0, .int .i64 0, .slice none 0 0], .int .i64 13]) ?_ rfl ?_
        · simp [results, Try.results30, go_sem, z0, z1, z2, z3, z4, z5, z6, z7, z8, z9, z10]
        · exact ⟨getE3, by (with_reducible (repeat (refine set_bel ?_ (Nat.le_refl _)))); exact HB9.out⟩
      · skip
        go_wp2_with fail
        refine bodyPost_ret (v := .tuple #[.agg #[.int .i64 k, .slice none 0 0, .int .i64 0, .int .i64 0, .int .i64 0, .int .i64 0, .int .i64 0, .slice none 0 0, .int .i64 0, .int .i64 0, .slice none 0 0], .int .i64 0]) ?_ rfl ?_
        · simp [results, Try.results30, go_sem, z0, z1, z2, z3, z4, z5, z6, z7, z8, z9, z10, x0, x1, x2, x3, x4, x5, x6, x7, x8, x9, x10]
        · exact ⟨getE4 hb he, by (with_reducible (repeat (refine set_bel ?_ (Nat.le_refl _)))); exact HB9.out⟩
    · have hne2 := tx_cons he
      go_wp2_with fail
      refine bodyPost_ret (v := .tuple #[.agg #[.int .i64 0, .slice none 0 0, .int .i64 0, .int .i64 0, .int .i64 0, .int .i64 0, .int .i64 0, .slice none 0 0, .int .i64 0, .int .i64 0, .slice none 0 0], .int .i64 13]) ?_ rfl ?_
      · simp [results, Try.results30, go_sem, z0, z1, z2, z3, z4, z5, z6, z7, z8, z9, z10]
      · exact ⟨getE2 he, by (with_reducible (repeat (refine set_bel ?_ (Nat.le_refl _)))); exact HB.out⟩
set_option maxHeartbeats 8000000 in
set_option maxRecDepth 100000 in
theorem get2_any (a0 : ByteArray) (w : World) (hl : a0.data.toList.length ≤ 100000) (hkk : (numF (a0.data.toList, false)).1 = 2) (rb : Bool)
    (HR : ∀ W A c, W.ownsRow w.heap.size 41 2 (.slice A (labsF (numF (numF (a0.data.toList, false)).2).1 [] (numF (numF (a0.data.toList, false)).2).2).1.length c) (labsF (numF (numF (a0.data.toList, false)).2).1 [] (numF (numF (a0.data.toList, false)).2).2).1.length (labsC (labsF (numF (numF (a0.data.toList, false)).2).1 [] (numF (numF (a0.data.toList, false)).2).2).1) → Calls Try.prog 26 #[.agg (recC 2 (.slice none 0 0) 0 0 0 0 0 (.slice A (labsF (numF (numF (a0.data.toList, false)).2).1 [] (numF (numF (a0.data.toList, false)).2).2).1.length c) 0 0 (.slice none 0 0))] W fun e w' => e = .returned (.bool rb) ∧ Below W.heap.size W w') :
    Calls Try.prog 30 #[.string a0] w fun e w' => ∃ A c, e = getE (labsF (numF (numF (a0.data.toList, false)).2).1 [] (numF (numF (a0.data.toList, false)).2).2).2 rb (.agg (recC 0 (.slice none 0 0) 0 0 0 0 0 (.slice none 0 0) 0 0 (.slice none 0 0))) (.agg (recC 2 (.slice none 0 0) 0 0 0 0 0 (.slice A (labsF (numF (numF (a0.data.toList, false)).2).1 [] (numF (numF (a0.data.toList, false)).2).2).1.length c) 0 0 (.slice none 0 0))) ∧ Hid (w'.ownsRow w.heap.size 41 2 (.slice A (labsF (numF (numF (a0.data.toList, false)).2).1 [] (numF (numF (a0.data.toList, false)).2).2).1.length c) (labsF (numF (numF (a0.data.toList, false)).2).1 [] (numF (numF (a0.data.toList, false)).2).2).1.length (labsC (labsF (numF (numF (a0.data.toList, false)).2).1 [] (numF (numF (a0.data.toList, false)).2).2).1)) ∧ Below w.heap.size w w' := by
  have hl0 : (numF (a0.data.toList, false)).2.1.length ≤ a0.data.toList.length := numF_rest (a0.data.toList, false)
  have HN := Lib.hid fun W (h : FA (w.heap.size + 1) (a0.data.toList, false) W) => number_any (w.heap.size + 1) (a0.data.toList, false) W h hl
  rw [hkk] at HN
  obtain ⟨s0, hs0⟩ : ∃ q, q = (numF (a0.data.toList, false)).2 := ⟨_, rfl⟩
  rw [← hs0] at HN HR hl0
  rw [← hs0]
  have HL := Lib.hid fun W (h : FA (w.heap.size + 1) s0 W) => flabels_any (w.heap.size + 1) s0 W h (by omega)
  obtain ⟨L, hL⟩ : ∃ q, q = (labsF (numF s0).1 [] (numF s0).2).1 := ⟨_, rfl⟩
  obtain ⟨s, hs⟩ : ∃ q, q = (labsF (numF s0).1 [] (numF s0).2).2 := ⟨_, rfl⟩
  rw [← hL] at HR
  rw [← hL, ← hs] at HL
  rw [← hL, ← hs]
  have HR := Lib.hid HR
  clear hkk hL hs
  unfold recC at *
  clear hs0
  go_enter Try.func30, Try.ntmps30
  go_wp2_with fail
  refine (HN.out _ ?_).mono ?_
  case refine_1 =>
    have := blk_new (w.alloc (.cells (recC 0 (.slice none 0 0) 0 0 0 0 0 (.slice none 0 0) 0 0 (.slice none 0 0)) 50)) (.cells #[.string a0, .bool false] 81)
    rw [size_alloc] at this
    unfold FA
    rw [tx_of]
    exact this
  rintro e w1 ⟨rfl, hp⟩
  have hZ := hp.stay (blk_new1 w (.cells (recC 0 (.slice none 0 0) 0 0 0 0 0 (.slice none 0 0) 0 0 (.slice none 0 0)) 50) (.cells #[.string a0, .bool false] 81)) (by omega)
  have hsz1 := hp.2.size
  simp only [size_alloc] at hsz1
  have HP1 := Lib.hid hp
  have HZ := Lib.hid hZ
  clear hp hZ HN
  have hbw : Below w.heap.size w w1 := ⟨HP1.out.2.os, HP1.out.2.tape, HP1.out.2.output, by omega, fun i hi => (HP1.out.2.block i (by simp only [size_alloc]; omega) (by simp; omega)).trans ((Lib.alloc_old _ _ _ (by rw [size_alloc]; omega)).trans (Lib.alloc_old _ _ _ hi))⟩
  have HX := Lib.hid (blk_new w1 (.cells (recC 2 (.slice none 0 0) 0 0 0 0 0 (.slice none 0 0) 0 0 (.slice none 0 0)) 50))
  have hZ := (Lib.alloc_old w1 (.cells (recC 2 (.slice none 0 0) 0 0 0 0 0 (.slice none 0 0) 0 0 (.slice none 0 0)) 50) _ (blk_lt HZ.out)).trans HZ.out
  have HF := Lib.hid (HP1.out.1.far (World.grownBy_alloc w1 (.cells (recC 2 (.slice none 0 0) 0 0 0 0 0 (.slice none 0 0) 0 0 (.slice none 0 0)) 50) none) (by simp))
  have HB := Lib.hid (hbw.alloc (by omega) (.cells (recC 2 (.slice none 0 0) 0 0 0 0 0 (.slice none 0 0) 0 0 (.slice none 0 0)) 50))
  clear HZ hbw
  have HZ := Lib.hid hZ
  unfold recC at *
  clear hZ HP1
  go_upto_region 4 with fail
  refine name_world (fun W hW => ?_)
  rw [← hW] at HX HZ HF HB
  clear hW
  obtain ⟨r, hr⟩ : ∃ r, r = w1.heap.size := ⟨_, rfl⟩
  simp only [← hr]
  rw [← hr] at HX hsz1
  clear hr
  go_wp2_with fail
  refine (HL.out W HF.out).mono ?_
  rintro e W1 ⟨v, rfl, HO, hp⟩
  have HO := Lib.hid (row_mono HO.out HB.out.size)
  have hZ := hp.stay HZ.out (by omega)
  have hX := hp.stay HX.out (by omega)
  have hzr := row_type HO.out hZ (by decide)
  have hxr := row_type HO.out hX (by decide)
  have hB := HB.out.grown hp.2 HB.out.size (fun k e => by obtain rfl := Option.some.inj e; omega)
  have xf := fun j => Lib.frozen_of_heap hX j
  have x7 := blk_cell hX (j := 7) rfl
  obtain ⟨A, c, rfl⟩ := row_form HO.out
  have HX1 := Lib.hid hX
  have HZ1 := Lib.hid hZ
  have HB1 := Lib.hid hB
  have HP1 := Lib.hid hp
  clear hX hZ hB hp HX HZ HB HF
  go_upto_region 17 with fail
  have HX := Lib.hid (set_heap (j := 7) HX1.out (.slice A L.length c))
  have HZ := Lib.hid ((Below.heap_setCell W1 ⟨r, 7, none⟩ (.slice A L.length c) w.heap.size (fun e => by have : w.heap.size = r := e; omega)).trans HZ1.out)
  have HF := Lib.hid (show FA (w.heap.size + 1) s (W1.setCell ⟨r, 7, none⟩ (.slice A L.length c)) from (Below.heap_setCell W1 ⟨r, 7, none⟩ (.slice A L.length c) (w.heap.size + 1) (fun e => by have : w.heap.size + 1 = r := e; omega)).trans HP1.out.1)
  have HB := Lib.hid (set_bel (j := 7) (u := .slice A L.length c) HB1.out (show w.heap.size ≤ r by omega))
  have HO := Lib.hid (row_set (j := 7) HO.out hxr (.slice A L.length c))
  clear HX1 HZ1 HB1 HP1 hxr
  refine name_world (fun W2 hW => ?_)
  rw [← hW] at HX HZ HF HB HO
  clear hW
  have cg0 : W2.cell? ⟨w.heap.size + 1, 0, none⟩ = some (.string (tx s.1)) := blk_cell HF.out rfl
  have cg1 : W2.cell? ⟨w.heap.size + 1, 1, none⟩ = some (.bool s.2) := blk_cell HF.out rfl
  have hgW := blk_lt HF.out
  have zf := fun j => Lib.frozen_of_heap HZ.out j
  have z0 : W2.cell? ⟨w.heap.size, 0, none⟩ = some (.int .i64 0) := blk_cell HZ.out rfl
  have z1 : W2.cell? ⟨w.heap.size, 1, none⟩ = some (.slice none 0 0) := blk_cell HZ.out rfl
  have z2 : W2.cell? ⟨w.heap.size, 2, none⟩ = some (.int .i64 0) := blk_cell HZ.out rfl
  have z3 : W2.cell? ⟨w.heap.size, 3, none⟩ = some (.int .i64 0) := blk_cell HZ.out rfl
  have z4 : W2.cell? ⟨w.heap.size, 4, none⟩ = some (.int .i64 0) := blk_cell HZ.out rfl
  have z5 : W2.cell? ⟨w.heap.size, 5, none⟩ = some (.int .i64 0) := blk_cell HZ.out rfl
  have z6 : W2.cell? ⟨w.heap.size, 6, none⟩ = some (.int .i64 0) := blk_cell HZ.out rfl
  have z7 : W2.cell? ⟨w.heap.size, 7, none⟩ = some (.slice none 0 0) := blk_cell HZ.out rfl
  have z8 : W2.cell? ⟨w.heap.size, 8, none⟩ = some (.int .i64 0) := blk_cell HZ.out rfl
  have z9 : W2.cell? ⟨w.heap.size, 9, none⟩ = some (.int .i64 0) := blk_cell HZ.out rfl
  have z10 : W2.cell? ⟨w.heap.size, 10, none⟩ = some (.slice none 0 0) := blk_cell HZ.out rfl
  have x0 : W2.cell? ⟨r, 0, none⟩ = some (.int .i64 2) := blk_cell HX.out rfl
  have x1 : W2.cell? ⟨r, 1, none⟩ = some (.slice none 0 0) := blk_cell HX.out rfl
  have x2 : W2.cell? ⟨r, 2, none⟩ = some (.int .i64 0) := blk_cell HX.out rfl
  have x3 : W2.cell? ⟨r, 3, none⟩ = some (.int .i64 0) := blk_cell HX.out rfl
  have x4 : W2.cell? ⟨r, 4, none⟩ = some (.int .i64 0) := blk_cell HX.out rfl
  have x5 : W2.cell? ⟨r, 5, none⟩ = some (.int .i64 0) := blk_cell HX.out rfl
  have x6 : W2.cell? ⟨r, 6, none⟩ = some (.int .i64 0) := blk_cell HX.out rfl
  have x7 : W2.cell? ⟨r, 7, none⟩ = some (.slice A L.length c) := blk_cell HX.out rfl
  have x8 : W2.cell? ⟨r, 8, none⟩ = some (.int .i64 0) := blk_cell HX.out rfl
  have x9 : W2.cell? ⟨r, 9, none⟩ = some (.int .i64 0) := blk_cell HX.out rfl
  have x10 : W2.cell? ⟨r, 10, none⟩ = some (.slice none 0 0) := blk_cell HX.out rfl
  rcases Bool.eq_false_or_eq_true s.2 with hb | hb
  · rw [hb] at cg1
    go_wp2_with fail
    refine bodyPost_ret (v := .tuple #[.agg #[.int .i64 0, .slice none 0 0, .int .i64 0, .int .i64 0, .int .i64 0, .int .i64 0, .int .i64 0, .slice none 0 0, .int .i64 0, .int .i64 0, .slice none 0 0], .int .i64 13]) ?_ rfl ?_
    · simp [results, Try.results30, go_sem, z0, z1, z2, z3, z4, z5, z6, z7, z8, z9, z10]
    · exact ⟨_, _, getE1 hb, Lib.hid (by (with_reducible (repeat (refine row_set ?_ hzr _))); exact HO.out), by (with_reducible (repeat (refine set_bel ?_ (Nat.le_refl _)))); exact HB.out⟩
  · rw [hb] at cg1
    rcases Bool.eq_false_or_eq_true s.1.isEmpty with he | he
    · have hne2 := tx_nil he
      go_wp2_with fail
      refine (HR.out W2 A c HO.out).mono ?_
      rintro e w9 ⟨rfl, hbR⟩
      have HZ9 := Lib.hid ((hbR.block _ (blk_lt HZ.out)).trans HZ.out)
      have HX9 := Lib.hid ((hbR.block _ (blk_lt HX.out)).trans HX.out)
      have hsz9 := hbR.size
      have HO9 := Lib.hid (row_bel HO.out hbR)
      have HB9 := Lib.hid (HB.out.trans (hbR.mono HB.out.size))
      clear z0 z1 z2 z3 z4 z5 z6 z7 z8 z9 z10 x0 x1 x2 x3 x4 x5 x6 x7 x8 x9 x10
      clear hbR zf
      have zf := fun j => Lib.frozen_of_heap HZ9.out j
      have z0 : w9.cell? ⟨w.heap.size, 0, none⟩ = some (.int .i64 0) := blk_cell HZ9.out rfl
      have z1 : w9.cell? ⟨w.heap.size, 1, none⟩ = some (.slice none 0 0) := blk_cell HZ9.out rfl
      have z2 : w9.cell? ⟨w.heap.size, 2, none⟩ = some (.int .i64 0) := blk_cell HZ9.out rfl
      have z3 : w9.cell? ⟨w.heap.size, 3, none⟩ = some (.int .i64 0) := blk_cell HZ9.out rfl
      have z4 : w9.cell? ⟨w.heap.size, 4, none⟩ = some (.int .i64 0) := blk_cell HZ9.out rfl
      have z5 : w9.cell? ⟨w.heap.size, 5, none⟩ = some (.int .i64 0) := blk_cell HZ9.out rfl
      have z6 : w9.cell? ⟨w.heap.size, 6, none⟩ = some (.int .i64 0) := blk_cell HZ9.out rfl
      have z7 : w9.cell? ⟨w.heap.size, 7, none⟩ = some (.slice none 0 0) := blk_cell HZ9.out rfl
      have z8 : w9.cell? ⟨w.heap.size, 8, none⟩ = some (.int .i64 0) := blk_cell HZ9.out rfl
      have z9 : w9.cell? ⟨w.heap.size, 9, none⟩ = some (.int .i64 0) := blk_cell HZ9.out rfl
      have z10 : w9.cell? ⟨w.heap.size, 10, none⟩ = some (.slice none 0 0) := blk_cell HZ9.out rfl
      have x0 : w9.cell? ⟨r, 0, none⟩ = some (.int .i64 2) := blk_cell HX9.out rfl
      have x1 : w9.cell? ⟨r, 1, none⟩ = some (.slice none 0 0) := blk_cell HX9.out rfl
      have x2 : w9.cell? ⟨r, 2, none⟩ = some (.int .i64 0) := blk_cell HX9.out rfl
      have x3 : w9.cell? ⟨r, 3, none⟩ = some (.int .i64 0) := blk_cell HX9.out rfl
      have x4 : w9.cell? ⟨r, 4, none⟩ = some (.int .i64 0) := blk_cell HX9.out rfl
      have x5 : w9.cell? ⟨r, 5, none⟩ = some (.int .i64 0) := blk_cell HX9.out rfl
      have x6 : w9.cell? ⟨r, 6, none⟩ = some (.int .i64 0) := blk_cell HX9.out rfl
      have x7 : w9.cell? ⟨r, 7, none⟩ = some (.slice A L.length c) := blk_cell HX9.out rfl
      have x8 : w9.cell? ⟨r, 8, none⟩ = some (.int .i64 0) := blk_cell HX9.out rfl
      have x9 : w9.cell? ⟨r, 9, none⟩ = some (.int .i64 0) := blk_cell HX9.out rfl
      have x10 : w9.cell? ⟨r, 10, none⟩ = some (.slice none 0 0) := blk_cell HX9.out rfl
      cases rb
      · skip
        go_wp2_with fail
        refine bodyPost_ret (v := .tuple #[.agg #[.int .i64 0, .slice none 0 0, .int .i64 0, .int .i64 0, .int .i64 0, .int .i64 0, .int .i64 0, .slice none 0 0, .int .i64 0, .int .i64 0, .slice none 0 0], .int .i64 13]) ?_ rfl ?_
        · simp [results, Try.results30, go_sem, z0, z1, z2, z3, z4, z5, z6, z7, z8, z9, z10]
        · exact ⟨_, _, getE3, Lib.hid (by (with_reducible (repeat (refine row_set ?_ hzr _))); exact HO9.out), by (with_reducible (repeat (refine set_bel ?_ (Nat.le_refl _)))); exact HB9.out⟩
      · skip
        go_wp2_with fail
        refine bodyPost_ret (v := .tuple #[.agg #[.int .i64 2, .slice none 0 0, .int .i64 0, .int .i64 0, .int .i64 0, .int .i64 0, .int .i64 0, .slice A L.length c, .int .i64 0, .int .i64 0, .slice none 0 0], .int .i64 0]) ?_ rfl ?_
        · simp [results, Try.results30, go_sem, z0, z1, z2, z3, z4, z5, z6, z7, z8, z9, z10, x0, x1, x2, x3, x4, x5, x6, x7, x8, x9, x10]
        · exact ⟨_, _, getE4 hb he, Lib.hid (by (with_reducible (repeat (refine row_set ?_ hzr _))); exact HO9.out), by (with_reducible (repeat (refine set_bel ?_ (Nat.le_refl _)))); exact HB9.out⟩
    · have hne2 := tx_cons he
      go_wp2_with fail
      refine bodyPost_ret (v := .tuple #[.agg #[.int .i64 0, .slice none 0 0, .int .i64 0, .int .i64 0, .int .i64 0, .int .i64 0, .int .i64 0, .slice none 0 0, .int .i64 0, .int .i64 0, .slice none 0 0], .int .i64 13]) ?_ rfl ?_
      · simp [results, Try.results30, go_sem, z0, z1, z2, z3, z4, z5, z6, z7, z8, z9, z10]
      · exact ⟨_, _, getE2 he, Lib.hid (by (with_reducible (repeat (refine row_set ?_ hzr _))); exact HO.out), by (with_reducible (repeat (refine set_bel ?_ (Nat.le_refl _)))); exact HB.out⟩
set_option maxHeartbeats 8000000 in
set_option maxRecDepth 100000 in
theorem get3_any (a0 : ByteArray) (w : World) (hl : a0.data.toList.length ≤ 100000) (hkk : (numF (a0.data.toList, false)).1 = 3) (s0 : Rst) (hs0 : s0 = (numF (a0.data.toList, false)).2)
    (fr tt : Nat) (hfr : fr = (timeF 6 0 s0).1) (htt : tt = (timeF 6 0 (timeF 6 0 s0).2).1) (L : List Mat) (s : Rst) (hL : (L, s) = matsF (numF (timeF 6 0 (timeF 6 0 s0).2).2).1 [] (numF (timeF 6 0 (timeF 6 0 s0).2).2).2) (rb : Bool)
    (HR : ∀ W A c, W.ownsRow w.heap.size 35 3 (.slice A L.length c) L.length (matsC L) → Calls Try.prog 26 #[.agg (recC 3 (.slice none 0 0) 0 0 0 0 0 (.slice none 0 0) fr tt (.slice A L.length c))] W fun e w' => e = .returned (.bool rb) ∧ Below W.heap.size W w') :
    Calls Try.prog 30 #[.string a0] w fun e w' => ∃ A c, e = getE s rb (.agg (recC 0 (.slice none 0 0) 0 0 0 0 0 (.slice none 0 0) 0 0 (.slice none 0 0))) (.agg (recC 3 (.slice none 0 0) 0 0 0 0 0 (.slice none 0 0) fr tt (.slice A L.length c))) ∧ Hid (w'.ownsRow w.heap.size 35 3 (.slice A L.length c) L.length (matsC L)) ∧ Below w.heap.size w w' := by
  have hl0 : (numF (a0.data.toList, false)).2.1.length ≤ a0.data.toList.length := numF_rest (a0.data.toList, false)
  have HN := Lib.hid fun W (h : FA (w.heap.size + 1) (a0.data.toList, false) W) => number_any (w.heap.size + 1) (a0.data.toList, false) W h hl
  rw [hkk] at HN
  rw [← hs0] at HN hl0
  have HL := Lib.hid fun W (h : FA (w.heap.size + 1) s0 W) => fhush_any (w.heap.size + 1) s0 W h (by omega)
  rw [← hL, ← hfr, ← htt] at HL
  have HR := Lib.hid HR
  clear hkk hL hfr htt
  unfold recC at *
  clear hs0
  go_enter Try.func30, Try.ntmps30
  go_wp2_with fail
  refine (HN.out _ ?_).mono ?_
  case refine_1 =>
    have := blk_new (w.alloc (.cells (recC 0 (.slice none 0 0) 0 0 0 0 0 (.slice none 0 0) 0 0 (.slice none 0 0)) 50)) (.cells #[.string a0, .bool false] 81)
    rw [size_alloc] at this
    unfold FA
    rw [tx_of]
    exact this
  rintro e w1 ⟨rfl, hp⟩
  have hZ := hp.stay (blk_new1 w (.cells (recC 0 (.slice none 0 0) 0 0 0 0 0 (.slice none 0 0) 0 0 (.slice none 0 0)) 50) (.cells #[.string a0, .bool false] 81)) (by omega)
  have hsz1 := hp.2.size
  simp only [size_alloc] at hsz1
  have HP1 := Lib.hid hp
  have HZ := Lib.hid hZ
  clear hp hZ HN
  have hbw : Below w.heap.size w w1 := ⟨HP1.out.2.os, HP1.out.2.tape, HP1.out.2.output, by omega, fun i hi => (HP1.out.2.block i (by simp only [size_alloc]; omega) (by simp; omega)).trans ((Lib.alloc_old _ _ _ (by rw [size_alloc]; omega)).trans (Lib.alloc_old _ _ _ hi))⟩
  have HX := Lib.hid (blk_new w1 (.cells (recC 3 (.slice none 0 0) 0 0 0 0 0 (.slice none 0 0) 0 0 (.slice none 0 0)) 50))
  have hZ := (Lib.alloc_old w1 (.cells (recC 3 (.slice none 0 0) 0 0 0 0 0 (.slice none 0 0) 0 0 (.slice none 0 0)) 50) _ (blk_lt HZ.out)).trans HZ.out
  have HF := Lib.hid (HP1.out.1.far (World.grownBy_alloc w1 (.cells (recC 3 (.slice none 0 0) 0 0 0 0 0 (.slice none 0 0) 0 0 (.slice none 0 0)) 50) none) (by simp))
  have HB := Lib.hid (hbw.alloc (by omega) (.cells (recC 3 (.slice none 0 0) 0 0 0 0 0 (.slice none 0 0) 0 0 (.slice none 0 0)) 50))
  clear HZ hbw
  have HZ := Lib.hid hZ
  unfold recC at *
  clear hZ HP1
  go_upto_region 4 with fail
  refine name_world (fun W hW => ?_)
  rw [← hW] at HX HZ HF HB
  clear hW
  obtain ⟨r, hr⟩ : ∃ r, r = w1.heap.size := ⟨_, rfl⟩
  simp only [← hr]
  rw [← hr] at HX hsz1
  clear hr
  go_wp2_with fail
  refine (HL.out W HF.out).mono ?_
  rintro e W1 ⟨v, rfl, HO, hp⟩
  have HO := Lib.hid (row_mono HO.out HB.out.size)
  have hZ := hp.stay HZ.out (by omega)
  have hX := hp.stay HX.out (by omega)
  have hzr := row_type HO.out hZ (by decide)
  have hxr := row_type HO.out hX (by decide)
  have hB := HB.out.grown hp.2 HB.out.size (fun k e => by obtain rfl := Option.some.inj e; omega)
  have xf := fun j => Lib.frozen_of_heap hX j
  have x8 := blk_cell hX (j := 8) rfl
  have x9 := blk_cell hX (j := 9) rfl
  have x10 := blk_cell hX (j := 10) rfl
  obtain ⟨A, c, rfl⟩ := row_form HO.out
  have HX1 := Lib.hid hX
  have HZ1 := Lib.hid hZ
  have HB1 := Lib.hid hB
  have HP1 := Lib.hid hp
  clear hX hZ hB hp HX HZ HB HF
  go_upto_region 17 with fail
  have HX := Lib.hid (set_heap (j := 10) (set_heap (j := 9) (set_heap (j := 8) HX1.out (.int .i64 fr)) (.int .i64 tt)) (.slice A L.length c))
  obtain ⟨W2, hW⟩ : ∃ q, q = ((W1.setCell ⟨r, 8, none⟩ (.int .i64 fr)).setCell ⟨r, 9, none⟩ (.int .i64 tt)).setCell ⟨r, 10, none⟩ (.slice A L.length c) := ⟨_, rfl⟩
  have hfar : ∀ b, b ≠ r → W2.heap[b]? = W1.heap[b]? := fun b hb => by
    rw [hW]
    exact (Below.heap_setCell _ ⟨r, 10, none⟩ _ b hb).trans ((Below.heap_setCell _ ⟨r, 9, none⟩ _ b hb).trans (Below.heap_setCell _ ⟨r, 8, none⟩ _ b hb))
  have HZ := Lib.hid ((hfar w.heap.size (by omega)).trans HZ1.out)
  have HF := Lib.hid (show FA (w.heap.size + 1) s W2 from (hfar (w.heap.size + 1) (by omega)).trans HP1.out.1)
  have HB := Lib.hid (set_bel (j := 10) (u := .slice A L.length c) (set_bel (j := 9) (u := .int .i64 tt) (set_bel (j := 8) (u := .int .i64 fr) HB1.out (show w.heap.size ≤ r by omega)) (show w.heap.size ≤ r by omega)) (show w.heap.size ≤ r by omega))
  have HO := Lib.hid (row_set (j := 10) (row_set (j := 9) (row_set (j := 8) HO.out hxr (.int .i64 fr)) hxr (.int .i64 tt)) hxr (.slice A L.length c))
  clear HX1 HZ1 HB1 HP1 hxr hfar
  simp only [← hW] at HX HB HO
  simp only [← hW]
  clear hW
  have cg0 : W2.cell? ⟨w.heap.size + 1, 0, none⟩ = some (.string (tx s.1)) := blk_cell HF.out rfl
  have cg1 : W2.cell? ⟨w.heap.size + 1, 1, none⟩ = some (.bool s.2) := blk_cell HF.out rfl
  have hgW := blk_lt HF.out
  have zf := fun j => Lib.frozen_of_heap HZ.out j
  have z0 : W2.cell? ⟨w.heap.size, 0, none⟩ = some (.int .i64 0) := blk_cell HZ.out rfl
  have z1 : W2.cell? ⟨w.heap.size, 1, none⟩ = some (.slice none 0 0) := blk_cell HZ.out rfl
  have z2 : W2.cell? ⟨w.heap.size, 2, none⟩ = some (.int .i64 0) := blk_cell HZ.out rfl
  have z3 : W2.cell? ⟨w.heap.size, 3, none⟩ = some (.int .i64 0) := blk_cell HZ.out rfl
  have z4 : W2.cell? ⟨w.heap.size, 4, none⟩ = some (.int .i64 0) := blk_cell HZ.out rfl
  have z5 : W2.cell? ⟨w.heap.size, 5, none⟩ = some (.int .i64 0) := blk_cell HZ.out rfl
  have z6 : W2.cell? ⟨w.heap.size, 6, none⟩ = some (.int .i64 0) := blk_cell HZ.out rfl
  have z7 : W2.cell? ⟨w.heap.size, 7, none⟩ = some (.slice none 0 0) := blk_cell HZ.out rfl
  have z8 : W2.cell? ⟨w.heap.size, 8, none⟩ = some (.int .i64 0) := blk_cell HZ.out rfl
  have z9 : W2.cell? ⟨w.heap.size, 9, none⟩ = some (.int .i64 0) := blk_cell HZ.out rfl
  have z10 : W2.cell? ⟨w.heap.size, 10, none⟩ = some (.slice none 0 0) := blk_cell HZ.out rfl
  have x0 : W2.cell? ⟨r, 0, none⟩ = some (.int .i64 3) := blk_cell HX.out rfl
  have x1 : W2.cell? ⟨r, 1, none⟩ = some (.slice none 0 0) := blk_cell HX.out rfl
  have x2 : W2.cell? ⟨r, 2, none⟩ = some (.int .i64 0) := blk_cell HX.out rfl
  have x3 : W2.cell? ⟨r, 3, none⟩ = some (.int .i64 0) := blk_cell HX.out rfl
  have x4 : W2.cell? ⟨r, 4, none⟩ = some (.int .i64 0) := blk_cell HX.out rfl
  have x5 : W2.cell? ⟨r, 5, none⟩ = some (.int .i64 0) := blk_cell HX.out rfl
  have x6 : W2.cell? ⟨r, 6, none⟩ = some (.int .i64 0) := blk_cell HX.out rfl
  have x7 : W2.cell? ⟨r, 7, none⟩ = some (.slice none 0 0) := blk_cell HX.out rfl
  have x8 : W2.cell? ⟨r, 8, none⟩ = some (.int .i64 fr) := blk_cell HX.out rfl
  have x9 : W2.cell? ⟨r, 9, none⟩ = some (.int .i64 tt) := blk_cell HX.out rfl
  have x10 : W2.cell? ⟨r, 10, none⟩ = some (.slice A L.length c) := blk_cell HX.out rfl
  rcases Bool.eq_false_or_eq_true s.2 with hb | hb
  · rw [hb] at cg1
    go_wp2_with fail
    refine bodyPost_ret (v := .tuple #[.agg #[.int .i64 0, .slice none 0 0, .int .i64 0, .int .i64 0, .int .i64 0, .int .i64 0, .int .i64 0, .slice none 0 0, .int .i64 0, .int .i64 0, .slice none 0 0], .int .i64 13]) ?_ rfl ?_
    · simp [results, Try.results30, go_sem, z0, z1, z2, z3, z4, z5, z6, z7, z8, z9, z10]
    · exact ⟨_, _, getE1 hb, Lib.hid (by (with_reducible (repeat (refine row_set ?_ hzr _))); exact HO.out), by (with_reducible (repeat (refine set_bel ?_ (Nat.le_refl _)))); exact HB.out⟩
  · rw [hb] at cg1
    rcases Bool.eq_false_or_eq_true s.1.isEmpty with he | he
    · have hne2 := tx_nil he
      go_wp2_with fail
      refine (HR.out W2 A c HO.out).mono ?_
      rintro e w9 ⟨rfl, hbR⟩
      have HZ9 := Lib.hid ((hbR.block _ (blk_lt HZ.out)).trans HZ.out)
      have HX9 := Lib.hid ((hbR.block _ (blk_lt HX.out)).trans HX.out)
      have hsz9 := hbR.size
      have HO9 := Lib.hid (row_bel HO.out hbR)
      have HB9 := Lib.hid (HB.out.trans (hbR.mono HB.out.size))
      clear z0 z1 z2 z3 z4 z5 z6 z7 z8 z9 z10 x0 x1 x2 x3 x4 x5 x6 x7 x8 x9 x10
      clear hbR zf
      have zf := fun j => Lib.frozen_of_heap HZ9.out j
      have z0 : w9.cell? ⟨w.heap.size, 0, none⟩ = some (.int .i64 0) := blk_cell HZ9.out rfl
      have z1 : w9.cell? ⟨w.heap.size, 1, none⟩ = some (.slice none 0 0) := blk_cell HZ9.out rfl
      have z2 : w9.cell? ⟨w.heap.size, 2, none⟩ = some (.int .i64 0) := blk_cell HZ9.out rfl
      have z3 : w9.cell? ⟨w.heap.size, 3, none⟩ = some (.int .i64 0) := blk_cell HZ9.out rfl
      have z4 : w9.cell? ⟨w.heap.size, 4, none⟩ = some (.int .i64 0) := blk_cell HZ9.out rfl
      have z5 : w9.cell? ⟨w.heap.size, 5, none⟩ = some (.int .i64 0) := blk_cell HZ9.out rfl
      have z6 : w9.cell? ⟨w.heap.size, 6, none⟩ = some (.int .i64 0) := blk_cell HZ9.out rfl
      have z7 : w9.cell? ⟨w.heap.size, 7, none⟩ = some (.slice none 0 0) := blk_cell HZ9.out rfl
      have z8 : w9.cell? ⟨w.heap.size, 8, none⟩ = some (.int .i64 0) := blk_cell HZ9.out rfl
      have z9 : w9.cell? ⟨w.heap.size, 9, none⟩ = some (.int .i64 0) := blk_cell HZ9.out rfl
      have z10 : w9.cell? ⟨w.heap.size, 10, none⟩ = some (.slice none 0 0) := blk_cell HZ9.out rfl
      have x0 : w9.cell? ⟨r, 0, none⟩ = some (.int .i64 3) := blk_cell HX9.out rfl
      have x1 : w9.cell? ⟨r, 1, none⟩ = some (.slice none 0 0) := blk_cell HX9.out rfl
      have x2 : w9.cell? ⟨r, 2, none⟩ = some (.int .i64 0) := blk_cell HX9.out rfl
      have x3 : w9.cell? ⟨r, 3, none⟩ = some (.int .i64 0) := blk_cell HX9.out rfl
      have x4 : w9.cell? ⟨r, 4, none⟩ = some (.int .i64 0) := blk_cell HX9.out rfl
      have x5 : w9.cell? ⟨r, 5, none⟩ = some (.int .i64 0) := blk_cell HX9.out rfl
      have x6 : w9.cell? ⟨r, 6, none⟩ = some (.int .i64 0) := blk_cell HX9.out rfl
      have x7 : w9.cell? ⟨r, 7, none⟩ = some (.slice none 0 0) := blk_cell HX9.out rfl
      have x8 : w9.cell? ⟨r, 8, none⟩ = some (.int .i64 fr) := blk_cell HX9.out rfl
      have x9 : w9.cell? ⟨r, 9, none⟩ = some (.int .i64 tt) := blk_cell HX9.out rfl
      have x10 : w9.cell? ⟨r, 10, none⟩ = some (.slice A L.length c) := blk_cell HX9.out rfl
      cases rb
      · skip
        go_wp2_with fail
        refine bodyPost_ret (v := .tuple #[.agg #[.int .i64 0, .slice none 0 0, .int .i64 0, .int .i64 0, .int .i64 0, .int .i64 0, .int .i64 0, .slice none 0 0, .int .i64 0, .int .i64 0, .slice none 0 0], .int .i64 13]) ?_ rfl ?_
        · simp [results, Try.results30, go_sem, z0, z1, z2, z3, z4, z5, z6, z7, z8, z9, z10]
        · exact ⟨_, _, getE3, Lib.hid (by (with_reducible (repeat (refine row_set ?_ hzr _))); exact HO9.out), by (with_reducible (repeat (refine set_bel ?_ (Nat.le_refl _)))); exact HB9.out⟩
      · skip
        go_wp2_with fail
        refine bodyPost_ret (v := .tuple #[.agg #[.int .i64 3, .slice none 0 0, .int .i64 0, .int .i64 0, .int .i64 0, .int .i64 0, .int .i64 0, .slice none 0 0, .int .i64 fr, .int .i64 tt, .slice A L.length c], .int .i64 0]) ?_ rfl ?_
        · simp [results, Try.results30, go_sem, z0, z1, z2, z3, z4, z5, z6, z7, z8, z9, z10, x0, x1, x2, x3, x4, x5, x6, x7, x8, x9, x10]
        · exact ⟨_, _, getE4 hb he, Lib.hid (by (with_reducible (repeat (refine row_set ?_ hzr _))); exact HO9.out), by (with_reducible (repeat (refine set_bel ?_ (Nat.le_refl _)))); exact HB9.out⟩
    · have hne2 := tx_cons he
      go_wp2_with fail
      refine bodyPost_ret (v := .tuple #[.agg #[.int .i64 0, .slice none 0 0, .int .i64 0, .int .i64 0, .int .i64 0, .int .i64 0, .int .i64 0, .slice none 0 0, .int .i64 0, .int .i64 0, .slice none 0 0], .int .i64 13]) ?_ rfl ?_
      · simp [results, Try.results30, go_sem, z0, z1, z2, z3, z4, z5, z6, z7, z8, z9, z10]
      · exact ⟨_, _, getE2 he, Lib.hid (by (with_reducible (repeat (refine row_set ?_ hzr _))); exact HO.out), by (with_reducible (repeat (refine set_bel ?_ (Nat.le_refl _)))); exact HB.out⟩
def numK : Nat → Rst → Rst
  | 0, r => r
  | k + 1, r => (numF (numK k r)).2
def rk (q : Nat → Nat) (k : Nat) : Array Value := #[.int .i64 1, .slice none 0 0, .int .i64 (if 0 < k then q 0 else 0 : Nat), .int .i64 (if 1 < k then q 1 else 0 : Nat), .int .i64 (if 2 < k then q 2 else 0 : Nat), .int .i64 0, .int .i64 (if 3 < k then q 3 else 0 : Nat), .slice none 0 0, .int .i64 0, .int .i64 0, .slice none 0 0]
theorem numK_rest (k : Nat) (r : Rst) : (numK k r).1.length ≤ r.1.length := by
  induction k with
  | zero => exact Nat.le_refl _
  | succ k ih => exact Nat.le_trans (numF_rest _) ih
set_option maxHeartbeats 8000000 in
set_option maxRecDepth 100000 in
theorem get1_any (a0 : ByteArray) (w : World) (hl : a0.data.toList.length ≤ 100000) (hkk : (numF (a0.data.toList, false)).1 = 1) (s0 : Rst) (hs0 : s0 = (numF (a0.data.toList, false)).2)
    (q : Nat → Nat) (hq : ∀ k, q k = (numF (numK k s0)).1) (due : Nat) (hdue : due = (timeF 6 0 (numK 4 s0)).1) (L : List Lab) (s : Rst) (hL : (L, s) = labsF (numF (timeF 6 0 (numK 4 s0)).2).1 [] (numF (timeF 6 0 (numK 4 s0)).2).2) (rb : Bool)
    (HR : ∀ W A c, W.ownsRow w.heap.size 41 2 (.slice A L.length c) L.length (labsC L) → Calls Try.prog 26 #[.agg (recC 1 (.slice A L.length c) (q 0) (q 1) (q 2) due (q 3) (.slice none 0 0) 0 0 (.slice none 0 0))] W fun e w' => e = .returned (.bool rb) ∧ Below W.heap.size W w') :
    Calls Try.prog 30 #[.string a0] w fun e w' => ∃ A c, e = getE s rb (.agg (recC 0 (.slice none 0 0) 0 0 0 0 0 (.slice none 0 0) 0 0 (.slice none 0 0))) (.agg (recC 1 (.slice A L.length c) (q 0) (q 1) (q 2) due (q 3) (.slice none 0 0) 0 0 (.slice none 0 0))) ∧ Hid (w'.ownsRow w.heap.size 41 2 (.slice A L.length c) L.length (labsC L)) ∧ Below w.heap.size w w' := by
  have hl0 : (numF (a0.data.toList, false)).2.1.length ≤ a0.data.toList.length := numF_rest (a0.data.toList, false)
  have HN := Lib.hid fun W (h : FA (w.heap.size + 1) (a0.data.toList, false) W) => number_any (w.heap.size + 1) (a0.data.toList, false) W h hl
  rw [hkk] at HN
  rw [← hs0] at HN hl0
  have HQ := Lib.hid fun (k : Nat) (W : World) (h : FA (w.heap.size + 1) (numK k s0) W) => number_any (w.heap.size + 1) (numK k s0) W h (by have := numK_rest k s0; omega)
  simp only [← hq] at HQ
  have h4 := numK_rest 4 s0
  have HT := Lib.hid fun (W : World) (h : FA (w.heap.size + 1) (numK 4 s0) W) => ftime_any (w.heap.size + 1) (numK 4 s0) W h (by omega)
  rw [← hdue] at HT
  have h5 := timeF_rest 6 0 (numK 4 s0)
  have HL := Lib.hid fun W (h : FA (w.heap.size + 1) (timeF 6 0 (numK 4 s0)).2 W) => flabels_any (w.heap.size + 1) (timeF 6 0 (numK 4 s0)).2 W h (by omega)
  rw [← hL] at HL
  obtain ⟨s5, hs5⟩ : ∃ q, q = (timeF 6 0 (numK 4 s0)).2 := ⟨_, rfl⟩
  rw [← hs5] at HT HL
  have HR := Lib.hid HR
  clear hkk hL hdue hq h4 h5 hs5
  unfold recC at *
  clear hs0
  go_enter Try.func30, Try.ntmps30
  go_wp2_with fail
  refine (HN.out _ ?_).mono ?_
  case refine_1 =>
    have := blk_new (w.alloc (.cells (recC 0 (.slice none 0 0) 0 0 0 0 0 (.slice none 0 0) 0 0 (.slice none 0 0)) 50)) (.cells #[.string a0, .bool false] 81)
    rw [size_alloc] at this
    unfold FA
    rw [tx_of]
    exact this
  rintro e w1 ⟨rfl, hp⟩
  have hZ := hp.stay (blk_new1 w (.cells (recC 0 (.slice none 0 0) 0 0 0 0 0 (.slice none 0 0) 0 0 (.slice none 0 0)) 50) (.cells #[.string a0, .bool false] 81)) (by omega)
  have hsz1 := hp.2.size
  simp only [size_alloc] at hsz1
  have HP1 := Lib.hid hp
  have HZ := Lib.hid hZ
  clear hp hZ HN
  have hbw : Below w.heap.size w w1 := ⟨HP1.out.2.os, HP1.out.2.tape, HP1.out.2.output, by omega, fun i hi => (HP1.out.2.block i (by simp only [size_alloc]; omega) (by simp; omega)).trans ((Lib.alloc_old _ _ _ (by rw [size_alloc]; omega)).trans (Lib.alloc_old _ _ _ hi))⟩
  have HX := Lib.hid (blk_new w1 (.cells (recC 1 (.slice none 0 0) 0 0 0 0 0 (.slice none 0 0) 0 0 (.slice none 0 0)) 50))
  have hZ := (Lib.alloc_old w1 (.cells (recC 1 (.slice none 0 0) 0 0 0 0 0 (.slice none 0 0) 0 0 (.slice none 0 0)) 50) _ (blk_lt HZ.out)).trans HZ.out
  have HF := Lib.hid (HP1.out.1.far (World.grownBy_alloc w1 (.cells (recC 1 (.slice none 0 0) 0 0 0 0 0 (.slice none 0 0) 0 0 (.slice none 0 0)) 50) none) (by simp))
  have HB := Lib.hid (hbw.alloc (by omega) (.cells (recC 1 (.slice none 0 0) 0 0 0 0 0 (.slice none 0 0) 0 0 (.slice none 0 0)) 50))
  clear HZ hbw
  have HZ := Lib.hid hZ
  unfold recC at *
  clear hZ HP1
  go_upto_region 4 with fail
  refine name_world (fun W hW => ?_)
  rw [← hW] at HX HZ HF HB
  clear hW
  obtain ⟨r, hr⟩ : ∃ r, r = w1.heap.size := ⟨_, rfl⟩
  simp only [← hr]
  rw [← hr] at HX hsz1
  clear hr
  go_wp2_with fail
  go_region_law (fail)
  go_simp
  go_wp2_with fail
  have hPP := blk_new W (.cells #[.pointer (some ⟨r, 2, none⟩), .pointer (some ⟨r, 3, none⟩), .pointer (some ⟨r, 4, none⟩), .pointer (some ⟨r, 6, none⟩)] 84)
  have hX := (Lib.alloc_old W (.cells #[.pointer (some ⟨r, 2, none⟩), .pointer (some ⟨r, 3, none⟩), .pointer (some ⟨r, 4, none⟩), .pointer (some ⟨r, 6, none⟩)] 84) r (blk_lt HX.out)).trans HX.out
  have hZ := (Lib.alloc_old W (.cells #[.pointer (some ⟨r, 2, none⟩), .pointer (some ⟨r, 3, none⟩), .pointer (some ⟨r, 4, none⟩), .pointer (some ⟨r, 6, none⟩)] 84) w.heap.size (blk_lt HZ.out)).trans HZ.out
  have hF := HF.out.far (World.grownBy_alloc W (.cells #[.pointer (some ⟨r, 2, none⟩), .pointer (some ⟨r, 3, none⟩), .pointer (some ⟨r, 4, none⟩), .pointer (some ⟨r, 6, none⟩)] 84) none) (fun _ e => nomatch e)
  have hB := (HB.out.alloc HB.out.size (.cells #[.pointer (some ⟨r, 2, none⟩), .pointer (some ⟨r, 3, none⟩), .pointer (some ⟨r, 4, none⟩), .pointer (some ⟨r, 6, none⟩)] 84)).drew
  have hgp := blk_lt HF.out
  have hrp := blk_lt HX.out
  refine name_world (fun W3 hW3 => ?_)
  have HPP := Lib.hid (show W3.heap[W.heap.size]? = some (.cells #[.pointer (some ⟨r, 2, none⟩), .pointer (some ⟨r, 3, none⟩), .pointer (some ⟨r, 4, none⟩), .pointer (some ⟨r, 6, none⟩)] 84 (0, 0)) by rw [hW3]; exact hPP)
  have HX3 := Lib.hid (show W3.heap[r]? = some (.cells (rk q 0) 50 (0, 0)) by rw [hW3]; exact hX)
  have HZ3 := Lib.hid (show W3.heap[w.heap.size]? = some (.cells (#[.int .i64 0, .slice none 0 0, .int .i64 0, .int .i64 0, .int .i64 0, .int .i64 0, .int .i64 0, .slice none 0 0, .int .i64 0, .int .i64 0, .slice none 0 0]) 50 (0, 0)) by rw [hW3]; exact hZ)
  have HF3 := Lib.hid (show FA (w.heap.size + 1) (numK 0 s0) W3 by rw [hW3]; exact hF)
  have HB3 := Lib.hid (show Below w.heap.size w W3 by rw [hW3]; exact hB)
  obtain ⟨p, hp⟩ : ∃ p, p = W.heap.size := ⟨_, rfl⟩
  rw [← hp] at HPP hgp hrp
  simp only [← hp]
  clear hp hW3 hPP hX hZ hF hB HX HZ HF HB
  go_loopw [35] (fun i wr => ∃ k : Nat, k ≤ 4 ∧ i = .int .i64 k ∧ Hid (wr.heap[p]? = some (.cells #[.pointer (some ⟨r, 2, none⟩), .pointer (some ⟨r, 3, none⟩), .pointer (some ⟨r, 4, none⟩), .pointer (some ⟨r, 6, none⟩)] 84 (0, 0))) ∧ Hid (wr.heap[r]? = some (.cells (rk q k) 50 (0, 0))) ∧ Hid (wr.heap[w.heap.size]? = some (.cells (#[.int .i64 0, .slice none 0 0, .int .i64 0, .int .i64 0, .int .i64 0, .int .i64 0, .int .i64 0, .slice none 0 0, .int .i64 0, .int .i64 0, .slice none 0 0]) 50 (0, 0))) ∧ Hid (FA (w.heap.size + 1) (numK k s0) wr) ∧ Hid (Below w.heap.size w wr)) (fun i _ => 4 - (intOf i).toNat)
  case atStart => exact ⟨0, by omega, rfl, HPP, HX3, HZ3, HF3, HB3⟩
  case round =>
    obtain ⟨k, hk, rfl, HPP, HX, HZ, HF, HB⟩ := hrel
    clear HX3 HZ3 HF3 HB3
    by_cases hlt : k < 4
    · have hN := HQ.out k wr HF.out
      obtain rfl | rfl | rfl | rfl : k = 0 ∨ k = 1 ∨ k = 2 ∨ k = 3 := by omega
      · have p0 : wr.cell? ⟨p, 0, none⟩ = some (.pointer (some ⟨r, 2, none⟩)) := blk_cell HPP.out rfl
        go_wp2_with fail
        refine hN.mono ?_
        rintro e w2 ⟨rfl, hp⟩
        have hX := hp.stay HX.out (by omega)
        have hP2 := hp.stay HPP.out (by omega)
        have hZ := hp.stay HZ.out (by omega)
        have x0 := blk_cell hX (j := 2) rfl
        have xf := Lib.frozen_of_heap hX 2
        have hB := HB.out.grown hp.2 HB.out.size (fun k e => by obtain rfl := Option.some.inj e; omega)
        have HX2 := Lib.hid hX
        have HP2 := Lib.hid hP2
        have HZ2 := Lib.hid hZ
        have HB2 := Lib.hid hB
        have HF2 := Lib.hid hp.1
        clear hX hP2 hZ hB hp HX HPP HZ HF HB hN
        go_wp2_with fail
        have hfar : ∀ b, b ≠ r → (w2.setCell ⟨r, 2, none⟩ (.int .i64 (q 0))).heap[b]? = w2.heap[b]? := fun b hb => Below.heap_setCell _ ⟨r, 2, none⟩ _ b hb
        refine ⟨⟨0 + 1, by omega, by go_num, Lib.hid ((hfar p (by omega)).trans HP2.out), Lib.hid (set_heap (j := 2) HX2.out (.int .i64 (q 0))), Lib.hid ((hfar w.heap.size (by omega)).trans HZ2.out), Lib.hid ((hfar (w.heap.size + 1) (by omega)).trans HF2.out), Lib.hid (set_bel HB2.out (by omega))⟩, by simp [intOf]⟩
      · have p0 : wr.cell? ⟨p, 1, none⟩ = some (.pointer (some ⟨r, 3, none⟩)) := blk_cell HPP.out rfl
        go_wp2_with fail
        refine hN.mono ?_
        rintro e w2 ⟨rfl, hp⟩
        have hX := hp.stay HX.out (by omega)
        have hP2 := hp.stay HPP.out (by omega)
        have hZ := hp.stay HZ.out (by omega)
        have x0 := blk_cell hX (j := 3) rfl
        have xf := Lib.frozen_of_heap hX 3
        have hB := HB.out.grown hp.2 HB.out.size (fun k e => by obtain rfl := Option.some.inj e; omega)
        have HX2 := Lib.hid hX
        have HP2 := Lib.hid hP2
        have HZ2 := Lib.hid hZ
        have HB2 := Lib.hid hB
        have HF2 := Lib.hid hp.1
        clear hX hP2 hZ hB hp HX HPP HZ HF HB hN
        go_wp2_with fail
        have hfar : ∀ b, b ≠ r → (w2.setCell ⟨r, 3, none⟩ (.int .i64 (q 1))).heap[b]? = w2.heap[b]? := fun b hb => Below.heap_setCell _ ⟨r, 3, none⟩ _ b hb
        refine ⟨⟨1 + 1, by omega, by go_num, Lib.hid ((hfar p (by omega)).trans HP2.out), Lib.hid (set_heap (j := 3) HX2.out (.int .i64 (q 1))), Lib.hid ((hfar w.heap.size (by omega)).trans HZ2.out), Lib.hid ((hfar (w.heap.size + 1) (by omega)).trans HF2.out), Lib.hid (set_bel HB2.out (by omega))⟩, by simp [intOf]⟩
      · have p0 : wr.cell? ⟨p, 2, none⟩ = some (.pointer (some ⟨r, 4, none⟩)) := blk_cell HPP.out rfl
        go_wp2_with fail
        refine hN.mono ?_
        rintro e w2 ⟨rfl, hp⟩
        have hX := hp.stay HX.out (by omega)
        have hP2 := hp.stay HPP.out (by omega)
        have hZ := hp.stay HZ.out (by omega)
        have x0 := blk_cell hX (j := 4) rfl
        have xf := Lib.frozen_of_heap hX 4
        have hB := HB.out.grown hp.2 HB.out.size (fun k e => by obtain rfl := Option.some.inj e; omega)
        have HX2 := Lib.hid hX
        have HP2 := Lib.hid hP2
        have HZ2 := Lib.hid hZ
        have HB2 := Lib.hid hB
        have HF2 := Lib.hid hp.1
        clear hX hP2 hZ hB hp HX HPP HZ HF HB hN
        go_wp2_with fail
        have hfar : ∀ b, b ≠ r → (w2.setCell ⟨r, 4, none⟩ (.int .i64 (q 2))).heap[b]? = w2.heap[b]? := fun b hb => Below.heap_setCell _ ⟨r, 4, none⟩ _ b hb
        refine ⟨⟨2 + 1, by omega, by go_num, Lib.hid ((hfar p (by omega)).trans HP2.out), Lib.hid (set_heap (j := 4) HX2.out (.int .i64 (q 2))), Lib.hid ((hfar w.heap.size (by omega)).trans HZ2.out), Lib.hid ((hfar (w.heap.size + 1) (by omega)).trans HF2.out), Lib.hid (set_bel HB2.out (by omega))⟩, by simp [intOf]⟩
      · have p0 : wr.cell? ⟨p, 3, none⟩ = some (.pointer (some ⟨r, 6, none⟩)) := blk_cell HPP.out rfl
        go_wp2_with fail
        refine hN.mono ?_
        rintro e w2 ⟨rfl, hp⟩
        have hX := hp.stay HX.out (by omega)
        have hP2 := hp.stay HPP.out (by omega)
        have hZ := hp.stay HZ.out (by omega)
        have x0 := blk_cell hX (j := 6) rfl
        have xf := Lib.frozen_of_heap hX 6
        have hB := HB.out.grown hp.2 HB.out.size (fun k e => by obtain rfl := Option.some.inj e; omega)
        have HX2 := Lib.hid hX
        have HP2 := Lib.hid hP2
        have HZ2 := Lib.hid hZ
        have HB2 := Lib.hid hB
        have HF2 := Lib.hid hp.1
        clear hX hP2 hZ hB hp HX HPP HZ HF HB hN
        go_wp2_with fail
        have hfar : ∀ b, b ≠ r → (w2.setCell ⟨r, 6, none⟩ (.int .i64 (q 3))).heap[b]? = w2.heap[b]? := fun b hb => Below.heap_setCell _ ⟨r, 6, none⟩ _ b hb
        refine ⟨⟨3 + 1, by omega, by go_num, Lib.hid ((hfar p (by omega)).trans HP2.out), Lib.hid (set_heap (j := 6) HX2.out (.int .i64 (q 3))), Lib.hid ((hfar w.heap.size (by omega)).trans HZ2.out), Lib.hid ((hfar (w.heap.size + 1) (by omega)).trans HF2.out), Lib.hid (set_bel HB2.out (by omega))⟩, by simp [intOf]⟩
    · obtain rfl : k = 4 := by omega
      clear HQ hlt hk HPP hgp hrp
      have HX0 := Lib.hid (show wr.heap[r]? = some (.cells #[.int .i64 1, .slice none 0 0, .int .i64 (q 0), .int .i64 (q 1), .int .i64 (q 2), .int .i64 0, .int .i64 (q 3), .slice none 0 0, .int .i64 0, .int .i64 0, .slice none 0 0] 50 (0, 0)) from HX.out)
      clear HX
      go_wp2_with fail
      refine (HT.out wr HF.out).mono ?_
      rintro e w4 ⟨rfl, hp⟩
      have hX := hp.stay HX0.out (by omega)
      have hZ := hp.stay HZ.out (by omega)
      have x5 := blk_cell hX (j := 5) rfl
      have xf := Lib.frozen_of_heap hX 5
      have hB := HB.out.grown hp.2 HB.out.size (fun k e => by obtain rfl := Option.some.inj e; omega)
      have HX1 := Lib.hid (set_heap (j := 5) hX (.int .i64 due))
      obtain ⟨W5, hW5⟩ : ∃ z, z = w4.setCell ⟨r, 5, none⟩ (.int .i64 due) := ⟨_, rfl⟩
      have hfar : ∀ b, b ≠ r → W5.heap[b]? = w4.heap[b]? := fun b hb => by rw [hW5]; exact Below.heap_setCell _ ⟨r, 5, none⟩ _ b hb
      have HZ1 := Lib.hid ((hfar w.heap.size (by omega)).trans hZ)
      have HF1 := Lib.hid (show FA (w.heap.size + 1) s5 W5 from (hfar (w.heap.size + 1) (by omega)).trans hp.1)
      have HB1 := Lib.hid (set_bel (j := 5) (u := .int .i64 due) hB (show w.heap.size ≤ r by omega))
      rw [← hW5] at HX1 HB1
      have HH5 := Lib.hid hW5
      clear hX hZ hB hp HX0 HZ HF HB HT hfar hW5
      go_wp2_with fail
      rw [← HH5.out]
      clear HH5
      refine (HL.out W5 HF1.out).mono ?_
      rintro e W1 ⟨v, rfl, HO, hp⟩
      have HO := Lib.hid (row_mono HO.out HB1.out.size)
      have hZ := hp.stay HZ1.out (by omega)
      have hX := hp.stay HX1.out (by omega)
      have hzr := row_type HO.out hZ (by decide)
      have hxr := row_type HO.out hX (by decide)
      have hB := HB1.out.grown hp.2 HB1.out.size (fun k e => by obtain rfl := Option.some.inj e; omega)
      have xf := Lib.frozen_of_heap hX 1
      have x1 := blk_cell hX (j := 1) rfl
      obtain ⟨A, c, rfl⟩ := row_form HO.out
      have HX6 := Lib.hid hX
      have HZ6 := Lib.hid hZ
      have HB6 := Lib.hid hB
      have HP6 := Lib.hid hp
      clear hX hZ hB hp HX1 HZ1 HB1 HF1
      clear x5
      go_upto_region 17 with fail
      have HX := Lib.hid (show (W1.setCell ⟨r, 1, none⟩ (.slice A L.length c)).heap[r]? = some (.cells #[.int .i64 1, .slice A L.length c, .int .i64 (q 0), .int .i64 (q 1), .int .i64 (q 2), .int .i64 due, .int .i64 (q 3), .slice none 0 0, .int .i64 0, .int .i64 0, .slice none 0 0] 50 (0, 0)) from set_heap (j := 1) HX6.out (.slice A L.length c))
      have HZ := Lib.hid ((Below.heap_setCell W1 ⟨r, 1, none⟩ (.slice A L.length c) w.heap.size (fun e => by have : w.heap.size = r := e; omega)).trans HZ6.out)
      have HF := Lib.hid (show FA (w.heap.size + 1) s (W1.setCell ⟨r, 1, none⟩ (.slice A L.length c)) from (Below.heap_setCell W1 ⟨r, 1, none⟩ (.slice A L.length c) (w.heap.size + 1) (fun e => by have : w.heap.size + 1 = r := e; omega)).trans HP6.out.1)
      have HB := Lib.hid (set_bel (j := 1) (u := .slice A L.length c) HB6.out (show w.heap.size ≤ r by omega))
      have HO := Lib.hid (row_set (j := 1) HO.out hxr (.slice A L.length c))
      clear HX6 HZ6 HB6 HP6 hxr
      refine name_world (fun W2 hW => ?_)
      rw [← hW] at HX HZ HF HB HO
      clear hW
      have cg0 : W2.cell? ⟨w.heap.size + 1, 0, none⟩ = some (.string (tx s.1)) := blk_cell HF.out rfl
      have cg1 : W2.cell? ⟨w.heap.size + 1, 1, none⟩ = some (.bool s.2) := blk_cell HF.out rfl
      have hgW := blk_lt HF.out
      have zf := fun j => Lib.frozen_of_heap HZ.out j
      have z0 : W2.cell? ⟨w.heap.size, 0, none⟩ = some (.int .i64 0) := blk_cell HZ.out rfl
      have z1 : W2.cell? ⟨w.heap.size, 1, none⟩ = some (.slice none 0 0) := blk_cell HZ.out rfl
      have z2 : W2.cell? ⟨w.heap.size, 2, none⟩ = some (.int .i64 0) := blk_cell HZ.out rfl
      have z3 : W2.cell? ⟨w.heap.size, 3, none⟩ = some (.int .i64 0) := blk_cell HZ.out rfl
      have z4 : W2.cell? ⟨w.heap.size, 4, none⟩ = some (.int .i64 0) := blk_cell HZ.out rfl
      have z5 : W2.cell? ⟨w.heap.size, 5, none⟩ = some (.int .i64 0) := blk_cell HZ.out rfl
      have z6 : W2.cell? ⟨w.heap.size, 6, none⟩ = some (.int .i64 0) := blk_cell HZ.out rfl
      have z7 : W2.cell? ⟨w.heap.size, 7, none⟩ = some (.slice none 0 0) := blk_cell HZ.out rfl
      have z8 : W2.cell? ⟨w.heap.size, 8, none⟩ = some (.int .i64 0) := blk_cell HZ.out rfl
      have z9 : W2.cell? ⟨w.heap.size, 9, none⟩ = some (.int .i64 0) := blk_cell HZ.out rfl
      have z10 : W2.cell? ⟨w.heap.size, 10, none⟩ = some (.slice none 0 0) := blk_cell HZ.out rfl
      have x0 : W2.cell? ⟨r, 0, none⟩ = some (.int .i64 1) := blk_cell HX.out rfl
      have x1 : W2.cell? ⟨r, 1, none⟩ = some (.slice A L.length c) := blk_cell HX.out rfl
      have x2 : W2.cell? ⟨r, 2, none⟩ = some (.int .i64 (q 0)) := blk_cell HX.out rfl
      have x3 : W2.cell? ⟨r, 3, none⟩ = some (.int .i64 (q 1)) := blk_cell HX.out rfl
      have x4 : W2.cell? ⟨r, 4, none⟩ = some (.int .i64 (q 2)) := blk_cell HX.out rfl
      have x5 : W2.cell? ⟨r, 5, none⟩ = some (.int .i64 due) := blk_cell HX.out rfl
      have x6 : W2.cell? ⟨r, 6, none⟩ = some (.int .i64 (q 3)) := blk_cell HX.out rfl
      have x7 : W2.cell? ⟨r, 7, none⟩ = some (.slice none 0 0) := blk_cell HX.out rfl
      have x8 : W2.cell? ⟨r, 8, none⟩ = some (.int .i64 0) := blk_cell HX.out rfl
      have x9 : W2.cell? ⟨r, 9, none⟩ = some (.int .i64 0) := blk_cell HX.out rfl
      have x10 : W2.cell? ⟨r, 10, none⟩ = some (.slice none 0 0) := blk_cell HX.out rfl
      rcases Bool.eq_false_or_eq_true s.2 with hb | hb
      · rw [hb] at cg1
        go_wp2_with fail
        refine bodyPost_ret (v := .tuple #[.agg #[.int .i64 0, .slice none 0 0, .int .i64 0, .int .i64 0, .int .i64 0, .int .i64 0, .int .i64 0, .slice none 0 0, .int .i64 0, .int .i64 0, .slice none 0 0], .int .i64 13]) ?_ rfl ?_
        · simp [results, Try.results30, go_sem, z0, z1, z2, z3, z4, z5, z6, z7, z8, z9, z10]
        · exact ⟨_, _, getE1 hb, Lib.hid (by (with_reducible (repeat (refine row_set ?_ hzr _))); exact HO.out), by (with_reducible (repeat (refine set_bel ?_ (Nat.le_refl _)))); exact HB.out⟩
      · rw [hb] at cg1
        rcases Bool.eq_false_or_eq_true s.1.isEmpty with he | he
        · have hne2 := tx_nil he
          go_wp2_with fail
          refine (HR.out W2 A c HO.out).mono ?_
          rintro e w9 ⟨rfl, hbR⟩
          have HZ9 := Lib.hid ((hbR.block _ (blk_lt HZ.out)).trans HZ.out)
          have HX9 := Lib.hid ((hbR.block _ (blk_lt HX.out)).trans HX.out)
          have hsz9 := hbR.size
          have HO9 := Lib.hid (row_bel HO.out hbR)
          have HB9 := Lib.hid (HB.out.trans (hbR.mono HB.out.size))
          clear z0 z1 z2 z3 z4 z5 z6 z7 z8 z9 z10 x0 x1 x2 x3 x4 x5 x6 x7 x8 x9 x10
          clear hbR zf
          have zf := fun j => Lib.frozen_of_heap HZ9.out j
          have z0 : w9.cell? ⟨w.heap.size, 0, none⟩ = some (.int .i64 0) := blk_cell HZ9.out rfl
          have z1 : w9.cell? ⟨w.heap.size, 1, none⟩ = some (.slice none 0 0) := blk_cell HZ9.out rfl
          have z2 : w9.cell? ⟨w.heap.size, 2, none⟩ = some (.int .i64 0) := blk_cell HZ9.out rfl
          have z3 : w9.cell? ⟨w.heap.size, 3, none⟩ = some (.int .i64 0) := blk_cell HZ9.out rfl
          have z4 : w9.cell? ⟨w.heap.size, 4, none⟩ = some (.int .i64 0) := blk_cell HZ9.out rfl
          have z5 : w9.cell? ⟨w.heap.size, 5, none⟩ = some (.int .i64 0) := blk_cell HZ9.out rfl
          have z6 : w9.cell? ⟨w.heap.size, 6, none⟩ = some (.int .i64 0) := blk_cell HZ9.out rfl
          have z7 : w9.cell? ⟨w.heap.size, 7, none⟩ = some (.slice none 0 0) := blk_cell HZ9.out rfl
          have z8 : w9.cell? ⟨w.heap.size, 8, none⟩ = some (.int .i64 0) := blk_cell HZ9.out rfl
          have z9 : w9.cell? ⟨w.heap.size, 9, none⟩ = some (.int .i64 0) := blk_cell HZ9.out rfl
          have z10 : w9.cell? ⟨w.heap.size, 10, none⟩ = some (.slice none 0 0) := blk_cell HZ9.out rfl
          have x0 : w9.cell? ⟨r, 0, none⟩ = some (.int .i64 1) := blk_cell HX9.out rfl
          have x1 : w9.cell? ⟨r, 1, none⟩ = some (.slice A L.length c) := blk_cell HX9.out rfl
          have x2 : w9.cell? ⟨r, 2, none⟩ = some (.int .i64 (q 0)) := blk_cell HX9.out rfl
          have x3 : w9.cell? ⟨r, 3, none⟩ = some (.int .i64 (q 1)) := blk_cell HX9.out rfl
          have x4 : w9.cell? ⟨r, 4, none⟩ = some (.int .i64 (q 2)) := blk_cell HX9.out rfl
          have x5 : w9.cell? ⟨r, 5, none⟩ = some (.int .i64 due) := blk_cell HX9.out rfl
          have x6 : w9.cell? ⟨r, 6, none⟩ = some (.int .i64 (q 3)) := blk_cell HX9.out rfl
          have x7 : w9.cell? ⟨r, 7, none⟩ = some (.slice none 0 0) := blk_cell HX9.out rfl
          have x8 : w9.cell? ⟨r, 8, none⟩ = some (.int .i64 0) := blk_cell HX9.out rfl
          have x9 : w9.cell? ⟨r, 9, none⟩ = some (.int .i64 0) := blk_cell HX9.out rfl
          have x10 : w9.cell? ⟨r, 10, none⟩ = some (.slice none 0 0) := blk_cell HX9.out rfl
          cases rb
          · skip
            go_wp2_with fail
            refine bodyPost_ret (v := .tuple #[.agg #[.int .i64 0, .slice none 0 0, .int .i64 0, .int .i64 0, .int .i64 0, .int .i64 0, .int .i64 0, .slice none 0 0, .int .i64 0, .int .i64 0, .slice none 0 0], .int .i64 13]) ?_ rfl ?_
            · simp [results, Try.results30, go_sem, z0, z1, z2, z3, z4, z5, z6, z7, z8, z9, z10]
            · exact ⟨_, _, getE3, Lib.hid (by (with_reducible (repeat (refine row_set ?_ hzr _))); exact HO9.out), by (with_reducible (repeat (refine set_bel ?_ (Nat.le_refl _)))); exact HB9.out⟩
          · skip
            go_wp2_with fail
            refine bodyPost_ret (v := .tuple #[.agg #[.int .i64 1, .slice A L.length c, .int .i64 (q 0), .int .i64 (q 1), .int .i64 (q 2), .int .i64 due, .int .i64 (q 3), .slice none 0 0, .int .i64 0, .int .i64 0, .slice none 0 0], .int .i64 0]) ?_ rfl ?_
            · simp [results, Try.results30, go_sem, z0, z1, z2, z3, z4, z5, z6, z7, z8, z9, z10, x0, x1, x2, x3, x4, x5, x6, x7, x8, x9, x10]
            · exact ⟨_, _, getE4 hb he, Lib.hid (by (with_reducible (repeat (refine row_set ?_ hzr _))); exact HO9.out), by (with_reducible (repeat (refine set_bel ?_ (Nat.le_refl _)))); exact HB9.out⟩
        · have hne2 := tx_cons he
          go_wp2_with fail
          refine bodyPost_ret (v := .tuple #[.agg #[.int .i64 0, .slice none 0 0, .int .i64 0, .int .i64 0, .int .i64 0, .int .i64 0, .int .i64 0, .slice none 0 0, .int .i64 0, .int .i64 0, .slice none 0 0], .int .i64 13]) ?_ rfl ?_
          · simp [results, Try.results30, go_sem, z0, z1, z2, z3, z4, z5, z6, z7, z8, z9, z10]
          · exact ⟨_, _, getE2 he, Lib.hid (by (with_reducible (repeat (refine row_set ?_ hzr _))); exact HO.out), by (with_reducible (repeat (refine set_bel ?_ (Nat.le_refl _)))); exact HB.out⟩
end
end Go.Proofs.Ytndgollcganhmaa
namespace Go.Proofs.YtndgollcganhmaaQ.P
open Go.RowKit Go.Proofs.YtndgollcganhmaaW.PrintWords Go.Proofs.Ytndgollcganhmaa
structure Rc where
  k : Int
  l1 : List Lab
  rt : Int
  pl : Int
  tr : Int
  due : Int
  st : Int
  l7 : List Lab
  fr : Int
  tt : Int
  l10 : List Mat
def Rc.zero : Rc := ⟨0, [], 0, 0, 0, 0, 0, [], 0, 0, []⟩
def getP (l : List UInt8) : Rc × Rst :=
  let r0 : Rst := (l, false)
  let k := (numF r0).1
  let s := (numF r0).2
  if k = 1 then
    let t := timeF 6 0 (numK 4 s)
    let g := labsF (numF t.2).1 [] (numF t.2).2
    (⟨1, g.1, (numF (numK 0 s)).1, (numF (numK 1 s)).1, (numF (numK 2 s)).1, t.1, (numF (numK 3 s)).1, [], 0, 0, []⟩, g.2)
  else if k = 2 then
    let g := labsF (numF s).1 [] (numF s).2
    (⟨2, [], 0, 0, 0, 0, 0, g.1, 0, 0, []⟩, g.2)
  else if k = 3 then
    let t := timeF 6 0 s
    let u := timeF 6 0 t.2
    let g := matsF (numF u.2).1 [] (numF u.2).2
    (⟨3, [], 0, 0, 0, 0, 0, [], t.1, u.1, g.1⟩, g.2)
  else (⟨k, [], 0, 0, 0, 0, 0, [], 0, 0, []⟩, s)
def Rc.right (r : Rc) : Option Bool := code_Right.f r.k (r.l1.map ofLab) r.rt r.pl r.tr r.due r.st (r.l7.map ofLab) r.fr r.tt (r.l10.map ofMat)
def code_Get.f (a0 : ByteArray) : Option (Int × (List (S41)) × Int × Int × Int × Int × Int × (List (S41)) × Int × Int × (List (S35)) × Int) :=
  if a0.size ≤ 100000 then
    match (getP a0.data.toList).1.right with
    | some b =>
      if ((getP a0.data.toList).2.2 || !(getP a0.data.toList).2.1.isEmpty || !b) = true then some (0, [], 0, 0, 0, 0, 0, [], 0, 0, [], 13)
      else
        let r := (getP a0.data.toList).1
        some (r.k, r.l1.map ofLab, r.rt, r.pl, r.tr, r.due, r.st, r.l7.map ofLab, r.fr, r.tt, r.l10.map ofMat, 0)
    | none => none
  else none
theorem mats_r {w : World} {B : Nat} {v : Value} {xs : List Mat} (h : w.ownsRow B 35 3 v xs.length (matsC xs)) : Kd.R k35 35 w B (fun _ => True) v (xs.map ofMat) :=
  R_of_own (g := ofMat) (en := matC) (fun w b ok y => k35_mkM w b ok (ofMat y)) (fun _ => rfl) h
theorem R_nilC {α : Type} {d : Kd α} {w : World} : d.C w none 0 [] := by
  obtain ⟨A, c, h1, _, h2⟩ := Kd.R_reads (Kd.R_nil d 0 w 0 (fun _ => True))
  simp at h1
  obtain ⟨rfl, _⟩ := h1
  exact h2
theorem labs_own {w : World} {B c : Nat} {A : Option Addr} {xs : List Lab} (h : w.ownsRow B 41 2 (.slice A xs.length c) xs.length (labsC xs)) : Kd.C k41 w A (xs.map ofLab).length (xs.map ofLab) ∧ (xs.map ofLab).length ≤ c := by
  obtain ⟨h1, h2, h3⟩ := Kd.R_reads' (labs_r h)
  exact ⟨h3, by rw [← h1]; exact h2⟩
theorem mats_own {w : World} {B c : Nat} {A : Option Addr} {xs : List Mat} (h : w.ownsRow B 35 3 (.slice A xs.length c) xs.length (matsC xs)) : Kd.C k35 w A (xs.map ofMat).length (xs.map ofMat) ∧ (xs.map ofMat).length ≤ c := by
  obtain ⟨h1, h2, h3⟩ := Kd.R_reads' (mats_r h)
  exact ⟨h3, by rw [← h1]; exact h2⟩
def Rc.val (r : Rc) (v1 v7 v10 : Value) : Value := .agg (recC r.k v1 r.rt r.pl r.tr r.due r.st v7 r.fr r.tt v10)
def Rc.own (r : Rc) (w : World) (B : Nat) (v1 v7 v10 : Value) : Prop :=
  Kd.R k41 41 w B (fun k_ => some k_ ≠ (v7 : Value).ownBlock) v1 (r.l1.map ofLab) ∧ Kd.R k41 41 w B (fun k_ => some k_ ≠ (v1 : Value).ownBlock) v7 (r.l7.map ofLab) ∧ Kd.R k35 35 w B (fun _ => True) v10 (r.l10.map ofMat)
theorem nil_block {k : Nat} : some k ≠ (Value.slice none 0 0).ownBlock := by simp [Value.ownBlock]
set_option maxHeartbeats 1000000 in
theorem get_core (a0 : ByteArray) (b : Bool) (w : World) (hl : a0.size ≤ 100000) (hb : (getP a0.data.toList).1.right = some b) :
    Calls Try.prog 30 #[.string a0] w fun e w' => ∃ v1 v7 v10 : Value, e = getE (getP a0.data.toList).2 b (Rc.zero.val (.slice none 0 0) (.slice none 0 0) (.slice none 0 0)) ((getP a0.data.toList).1.val v1 v7 v10) ∧ (getP a0.data.toList).1.own w' w.heap.size v1 v7 v10 ∧ Below w.heap.size w w' := by
  have hl' : a0.data.toList.length ≤ 100000 := by rw [len_data]; exact hl
  unfold getP at hb ⊢
  by_cases h1 : (numF (a0.data.toList, false)).1 = 1
  · simp only [h1, if_true] at hb ⊢
    have H := get1_any a0 w hl' h1 _ rfl (fun k => (numF (numK k (numF (a0.data.toList, false)).2)).1) (fun _ => rfl) _ rfl _ _ rfl b (fun W A c ho => by
      have hc := labs_own ho
      have := code_Right.calls 1 A c _ _ _ _ _ _ none 0 [] 0 0 none 0 [] b W hc.1 hc.2 R_nilC (Nat.le_refl _) R_nilC (Nat.le_refl _) hb
      rw [List.length_map] at this
      exact this)
    refine H.mono ?_
    rintro e w' ⟨A, c, he, ho, hbw⟩
    exact ⟨_, _, _, he, ⟨Kd.R_mono (labs_r ho.out) (fun _ _ => nil_block), Kd.R_nil _ _ _ _ _, Kd.R_nil _ _ _ _ _⟩, hbw⟩
  · by_cases h2 : (numF (a0.data.toList, false)).1 = 2
    · rw [if_neg h1, if_pos h2] at hb ⊢
      have H := get2_any a0 w hl' h2 b (fun W A c ho => by
        have hc := labs_own ho
        have := code_Right.calls 2 none 0 [] _ _ _ _ _ A c _ _ _ none 0 [] b W R_nilC (Nat.le_refl _) hc.1 hc.2 R_nilC (Nat.le_refl _) hb
        rw [List.length_map] at this
        exact this)
      refine H.mono ?_
      rintro e w' ⟨A, c, he, ho, hbw⟩
      exact ⟨_, _, _, he, ⟨Kd.R_nil _ _ _ _ _, Kd.R_mono (labs_r ho.out) (fun _ _ => nil_block), Kd.R_nil _ _ _ _ _⟩, hbw⟩
    · by_cases h3 : (numF (a0.data.toList, false)).1 = 3
      · rw [if_neg h1, if_neg h2, if_pos h3] at hb ⊢
        have H := get3_any a0 w hl' h3 _ rfl _ _ rfl rfl _ _ rfl b (fun W A c ho => by
          have hc := mats_own ho
          have := code_Right.calls 3 none 0 [] _ _ _ _ _ none 0 [] _ _ A c _ b W R_nilC (Nat.le_refl _) R_nilC (Nat.le_refl _) hc.1 hc.2 hb
          rw [List.length_map] at this
          exact this)
        refine H.mono ?_
        rintro e w' ⟨A, c, he, ho, hbw⟩
        exact ⟨_, _, _, he, ⟨Kd.R_nil _ _ _ _ _, Kd.R_nil _ _ _ _ _, mats_r ho.out⟩, hbw⟩
      · rw [if_neg h1, if_neg h2, if_neg h3] at hb ⊢
        have H := get0_any a0 w hl' ⟨h1, h2, h3⟩ b (fun W => code_Right.calls (numF (a0.data.toList, false)).1 none 0 [] 0 0 0 0 0 none 0 [] 0 0 none 0 [] b W R_nilC (Nat.le_refl _) R_nilC (Nat.le_refl _) R_nilC (Nat.le_refl _) hb)
        refine H.mono ?_
        rintro e w' ⟨he, hbw⟩
        exact ⟨_, _, _, he, ⟨Kd.R_nil _ _ _ _ _, Kd.R_nil _ _ _ _ _, Kd.R_nil _ _ _ _ _⟩, hbw⟩
set_option maxHeartbeats 1000000 in
theorem code_Get.calls (a0 : ByteArray) (r1 : Int) (r2 : List (S41)) (r3 : Int) (r4 : Int) (r5 : Int) (r6 : Int) (r7 : Int) (r8 : List (S41)) (r9 : Int) (r10 : Int) (r11 : List (S35)) (r12 : Int) (w : World) (h : code_Get.f a0 = some (r1, r2, r3, r4, r5, r6, r7, r8, r9, r10, r11, r12)) :
    Calls Try.prog 30 #[.string a0] w fun e w' => ∃ v1_ v7_ v10_ : Value, e = .returned (.tuple #[.agg #[.int .i64 r1, v1_, .int .i64 r3, .int .i64 r4, .int .i64 r5, .int .i64 r6, .int .i64 r7, v7_, .int .i64 r9, .int .i64 r10, v10_], .int .i64 r12]) ∧ Kd.R k41 41 w' w.heap.size (fun k_ => some k_ ≠ (v7_ : Value).ownBlock) v1_ r2 ∧ Kd.R k41 41 w' w.heap.size (fun k_ => some k_ ≠ (v1_ : Value).ownBlock) v7_ r8 ∧ Kd.R k35 35 w' w.heap.size (fun _ => True) v10_ r11 ∧ Below w.heap.size w w' := by
  unfold code_Get.f at h
  split at h
  · rename_i hl
    split at h
    · rename_i b hb
      have H := get_core a0 b w hl hb
      split at h
      · rename_i hc
        simp only [Option.some.injEq, Prod.mk.injEq] at h
        obtain ⟨rfl, rfl, rfl, rfl, rfl, rfl, rfl, rfl, rfl, rfl, rfl, rfl⟩ := h
        refine H.mono ?_
        rintro e w' ⟨v1, v7, v10, he, ho, hbw⟩
        refine ⟨_, _, _, ?_, Kd.R_nil _ _ _ _ _, Kd.R_nil _ _ _ _ _, Kd.R_nil _ _ _ _ _, hbw⟩
        unfold getE at he
        rw [if_pos hc] at he
        exact he
      · rename_i hc
        simp only [Option.some.injEq, Prod.mk.injEq] at h
        obtain ⟨rfl, rfl, rfl, rfl, rfl, rfl, rfl, rfl, rfl, rfl, rfl, rfl⟩ := h
        refine H.mono ?_
        rintro e w' ⟨v1, v7, v10, he, ho, hbw⟩
        refine ⟨v1, v7, v10, ?_, ho.1, ho.2.1, ho.2.2, hbw⟩
        unfold getE at he
        rw [if_neg hc] at he
        exact he
    · cases h
  · cases h
end Go.Proofs.YtndgollcganhmaaQ.P
namespace Go.Proofs.YtndgollcganhmaaQ.P
open Go.RowKit Go.Proofs.YtndgollcganhmaaW.PrintWords Go.Proofs.YtndgollcganhmaaW.PrintLast Go.Proofs.YtndgollcganhmaaW.PrintMore
attribute [local go_sem] max2_int min2_int max_two min_two max_three min_three max_four min_four
def foghornlaw17_alive.f  : Option (Bool) := (code_Put.f 2 ([] : List (S41)) 0 0 0 0 0 (([(⟨(⟨#[97]⟩ : ByteArray), (⟨#[120]⟩ : ByteArray)⟩ : S41)] : List (S41))) 0 0 ([] : List (S35))).bind fun bt271 => ((code_Get.f bt271.1).bind fun bt273 => (if bt271.2 = 0 then (if bt273.2.2.2.2.2.2.2.2.2.2.2 = 0 then (if bt271.1.toList = ([2, 1, 1, 97, 1, 120] : List UInt8) then (some ((bt273.2.2.2.2.2.2.2.1.length : Int) == 1)) else (some false)) else (some false)) else (some false)))
set_option maxHeartbeats 8000000 in
set_option maxRecDepth 100000 in
theorem foghornlaw17_alive.calls  (r : Bool) (w : World) (h : foghornlaw17_alive.f  = some r) :
  Calls Try.prog 28 #[] w fun e w' => e = .returned (.bool r) ∧ Below w.heap.size w w' := by
 have hu41 := Try.underlying41
 have hu50 := Try.underlying50
 have HB := aA (Below.refl w.heap.size w)
 have H : ((code_Put.f 2 ([] : List (S41)) 0 0 0 0 0 (([(⟨(⟨#[97]⟩ : ByteArray), (⟨#[120]⟩ : ByteArray)⟩ : S41)] : List (S41))) 0 0 ([] : List (S35))).bind fun bt271 => ((code_Get.f bt271.1).bind fun bt273 => (if bt271.2 = 0 then (if bt273.2.2.2.2.2.2.2.2.2.2.2 = 0 then (if bt271.1.toList = ([2, 1, 1, 97, 1, 120] : List UInt8) then (some ((bt273.2.2.2.2.2.2.2.1.length : Int) == 1)) else (some false)) else (some false)) else (some false)))) = some r := h
 clear h
 obtain ⟨y268, hy268⟩ : ∃ y_ : List (S41), y_ = (([(⟨(⟨#[97]⟩ : ByteArray), (⟨#[120]⟩ : ByteArray)⟩ : S41)] : List (S41))) := ⟨_, rfl⟩
 replace H : ((code_Put.f 2 ([] : List (S41)) 0 0 0 0 0 y268 0 0 ([] : List (S35))).bind fun bt271 => ((code_Get.f bt271.1).bind fun bt273 => (if bt271.2 = 0 then (if bt273.2.2.2.2.2.2.2.2.2.2.2 = 0 then (if bt271.1.toList = ([2, 1, 1, 97, 1, 120] : List UInt8) then (some ((bt273.2.2.2.2.2.2.2.1.length : Int) == 1)) else (some false)) else (some false)) else (some false)))) = some r := by first | (rw [hy268]; with_reducible exact H) | (have H2_ := (Option.bind_some _ _).symm.trans H; rw [hy268]; with_reducible exact H2_) | (have H2_ := (Option.bind_some _ _).symm.trans H; with_reducible exact H2_) | with_reducible exact H | (rw [hy268]; exact H) | exact H
 have Ny268 := aA hy268
 clear hy268
 replace H := Option.bind_eq_some_iff.mp H
 obtain ⟨⟨t271, t272⟩, A10, H⟩ := H
 have A1 := aA A10
 clear A10
 replace H := Option.bind_eq_some_iff.mp H
 obtain ⟨⟨t273, t274, t277, t278, t279, t280, t281, t282, t285, t286, t287, t290⟩, A20, H⟩ := H
 have A2 := aA A20
 clear A20
 by_cases c3 : t272 = 0
 ·rw [if_pos c3] at H
  have c3b0 : (t272 == 0) = true := beq_iff_eq.mpr c3
  have c3b1 : (t272 != 0) = false := bne_eq_false_iff_eq.mpr c3
  clear c3
  by_cases c4 : t290 = 0
  ·rw [if_pos c4] at H
   have c4b0 : (t290 == 0) = true := beq_iff_eq.mpr c4
   have c4b1 : (t290 != 0) = false := bne_eq_false_iff_eq.mpr c4
   clear c4
   by_cases c5 : t271.toList = ([2, 1, 1, 97, 1, 120] : List UInt8)
   ·rw [if_pos c5] at H
    have c5b0 : (t271.toList == ([2, 1, 1, 97, 1, 120] : List UInt8)) = true := beq_iff_eq.mpr c5
    have c5b1 : (t271.toList != ([2, 1, 1, 97, 1, 120] : List UInt8)) = false := bne_eq_false_iff_eq.mpr c5
    clear c5
    obtain rfl := Option.some.inj H
    go_enter Try.func28, Try.ntmps28
    go_wp2_with (first | ((with_reducible refine gate_dst (N := 7) rfl ?_); (try (refine gate_guard (by rfl) ?_; dsimp only)); refine Kd.R_lit k41 _ 41 ?hg (N := 7) ?hd (xs := ([(⟨(⟨#[97]⟩ : ByteArray), (⟨#[120]⟩ : ByteArray)⟩ : S41)] : List (S41))) (inner := [.string (⟨#[97]⟩ : ByteArray), .string (⟨#[120]⟩ : ByteArray)]) (ok := fun _ => True) (okp := fun _ => True) ?hr ?hp (fun _ hk => hk) trivial (Below.refl _ _) (Nat.le_refl _) (by simp) ?_; (case hd => rfl); (case hg => rfl); (case hr => first | (go_simp; done) | (go_simp; rfl)); (case hp => exact (Reps.c2 (show Kd.M k41 _ _ _ (⟨(⟨#[97]⟩ : ByteArray), (⟨#[120]⟩ : ByteArray)⟩ : S41) [.string (⟨#[97]⟩ : ByteArray), .string (⟨#[120]⟩ : ByteArray)] from (k41_mkM _ _ _ (⟨(⟨#[97]⟩ : ByteArray), (⟨#[120]⟩ : ByteArray)⟩ : S41) )) (Reps.none _ _))); intro v269 w6 ho7 hb hg_ hnew_; clear hg_ hnew_; (first | rw [← Ny268.out] at ho7 | (simp only [Int.reduceToNat] at ho7; rw [← Ny268.out] at ho7)); have n0_ := aA (Kd.R_lower ho7 (below_size mB)); have n1_ := aA (below_step mB hb); clear HB; have HO270 := n0_; have HB := n1_; clear n0_ n1_ hb ho7; obtain ⟨Ao8, co8, eo8⟩ := Kd.R_slice HO270.out; subst eo8) | ((with_reducible refine gate_callee (f := 25) rfl ?_); refine goesL_ (some 9) rfl rfl Try.func25 (by kernel_rfl) rfl #[.agg #[.int .i64 2, .slice none 0 0, .int .i64 0, .int .i64 0, .int .i64 0, .int .i64 0, .int .i64 0, .slice Ao8 y268.length co8, .int .i64 0, .int .i64 0, .slice none 0 0]] rfl mS ?_; (refine (code_Put.calls 2 _ _ ([] : List (S41)) 0 0 0 0 0 _ _ y268 0 0 _ _ ([] : List (S35)) t271 t272 _ ?side1 ?side2 ?side3 ?side4 ?side5 ?side6 A1.out).mono ?_); (case side1 => exact Kd.C_nil _ _); (case side2 => exact Nat.le_refl _); (case side3 => exact mC ((Kd.R_reads' HO270.out).2.2)); (case side4 => exact (Kd.R_reads' HO270.out).2.1); (case side5 => exact Kd.C_nil _ _); (case side6 => exact Nat.le_refl _); rintro e w9 ⟨rfl, hb⟩; refine ⟨_, rfl, ?_⟩; have n0_ := aA (Kd.R_below (mR HO270.out) hb); have n1_ := aA (below_step mB hb); clear HO270 HB; have HO270 := n0_; have HB := n1_; clear n0_ n1_; (try clear hb); (try clear hb2); (try clear hk); (try clear hi)) | ((with_reducible refine gate_callee (f := 30) rfl ?_); refine goesL_ (some 14) rfl rfl Try.func30 (by kernel_rfl) rfl #[.string t271] rfl mS ?_; (with_reducible refine (code_Get.calls t271 t273 t274 t277 t278 t279 t280 t281 t282 t285 t286 t287 t290 _ A2.out).mono ?_); rintro e w10 ⟨v275, v283, v288, rfl, ho0, ho1, ho2, hb⟩; refine ⟨_, rfl, ?_⟩; have n0_ := aA (Kd.R_mono (Kd.R_told (Kd.R_told (Kd.R_old (mR HO270.out) hb) (Kd.R_base ho0)) (Kd.R_base ho1)) (fun _ h_ => h_.1)); have n1_ := aA (Kd.R_lower (Kd.R_new' ho0 (Kd.R_lt (mR HO270.out))) (below_size mB)); have n2_ := aA (Kd.R_lower (Kd.R_new' ho1 (Kd.R_lt (mR HO270.out))) (below_size mB)); have n3_ := aA (Kd.R_lower ho2 (below_size mB)); have n4_ := aA (below_step mB hb); clear HO270 HB; have HO270 := n0_; have HO276 := n1_; have HO284 := n2_; have HO289 := n3_; have HB := n4_; clear n0_ n1_ n2_ n3_ n4_; (try clear hb); (try clear hb2); (try clear hk); (try clear hi); (try clear ho0); (try clear ho1); (try clear ho2)) | ((with_reducible refine gate_dst (N := 3) rfl ?_); (try (refine gate_guard (by rfl) ?_; dsimp only)); refine box_event ?hg (N := 3) ?hd (cs := #[.int .i64 0, .slice none 0 0, .int .i64 0, .int .i64 0, .int .i64 0, .int .i64 0, .int .i64 0, .slice none 0 0, .int .i64 0, .int .i64 0, .slice none 0 0]) (t := 50) ?hr ?_; (case hd => rfl); (case hg => rfl); (case hr => first | (go_simp; done) | (go_simp; rfl)); intro gb291 hg w11 hbox hb; have n0_ := aA (Kd.R_below (mR HO270.out) hb); have n1_ := aA (Kd.R_below (mR HO276.out) hb); have n2_ := aA (Kd.R_below (mR HO284.out) hb); have n3_ := aA (Kd.R_below (mR HO289.out) hb); have n4_ := aA (below_step mB hb); have n5_ := aA (hbox); have n6_ := aA ((bZ hg mB)); have n7_ := aA ((bZ hg mB)); clear HO270 HO276 HO284 HO289 HB; have HO270 := n0_; have HO276 := n1_; have HO284 := n2_; have HO289 := n3_; have HB := n4_; have BK291 := n5_; have GW291 := n6_; have GE291 := n7_; clear n0_ n1_ n2_ n3_ n4_ n5_ n6_ n7_ hb hbox hg; obtain ⟨hcz12_0, hcz12_1, hcz12_2, hcz12_3, hcz12_4, hcz12_5, hcz12_6, hcz12_7, hcz12_8, hcz12_9, hcz12_10⟩ := bC11 BK291.out; obtain ⟨hfz12_0, hfz12_1, hfz12_2, hfz12_3, hfz12_4, hfz12_5, hfz12_6, hfz12_7, hfz12_8, hfz12_9, hfz12_10⟩ := bF11 BK291.out; obtain ⟨Ao13, co13, eo13⟩ := Kd.R_slice HO276.out; subst eo13; obtain ⟨Ao14, co14, eo14⟩ := Kd.R_slice HO284.out; subst eo14; obtain ⟨Ao15, co15, eo15⟩ := Kd.R_slice HO289.out; subst eo15))
    go_ret
    exact ⟨by first | rfl | (simp [errW_none, errW_some] <;> rfl) | (simp [*, errW_none, errW_some] <;> rfl), by repeat (first | (with_reducible first | exact HB.out | apply below_alloc | apply pw_below_drewN | apply below_drew1 | refine below_set ?_ GE291.out) | exact HB.out)⟩
   ·rw [if_neg c5] at H
    have c5b0 : (t271.toList == ([2, 1, 1, 97, 1, 120] : List UInt8)) = false := beq_eq_false_iff_ne.mpr c5
    have c5b1 : (t271.toList != ([2, 1, 1, 97, 1, 120] : List UInt8)) = true := bne_iff_ne.mpr c5
    obtain rfl := Option.some.inj H
    go_enter Try.func28, Try.ntmps28
    go_wp2_with (first | ((with_reducible refine gate_dst (N := 7) rfl ?_); (try (refine gate_guard (by rfl) ?_; dsimp only)); refine Kd.R_lit k41 _ 41 ?hg (N := 7) ?hd (xs := ([(⟨(⟨#[97]⟩ : ByteArray), (⟨#[120]⟩ : ByteArray)⟩ : S41)] : List (S41))) (inner := [.string (⟨#[97]⟩ : ByteArray), .string (⟨#[120]⟩ : ByteArray)]) (ok := fun _ => True) (okp := fun _ => True) ?hr ?hp (fun _ hk => hk) trivial (Below.refl _ _) (Nat.le_refl _) (by simp) ?_; (case hd => rfl); (case hg => rfl); (case hr => first | (go_simp; done) | (go_simp; rfl)); (case hp => exact (Reps.c2 (show Kd.M k41 _ _ _ (⟨(⟨#[97]⟩ : ByteArray), (⟨#[120]⟩ : ByteArray)⟩ : S41) [.string (⟨#[97]⟩ : ByteArray), .string (⟨#[120]⟩ : ByteArray)] from (k41_mkM _ _ _ (⟨(⟨#[97]⟩ : ByteArray), (⟨#[120]⟩ : ByteArray)⟩ : S41) )) (Reps.none _ _))); intro v269 w16 ho17 hb hg_ hnew_; clear hg_ hnew_; (first | rw [← Ny268.out] at ho17 | (simp only [Int.reduceToNat] at ho17; rw [← Ny268.out] at ho17)); have n0_ := aA (Kd.R_lower ho17 (below_size mB)); have n1_ := aA (below_step mB hb); clear HB; have HO270 := n0_; have HB := n1_; clear n0_ n1_ hb ho17; obtain ⟨Ao18, co18, eo18⟩ := Kd.R_slice HO270.out; subst eo18) | ((with_reducible refine gate_callee (f := 25) rfl ?_); refine goesL_ (some 9) rfl rfl Try.func25 (by kernel_rfl) rfl #[.agg #[.int .i64 2, .slice none 0 0, .int .i64 0, .int .i64 0, .int .i64 0, .int .i64 0, .int .i64 0, .slice Ao18 y268.length co18, .int .i64 0, .int .i64 0, .slice none 0 0]] rfl mS ?_; (refine (code_Put.calls 2 _ _ ([] : List (S41)) 0 0 0 0 0 _ _ y268 0 0 _ _ ([] : List (S35)) t271 t272 _ ?side1 ?side2 ?side3 ?side4 ?side5 ?side6 A1.out).mono ?_); (case side1 => exact Kd.C_nil _ _); (case side2 => exact Nat.le_refl _); (case side3 => exact mC ((Kd.R_reads' HO270.out).2.2)); (case side4 => exact (Kd.R_reads' HO270.out).2.1); (case side5 => exact Kd.C_nil _ _); (case side6 => exact Nat.le_refl _); rintro e w19 ⟨rfl, hb⟩; refine ⟨_, rfl, ?_⟩; have n0_ := aA (Kd.R_below (mR HO270.out) hb); have n1_ := aA (below_step mB hb); clear HO270 HB; have HO270 := n0_; have HB := n1_; clear n0_ n1_; (try clear hb); (try clear hb2); (try clear hk); (try clear hi)) | ((with_reducible refine gate_callee (f := 30) rfl ?_); refine goesL_ (some 14) rfl rfl Try.func30 (by kernel_rfl) rfl #[.string t271] rfl mS ?_; (with_reducible refine (code_Get.calls t271 t273 t274 t277 t278 t279 t280 t281 t282 t285 t286 t287 t290 _ A2.out).mono ?_); rintro e w20 ⟨v275, v283, v288, rfl, ho0, ho1, ho2, hb⟩; refine ⟨_, rfl, ?_⟩; have n0_ := aA (Kd.R_mono (Kd.R_told (Kd.R_told (Kd.R_old (mR HO270.out) hb) (Kd.R_base ho0)) (Kd.R_base ho1)) (fun _ h_ => h_.1)); have n1_ := aA (Kd.R_lower (Kd.R_new' ho0 (Kd.R_lt (mR HO270.out))) (below_size mB)); have n2_ := aA (Kd.R_lower (Kd.R_new' ho1 (Kd.R_lt (mR HO270.out))) (below_size mB)); have n3_ := aA (Kd.R_lower ho2 (below_size mB)); have n4_ := aA (below_step mB hb); clear HO270 HB; have HO270 := n0_; have HO276 := n1_; have HO284 := n2_; have HO289 := n3_; have HB := n4_; clear n0_ n1_ n2_ n3_ n4_; (try clear hb); (try clear hb2); (try clear hk); (try clear hi); (try clear ho0); (try clear ho1); (try clear ho2)) | ((with_reducible refine gate_dst (N := 3) rfl ?_); (try (refine gate_guard (by rfl) ?_; dsimp only)); refine box_event ?hg (N := 3) ?hd (cs := #[.int .i64 0, .slice none 0 0, .int .i64 0, .int .i64 0, .int .i64 0, .int .i64 0, .int .i64 0, .slice none 0 0, .int .i64 0, .int .i64 0, .slice none 0 0]) (t := 50) ?hr ?_; (case hd => rfl); (case hg => rfl); (case hr => first | (go_simp; done) | (go_simp; rfl)); intro gb291 hg w21 hbox hb; have n0_ := aA (Kd.R_below (mR HO270.out) hb); have n1_ := aA (Kd.R_below (mR HO276.out) hb); have n2_ := aA (Kd.R_below (mR HO284.out) hb); have n3_ := aA (Kd.R_below (mR HO289.out) hb); have n4_ := aA (below_step mB hb); have n5_ := aA (hbox); have n6_ := aA ((bZ hg mB)); have n7_ := aA ((bZ hg mB)); clear HO270 HO276 HO284 HO289 HB; have HO270 := n0_; have HO276 := n1_; have HO284 := n2_; have HO289 := n3_; have HB := n4_; have BK291 := n5_; have GW291 := n6_; have GE291 := n7_; clear n0_ n1_ n2_ n3_ n4_ n5_ n6_ n7_ hb hbox hg; obtain ⟨hcz22_0, hcz22_1, hcz22_2, hcz22_3, hcz22_4, hcz22_5, hcz22_6, hcz22_7, hcz22_8, hcz22_9, hcz22_10⟩ := bC11 BK291.out; obtain ⟨hfz22_0, hfz22_1, hfz22_2, hfz22_3, hfz22_4, hfz22_5, hfz22_6, hfz22_7, hfz22_8, hfz22_9, hfz22_10⟩ := bF11 BK291.out; obtain ⟨Ao23, co23, eo23⟩ := Kd.R_slice HO276.out; subst eo23; obtain ⟨Ao24, co24, eo24⟩ := Kd.R_slice HO284.out; subst eo24; obtain ⟨Ao25, co25, eo25⟩ := Kd.R_slice HO289.out; subst eo25))
    go_ret
    exact ⟨by first | rfl | (simp [errW_none, errW_some] <;> rfl) | (simp [*, errW_none, errW_some] <;> rfl), by repeat (first | (with_reducible first | exact HB.out | apply below_alloc | apply pw_below_drewN | apply below_drew1 | refine below_set ?_ GE291.out) | exact HB.out)⟩
  ·rw [if_neg c4] at H
   have c4b0 : (t290 == 0) = false := beq_eq_false_iff_ne.mpr c4
   have c4b1 : (t290 != 0) = true := bne_iff_ne.mpr c4
   obtain rfl := Option.some.inj H
   go_enter Try.func28, Try.ntmps28
   go_wp2_with (first | ((with_reducible refine gate_dst (N := 7) rfl ?_); (try (refine gate_guard (by rfl) ?_; dsimp only)); refine Kd.R_lit k41 _ 41 ?hg (N := 7) ?hd (xs := ([(⟨(⟨#[97]⟩ : ByteArray), (⟨#[120]⟩ : ByteArray)⟩ : S41)] : List (S41))) (inner := [.string (⟨#[97]⟩ : ByteArray), .string (⟨#[120]⟩ : ByteArray)]) (ok := fun _ => True) (okp := fun _ => True) ?hr ?hp (fun _ hk => hk) trivial (Below.refl _ _) (Nat.le_refl _) (by simp) ?_; (case hd => rfl); (case hg => rfl); (case hr => first | (go_simp; done) | (go_simp; rfl)); (case hp => exact (Reps.c2 (show Kd.M k41 _ _ _ (⟨(⟨#[97]⟩ : ByteArray), (⟨#[120]⟩ : ByteArray)⟩ : S41) [.string (⟨#[97]⟩ : ByteArray), .string (⟨#[120]⟩ : ByteArray)] from (k41_mkM _ _ _ (⟨(⟨#[97]⟩ : ByteArray), (⟨#[120]⟩ : ByteArray)⟩ : S41) )) (Reps.none _ _))); intro v269 w26 ho27 hb hg_ hnew_; clear hg_ hnew_; (first | rw [← Ny268.out] at ho27 | (simp only [Int.reduceToNat] at ho27; rw [← Ny268.out] at ho27)); have n0_ := aA (Kd.R_lower ho27 (below_size mB)); have n1_ := aA (below_step mB hb); clear HB; have HO270 := n0_; have HB := n1_; clear n0_ n1_ hb ho27; obtain ⟨Ao28, co28, eo28⟩ := Kd.R_slice HO270.out; subst eo28) | ((with_reducible refine gate_callee (f := 25) rfl ?_); refine goesL_ (some 9) rfl rfl Try.func25 (by kernel_rfl) rfl #[.agg #[.int .i64 2, .slice none 0 0, .int .i64 0, .int .i64 0, .int .i64 0, .int .i64 0, .int .i64 0, .slice Ao28 y268.length co28, .int .i64 0, .int .i64 0, .slice none 0 0]] rfl mS ?_; (refine (code_Put.calls 2 _ _ ([] : List (S41)) 0 0 0 0 0 _ _ y268 0 0 _ _ ([] : List (S35)) t271 t272 _ ?side1 ?side2 ?side3 ?side4 ?side5 ?side6 A1.out).mono ?_); (case side1 => exact Kd.C_nil _ _); (case side2 => exact Nat.le_refl _); (case side3 => exact mC ((Kd.R_reads' HO270.out).2.2)); (case side4 => exact (Kd.R_reads' HO270.out).2.1); (case side5 => exact Kd.C_nil _ _); (case side6 => exact Nat.le_refl _); rintro e w29 ⟨rfl, hb⟩; refine ⟨_, rfl, ?_⟩; have n0_ := aA (Kd.R_below (mR HO270.out) hb); have n1_ := aA (below_step mB hb); clear HO270 HB; have HO270 := n0_; have HB := n1_; clear n0_ n1_; (try clear hb); (try clear hb2); (try clear hk); (try clear hi)) | ((with_reducible refine gate_callee (f := 30) rfl ?_); refine goesL_ (some 14) rfl rfl Try.func30 (by kernel_rfl) rfl #[.string t271] rfl mS ?_; (with_reducible refine (code_Get.calls t271 t273 t274 t277 t278 t279 t280 t281 t282 t285 t286 t287 t290 _ A2.out).mono ?_); rintro e w30 ⟨v275, v283, v288, rfl, ho0, ho1, ho2, hb⟩; refine ⟨_, rfl, ?_⟩; have n0_ := aA (Kd.R_mono (Kd.R_told (Kd.R_told (Kd.R_old (mR HO270.out) hb) (Kd.R_base ho0)) (Kd.R_base ho1)) (fun _ h_ => h_.1)); have n1_ := aA (Kd.R_lower (Kd.R_new' ho0 (Kd.R_lt (mR HO270.out))) (below_size mB)); have n2_ := aA (Kd.R_lower (Kd.R_new' ho1 (Kd.R_lt (mR HO270.out))) (below_size mB)); have n3_ := aA (Kd.R_lower ho2 (below_size mB)); have n4_ := aA (below_step mB hb); clear HO270 HB; have HO270 := n0_; have HO276 := n1_; have HO284 := n2_; have HO289 := n3_; have HB := n4_; clear n0_ n1_ n2_ n3_ n4_; (try clear hb); (try clear hb2); (try clear hk); (try clear hi); (try clear ho0); (try clear ho1); (try clear ho2)) | ((with_reducible refine gate_dst (N := 3) rfl ?_); (try (refine gate_guard (by rfl) ?_; dsimp only)); refine box_event ?hg (N := 3) ?hd (cs := #[.int .i64 0, .slice none 0 0, .int .i64 0, .int .i64 0, .int .i64 0, .int .i64 0, .int .i64 0, .slice none 0 0, .int .i64 0, .int .i64 0, .slice none 0 0]) (t := 50) ?hr ?_; (case hd => rfl); (case hg => rfl); (case hr => first | (go_simp; done) | (go_simp; rfl)); intro gb291 hg w31 hbox hb; have n0_ := aA (Kd.R_below (mR HO270.out) hb); have n1_ := aA (Kd.R_below (mR HO276.out) hb); have n2_ := aA (Kd.R_below (mR HO284.out) hb); have n3_ := aA (Kd.R_below (mR HO289.out) hb); have n4_ := aA (below_step mB hb); have n5_ := aA (hbox); have n6_ := aA ((bZ hg mB)); have n7_ := aA ((bZ hg mB)); clear HO270 HO276 HO284 HO289 HB; have HO270 := n0_; have HO276 := n1_; have HO284 := n2_; have HO289 := n3_; have HB := n4_; have BK291 := n5_; have GW291 := n6_; have GE291 := n7_; clear n0_ n1_ n2_ n3_ n4_ n5_ n6_ n7_ hb hbox hg; obtain ⟨hcz32_0, hcz32_1, hcz32_2, hcz32_3, hcz32_4, hcz32_5, hcz32_6, hcz32_7, hcz32_8, hcz32_9, hcz32_10⟩ := bC11 BK291.out; obtain ⟨hfz32_0, hfz32_1, hfz32_2, hfz32_3, hfz32_4, hfz32_5, hfz32_6, hfz32_7, hfz32_8, hfz32_9, hfz32_10⟩ := bF11 BK291.out; obtain ⟨Ao33, co33, eo33⟩ := Kd.R_slice HO276.out; subst eo33; obtain ⟨Ao34, co34, eo34⟩ := Kd.R_slice HO284.out; subst eo34; obtain ⟨Ao35, co35, eo35⟩ := Kd.R_slice HO289.out; subst eo35))
   go_ret
   exact ⟨by first | rfl | (simp [errW_none, errW_some] <;> rfl) | (simp [*, errW_none, errW_some] <;> rfl), by repeat (first | (with_reducible first | exact HB.out | apply below_alloc | apply pw_below_drewN | apply below_drew1 | refine below_set ?_ GE291.out) | exact HB.out)⟩
 ·rw [if_neg c3] at H
  have c3b0 : (t272 == 0) = false := beq_eq_false_iff_ne.mpr c3
  have c3b1 : (t272 != 0) = true := bne_iff_ne.mpr c3
  obtain rfl := Option.some.inj H
  go_enter Try.func28, Try.ntmps28
  go_wp2_with (first | ((with_reducible refine gate_dst (N := 7) rfl ?_); (try (refine gate_guard (by rfl) ?_; dsimp only)); refine Kd.R_lit k41 _ 41 ?hg (N := 7) ?hd (xs := ([(⟨(⟨#[97]⟩ : ByteArray), (⟨#[120]⟩ : ByteArray)⟩ : S41)] : List (S41))) (inner := [.string (⟨#[97]⟩ : ByteArray), .string (⟨#[120]⟩ : ByteArray)]) (ok := fun _ => True) (okp := fun _ => True) ?hr ?hp (fun _ hk => hk) trivial (Below.refl _ _) (Nat.le_refl _) (by simp) ?_; (case hd => rfl); (case hg => rfl); (case hr => first | (go_simp; done) | (go_simp; rfl)); (case hp => exact (Reps.c2 (show Kd.M k41 _ _ _ (⟨(⟨#[97]⟩ : ByteArray), (⟨#[120]⟩ : ByteArray)⟩ : S41) [.string (⟨#[97]⟩ : ByteArray), .string (⟨#[120]⟩ : ByteArray)] from (k41_mkM _ _ _ (⟨(⟨#[97]⟩ : ByteArray), (⟨#[120]⟩ : ByteArray)⟩ : S41) )) (Reps.none _ _))); intro v269 w36 ho37 hb hg_ hnew_; clear hg_ hnew_; (first | rw [← Ny268.out] at ho37 | (simp only [Int.reduceToNat] at ho37; rw [← Ny268.out] at ho37)); have n0_ := aA (Kd.R_lower ho37 (below_size mB)); have n1_ := aA (below_step mB hb); clear HB; have HO270 := n0_; have HB := n1_; clear n0_ n1_ hb ho37; obtain ⟨Ao38, co38, eo38⟩ := Kd.R_slice HO270.out; subst eo38) | ((with_reducible refine gate_callee (f := 25) rfl ?_); refine goesL_ (some 9) rfl rfl Try.func25 (by kernel_rfl) rfl #[.agg #[.int .i64 2, .slice none 0 0, .int .i64 0, .int .i64 0, .int .i64 0, .int .i64 0, .int .i64 0, .slice Ao38 y268.length co38, .int .i64 0, .int .i64 0, .slice none 0 0]] rfl mS ?_; (refine (code_Put.calls 2 _ _ ([] : List (S41)) 0 0 0 0 0 _ _ y268 0 0 _ _ ([] : List (S35)) t271 t272 _ ?side1 ?side2 ?side3 ?side4 ?side5 ?side6 A1.out).mono ?_); (case side1 => exact Kd.C_nil _ _); (case side2 => exact Nat.le_refl _); (case side3 => exact mC ((Kd.R_reads' HO270.out).2.2)); (case side4 => exact (Kd.R_reads' HO270.out).2.1); (case side5 => exact Kd.C_nil _ _); (case side6 => exact Nat.le_refl _); rintro e w39 ⟨rfl, hb⟩; refine ⟨_, rfl, ?_⟩; have n0_ := aA (Kd.R_below (mR HO270.out) hb); have n1_ := aA (below_step mB hb); clear HO270 HB; have HO270 := n0_; have HB := n1_; clear n0_ n1_; (try clear hb); (try clear hb2); (try clear hk); (try clear hi)) | ((with_reducible refine gate_callee (f := 30) rfl ?_); refine goesL_ (some 14) rfl rfl Try.func30 (by kernel_rfl) rfl #[.string t271] rfl mS ?_; (with_reducible refine (code_Get.calls t271 t273 t274 t277 t278 t279 t280 t281 t282 t285 t286 t287 t290 _ A2.out).mono ?_); rintro e w40 ⟨v275, v283, v288, rfl, ho0, ho1, ho2, hb⟩; refine ⟨_, rfl, ?_⟩; have n0_ := aA (Kd.R_mono (Kd.R_told (Kd.R_told (Kd.R_old (mR HO270.out) hb) (Kd.R_base ho0)) (Kd.R_base ho1)) (fun _ h_ => h_.1)); have n1_ := aA (Kd.R_lower (Kd.R_new' ho0 (Kd.R_lt (mR HO270.out))) (below_size mB)); have n2_ := aA (Kd.R_lower (Kd.R_new' ho1 (Kd.R_lt (mR HO270.out))) (below_size mB)); have n3_ := aA (Kd.R_lower ho2 (below_size mB)); have n4_ := aA (below_step mB hb); clear HO270 HB; have HO270 := n0_; have HO276 := n1_; have HO284 := n2_; have HO289 := n3_; have HB := n4_; clear n0_ n1_ n2_ n3_ n4_; (try clear hb); (try clear hb2); (try clear hk); (try clear hi); (try clear ho0); (try clear ho1); (try clear ho2)) | ((with_reducible refine gate_dst (N := 3) rfl ?_); (try (refine gate_guard (by rfl) ?_; dsimp only)); refine box_event ?hg (N := 3) ?hd (cs := #[.int .i64 0, .slice none 0 0, .int .i64 0, .int .i64 0, .int .i64 0, .int .i64 0, .int .i64 0, .slice none 0 0, .int .i64 0, .int .i64 0, .slice none 0 0]) (t := 50) ?hr ?_; (case hd => rfl); (case hg => rfl); (case hr => first | (go_simp; done) | (go_simp; rfl)); intro gb291 hg w41 hbox hb; have n0_ := aA (Kd.R_below (mR HO270.out) hb); have n1_ := aA (Kd.R_below (mR HO276.out) hb); have n2_ := aA (Kd.R_below (mR HO284.out) hb); have n3_ := aA (Kd.R_below (mR HO289.out) hb); have n4_ := aA (below_step mB hb); have n5_ := aA (hbox); have n6_ := aA ((bZ hg mB)); have n7_ := aA ((bZ hg mB)); clear HO270 HO276 HO284 HO289 HB; have HO270 := n0_; have HO276 := n1_; have HO284 := n2_; have HO289 := n3_; have HB := n4_; have BK291 := n5_; have GW291 := n6_; have GE291 := n7_; clear n0_ n1_ n2_ n3_ n4_ n5_ n6_ n7_ hb hbox hg; obtain ⟨hcz42_0, hcz42_1, hcz42_2, hcz42_3, hcz42_4, hcz42_5, hcz42_6, hcz42_7, hcz42_8, hcz42_9, hcz42_10⟩ := bC11 BK291.out; obtain ⟨hfz42_0, hfz42_1, hfz42_2, hfz42_3, hfz42_4, hfz42_5, hfz42_6, hfz42_7, hfz42_8, hfz42_9, hfz42_10⟩ := bF11 BK291.out; obtain ⟨Ao43, co43, eo43⟩ := Kd.R_slice HO276.out; subst eo43; obtain ⟨Ao44, co44, eo44⟩ := Kd.R_slice HO284.out; subst eo44; obtain ⟨Ao45, co45, eo45⟩ := Kd.R_slice HO289.out; subst eo45))
  go_ret
  exact ⟨by first | rfl | (simp [errW_none, errW_some] <;> rfl) | (simp [*, errW_none, errW_some] <;> rfl), by repeat (first | (with_reducible first | exact HB.out | apply below_alloc | apply pw_below_drewN | apply below_drew1 | refine below_set ?_ GE291.out) | exact HB.out)⟩
end Go.Proofs.YtndgollcganhmaaQ.P
namespace Go.Proofs.YtndgollcganhmaaQ.P
open Go.RowKit Go.Proofs.YtndgollcganhmaaW.PrintWords Go.Proofs.Ytndgollcganhmaa
def foghornref10_Same.f (l0 l1 : List S41) : Option Bool := some (decide (l0.map toLab = l1.map toLab))
theorem foghornref10_Same.calls (A0 : Option Addr) (c0 : Nat) (l0 : List S41) (A1 : Option Addr) (c1 : Nat) (l1 : List S41) (r : Bool) (w : World) (hr0 : Kd.C k41 w A0 l0.length l0) (hc0 : l0.length ≤ c0) (hr1 : Kd.C k41 w A1 l1.length l1) (hc1 : l1.length ≤ c1) (h : foghornref10_Same.f l0 l1 = some r) :
    Calls Try.prog 17 #[.slice A0 l0.length c0, .slice A1 l1.length c1] w fun e w' => e = .returned (.bool r) ∧ Below w.heap.size w w' := by
  obtain rfl := Option.some.inj h
  exact refSameL_any _ _ _ _ w (labs_c hr0 hc0) (labs_c hr1 hc1)
end Go.Proofs.YtndgollcganhmaaQ.P
namespace Go.Proofs.YtndgollcganhmaaQ.P
open Go.RowKit Go.Proofs.YtndgollcganhmaaW.PrintWords Go.Proofs.YtndgollcganhmaaW.PrintLast Go.Proofs.YtndgollcganhmaaW.PrintMore
attribute [local go_sem] max2_int min2_int max_two min_two max_three min_three max_four min_four
def foghornref16_Same.f (l0_0 : List (S41)) (a0_1 : Int) (a0_2 : Int) (a0_3 : Int) (a0_4 : Int) (a0_5 : Int) (l1_0 : List (S41)) (a1_1 : Int) (a1_2 : Int) (a1_3 : Int) (a1_4 : Int) (a1_5 : Int) : Option (Bool) := (foghornref10_Same.f l0_0 l1_0).bind fun t249 => (if t249 = true then (if a0_1 = a1_1 then (if a0_2 = a1_2 then (if a0_3 = a1_3 then (if a0_4 = a1_4 then (some (a0_5 == a1_5)) else (some false)) else (some false)) else (some false)) else (some false)) else (some false))
set_option maxHeartbeats 8000000 in
set_option maxRecDepth 100000 in
theorem foghornref16_Same.calls (A0_0 : Option Addr) (c0_0 : Nat) (l0_0 : List (S41)) (a0_1 : Int) (a0_2 : Int) (a0_3 : Int) (a0_4 : Int) (a0_5 : Int) (A1_0 : Option Addr) (c1_0 : Nat) (l1_0 : List (S41)) (a1_1 : Int) (a1_2 : Int) (a1_3 : Int) (a1_4 : Int) (a1_5 : Int) (r : Bool) (w : World) (hr0_0 : Kd.C k41 w A0_0 l0_0.length l0_0) (hc0_0 : l0_0.length ≤ c0_0) (hr1_0 : Kd.C k41 w A1_0 l1_0.length l1_0) (hc1_0 : l1_0.length ≤ c1_0) (h : foghornref16_Same.f l0_0 a0_1 a0_2 a0_3 a0_4 a0_5 l1_0 a1_1 a1_2 a1_3 a1_4 a1_5 = some r) :
  Calls Try.prog 53 #[.agg #[.slice A0_0 l0_0.length c0_0, .int .i64 a0_1, .int .i64 a0_2, .int .i64 a0_3, .int .i64 a0_4, .int .i64 a0_5], .agg #[.slice A1_0 l1_0.length c1_0, .int .i64 a1_1, .int .i64 a1_2, .int .i64 a1_3, .int .i64 a1_4, .int .i64 a1_5]] w fun e w' => e = .returned (.bool r) ∧ Below w.heap.size w w' := by
 have hu46 := Try.underlying46
 have HR0_0 := aA hr0_0
 have HC0_0 := aA hc0_0
 clear hr0_0 hc0_0
 have HR1_0 := aA hr1_0
 have HC1_0 := aA hc1_0
 clear hr1_0 hc1_0
 have HB := aA (Below.refl w.heap.size w)
 have H : ((foghornref10_Same.f l0_0 l1_0).bind fun t249 => (if t249 = true then (if a0_1 = a1_1 then (if a0_2 = a1_2 then (if a0_3 = a1_3 then (if a0_4 = a1_4 then (some (a0_5 == a1_5)) else (some false)) else (some false)) else (some false)) else (some false)) else (some false))) = some r := h
 clear h
 replace H := Option.bind_eq_some_iff.mp H
 obtain ⟨t249, A30, H⟩ := H
 have A3 := aA A30
 clear A30
 by_cases c4 : t249 = true
 ·subst c4
  have H1 : (if a0_1 = a1_1 then (if a0_2 = a1_2 then (if a0_3 = a1_3 then (if a0_4 = a1_4 then (some (a0_5 == a1_5)) else (some false)) else (some false)) else (some false)) else (some false)) = some r := by rw [if_pos rfl] at H; exact H
  clear H
  have H := H1
  clear H1
  by_cases c5 : a0_1 = a1_1
  ·rw [if_pos c5] at H
   have c5b0 : (a0_1 == a1_1) = true := beq_iff_eq.mpr c5
   have c5b1 : (a0_1 != a1_1) = false := bne_eq_false_iff_eq.mpr c5
   clear c5
   by_cases c6 : a0_2 = a1_2
   ·rw [if_pos c6] at H
    have c6b0 : (a0_2 == a1_2) = true := beq_iff_eq.mpr c6
    have c6b1 : (a0_2 != a1_2) = false := bne_eq_false_iff_eq.mpr c6
    clear c6
    by_cases c7 : a0_3 = a1_3
    ·rw [if_pos c7] at H
     have c7b0 : (a0_3 == a1_3) = true := beq_iff_eq.mpr c7
     have c7b1 : (a0_3 != a1_3) = false := bne_eq_false_iff_eq.mpr c7
     clear c7
     by_cases c8 : a0_4 = a1_4
     ·rw [if_pos c8] at H
      have c8b0 : (a0_4 == a1_4) = true := beq_iff_eq.mpr c8
      have c8b1 : (a0_4 != a1_4) = false := bne_eq_false_iff_eq.mpr c8
      clear c8
      obtain rfl := Option.some.inj H
      go_enter Try.func53, Try.ntmps53
      go_wp2_with (first | ((with_reducible refine gate_dst (N := 2) rfl ?_); refine box_event ?hg (N := 2) ?hd (cs := #[.slice A0_0 l0_0.length c0_0, .int .i64 a0_1, .int .i64 a0_2, .int .i64 a0_3, .int .i64 a0_4, .int .i64 a0_5]) (t := 46) ?hr ?_; (case hd => rfl); (case hg => rfl); (case hr => first | (go_simp; done) | (go_simp; rfl)); intro gb247 hg w9 hbox hb; have n0_ := aA (below_step mB hb); have n1_ := aA (hbox); have n2_ := aA ((bZ hg mB)); have n3_ := aA ((bZ hg mB)); clear HB; have HB := n0_; have BK247 := n1_; have GW247 := n2_; have GE247 := n3_; clear n0_ n1_ n2_ n3_ hb hbox hg) | ((with_reducible refine gate_dst (N := 3) rfl ?_); refine box_event ?hg (N := 3) ?hd (cs := #[.slice A1_0 l1_0.length c1_0, .int .i64 a1_1, .int .i64 a1_2, .int .i64 a1_3, .int .i64 a1_4, .int .i64 a1_5]) (t := 46) ?hr ?_; (case hd => rfl); (case hg => rfl); (case hr => first | (go_simp; done) | (go_simp; rfl)); intro gb248 hg w10 hbox hb; have n0_ := aA (bB BK247.out hb); have n1_ := aA (below_step (mD1 GE247.out) hb); have n2_ := aA (hbox); have n3_ := aA ((bZ hg (mD1 GE247.out))); have n4_ := aA ((bZ hg (mD1 GE247.out))); have n5_ := aA ((bL hg BK247.out)); have n6_ := aA ((bG hg BK247.out)); clear BK247 HB; have BK247 := n0_; have HB := n1_; have BK248 := n2_; have GW248 := n3_; have GE248 := n4_; have NB247_248 := n5_; have NB248_247 := n6_; clear n0_ n1_ n2_ n3_ n4_ n5_ n6_ hb hbox hg; have hnb11 := NB247_248.out; have hnc11 := NB248_247.out; obtain ⟨hcz12_0, hcz12_1, hcz12_2, hcz12_3, hcz12_4, hcz12_5⟩ := bC6 BK247.out; obtain ⟨hfz12_0, hfz12_1, hfz12_2, hfz12_3, hfz12_4, hfz12_5⟩ := bF6 BK247.out; obtain ⟨hcz13_0, hcz13_1, hcz13_2, hcz13_3, hcz13_4, hcz13_5⟩ := bC6 BK248.out; obtain ⟨hfz13_0, hfz13_1, hfz13_2, hfz13_3, hfz13_4, hfz13_5⟩ := bF6 BK248.out) | ((with_reducible refine gate_callee (f := 17) rfl ?_); refine goesL_ (some 9) rfl rfl Try.func17 (by kernel_rfl) rfl #[.slice A0_0 l0_0.length c0_0, .slice A1_0 l1_0.length c1_0] rfl mS ?_; (with_reducible refine (foghornref10_Same.calls _ _ l0_0 _ _ l1_0 true _ ?side1 ?side2 ?side3 ?side4 A3.out).mono ?_); (case side1 => exact mC ((Kd.C_below HR0_0.out HB.out))); (case side2 => exact HC0_0.out); (case side3 => exact mC ((Kd.C_below HR1_0.out HB.out))); (case side4 => exact HC1_0.out); rintro e w14 ⟨rfl, hb⟩; refine ⟨_, rfl, ?_⟩; have n0_ := aA (bB BK247.out hb); have n1_ := aA (bB BK248.out hb); have n2_ := aA (below_step (mD2 GE247.out GE248.out) hb); clear BK247 BK248 HB; have BK247 := n0_; have BK248 := n1_; have HB := n2_; clear n0_ n1_ n2_; (try clear hb); (try clear hb2); (try clear hk); (try clear hi); obtain ⟨hcz15_0, hcz15_1, hcz15_2, hcz15_3, hcz15_4, hcz15_5⟩ := bC6 BK247.out; obtain ⟨hfz15_0, hfz15_1, hfz15_2, hfz15_3, hfz15_4, hfz15_5⟩ := bF6 BK247.out; obtain ⟨hcz16_0, hcz16_1, hcz16_2, hcz16_3, hcz16_4, hcz16_5⟩ := bC6 BK248.out; obtain ⟨hfz16_0, hfz16_1, hfz16_2, hfz16_3, hfz16_4, hfz16_5⟩ := bF6 BK248.out))
      go_ret
      exact ⟨by first | rfl | (simp [errW_none, errW_some] <;> rfl) | (simp [*, errW_none, errW_some] <;> rfl), by repeat (first | (with_reducible first | exact HB.out | apply below_alloc | apply pw_below_drewN | apply below_drew1 | refine below_set ?_ GE247.out | refine below_set ?_ GE248.out) | exact HB.out)⟩
     ·rw [if_neg c8] at H
      have c8b0 : (a0_4 == a1_4) = false := beq_eq_false_iff_ne.mpr c8
      have c8b1 : (a0_4 != a1_4) = true := bne_iff_ne.mpr c8
      obtain rfl := Option.some.inj H
      go_enter Try.func53, Try.ntmps53
      go_wp2_with (first | ((with_reducible refine gate_dst (N := 2) rfl ?_); refine box_event ?hg (N := 2) ?hd (cs := #[.slice A0_0 l0_0.length c0_0, .int .i64 a0_1, .int .i64 a0_2, .int .i64 a0_3, .int .i64 a0_4, .int .i64 a0_5]) (t := 46) ?hr ?_; (case hd => rfl); (case hg => rfl); (case hr => first | (go_simp; done) | (go_simp; rfl)); intro gb247 hg w17 hbox hb; have n0_ := aA (below_step mB hb); have n1_ := aA (hbox); have n2_ := aA ((bZ hg mB)); have n3_ := aA ((bZ hg mB)); clear HB; have HB := n0_; have BK247 := n1_; have GW247 := n2_; have GE247 := n3_; clear n0_ n1_ n2_ n3_ hb hbox hg) | ((with_reducible refine gate_dst (N := 3) rfl ?_); refine box_event ?hg (N := 3) ?hd (cs := #[.slice A1_0 l1_0.length c1_0, .int .i64 a1_1, .int .i64 a1_2, .int .i64 a1_3, .int .i64 a1_4, .int .i64 a1_5]) (t := 46) ?hr ?_; (case hd => rfl); (case hg => rfl); (case hr => first | (go_simp; done) | (go_simp; rfl)); intro gb248 hg w18 hbox hb; have n0_ := aA (bB BK247.out hb); have n1_ := aA (below_step (mD1 GE247.out) hb); have n2_ := aA (hbox); have n3_ := aA ((bZ hg (mD1 GE247.out))); have n4_ := aA ((bZ hg (mD1 GE247.out))); have n5_ := aA ((bL hg BK247.out)); have n6_ := aA ((bG hg BK247.out)); clear BK247 HB; have BK247 := n0_; have HB := n1_; have BK248 := n2_; have GW248 := n3_; have GE248 := n4_; have NB247_248 := n5_; have NB248_247 := n6_; clear n0_ n1_ n2_ n3_ n4_ n5_ n6_ hb hbox hg; have hnb19 := NB247_248.out; have hnc19 := NB248_247.out; obtain ⟨hcz20_0, hcz20_1, hcz20_2, hcz20_3, hcz20_4, hcz20_5⟩ := bC6 BK247.out; obtain ⟨hfz20_0, hfz20_1, hfz20_2, hfz20_3, hfz20_4, hfz20_5⟩ := bF6 BK247.out; obtain ⟨hcz21_0, hcz21_1, hcz21_2, hcz21_3, hcz21_4, hcz21_5⟩ := bC6 BK248.out; obtain ⟨hfz21_0, hfz21_1, hfz21_2, hfz21_3, hfz21_4, hfz21_5⟩ := bF6 BK248.out) | ((with_reducible refine gate_callee (f := 17) rfl ?_); refine goesL_ (some 9) rfl rfl Try.func17 (by kernel_rfl) rfl #[.slice A0_0 l0_0.length c0_0, .slice A1_0 l1_0.length c1_0] rfl mS ?_; (with_reducible refine (foghornref10_Same.calls _ _ l0_0 _ _ l1_0 true _ ?side1 ?side2 ?side3 ?side4 A3.out).mono ?_); (case side1 => exact mC ((Kd.C_below HR0_0.out HB.out))); (case side2 => exact HC0_0.out); (case side3 => exact mC ((Kd.C_below HR1_0.out HB.out))); (case side4 => exact HC1_0.out); rintro e w22 ⟨rfl, hb⟩; refine ⟨_, rfl, ?_⟩; have n0_ := aA (bB BK247.out hb); have n1_ := aA (bB BK248.out hb); have n2_ := aA (below_step (mD2 GE247.out GE248.out) hb); clear BK247 BK248 HB; have BK247 := n0_; have BK248 := n1_; have HB := n2_; clear n0_ n1_ n2_; (try clear hb); (try clear hb2); (try clear hk); (try clear hi); obtain ⟨hcz23_0, hcz23_1, hcz23_2, hcz23_3, hcz23_4, hcz23_5⟩ := bC6 BK247.out; obtain ⟨hfz23_0, hfz23_1, hfz23_2, hfz23_3, hfz23_4, hfz23_5⟩ := bF6 BK247.out; obtain ⟨hcz24_0, hcz24_1, hcz24_2, hcz24_3, hcz24_4, hcz24_5⟩ := bC6 BK248.out; obtain ⟨hfz24_0, hfz24_1, hfz24_2, hfz24_3, hfz24_4, hfz24_5⟩ := bF6 BK248.out))
      go_ret
      exact ⟨by first | rfl | (simp [errW_none, errW_some] <;> rfl) | (simp [*, errW_none, errW_some] <;> rfl), by repeat (first | (with_reducible first | exact HB.out | apply below_alloc | apply pw_below_drewN | apply below_drew1 | refine below_set ?_ GE247.out | refine below_set ?_ GE248.out) | exact HB.out)⟩
    ·rw [if_neg c7] at H
     have c7b0 : (a0_3 == a1_3) = false := beq_eq_false_iff_ne.mpr c7
     have c7b1 : (a0_3 != a1_3) = true := bne_iff_ne.mpr c7
     obtain rfl := Option.some.inj H
     go_enter Try.func53, Try.ntmps53
     go_wp2_with (first | ((with_reducible refine gate_dst (N := 2) rfl ?_); refine box_event ?hg (N := 2) ?hd (cs := #[.slice A0_0 l0_0.length c0_0, .int .i64 a0_1, .int .i64 a0_2, .int .i64 a0_3, .int .i64 a0_4, .int .i64 a0_5]) (t := 46) ?hr ?_; (case hd => rfl); (case hg => rfl); (case hr => first | (go_simp; done) | (go_simp; rfl)); intro gb247 hg w25 hbox hb; have n0_ := aA (below_step mB hb); have n1_ := aA (hbox); have n2_ := aA ((bZ hg mB)); have n3_ := aA ((bZ hg mB)); clear HB; have HB := n0_; have BK247 := n1_; have GW247 := n2_; have GE247 := n3_; clear n0_ n1_ n2_ n3_ hb hbox hg) | ((with_reducible refine gate_dst (N := 3) rfl ?_); refine box_event ?hg (N := 3) ?hd (cs := #[.slice A1_0 l1_0.length c1_0, .int .i64 a1_1, .int .i64 a1_2, .int .i64 a1_3, .int .i64 a1_4, .int .i64 a1_5]) (t := 46) ?hr ?_; (case hd => rfl); (case hg => rfl); (case hr => first | (go_simp; done) | (go_simp; rfl)); intro gb248 hg w26 hbox hb; have n0_ := aA (bB BK247.out hb); have n1_ := aA (below_step (mD1 GE247.out) hb); have n2_ := aA (hbox); have n3_ := aA ((bZ hg (mD1 GE247.out))); have n4_ := aA ((bZ hg (mD1 GE247.out))); have n5_ := aA ((bL hg BK247.out)); have n6_ := aA ((bG hg BK247.out)); clear BK247 HB; have BK247 := n0_; have HB := n1_; have BK248 := n2_; have GW248 := n3_; have GE248 := n4_; have NB247_248 := n5_; have NB248_247 := n6_; clear n0_ n1_ n2_ n3_ n4_ n5_ n6_ hb hbox hg; have hnb27 := NB247_248.out; have hnc27 := NB248_247.out; obtain ⟨hcz28_0, hcz28_1, hcz28_2, hcz28_3, hcz28_4, hcz28_5⟩ := bC6 BK247.out; obtain ⟨hfz28_0, hfz28_1, hfz28_2, hfz28_3, hfz28_4, hfz28_5⟩ := bF6 BK247.out; obtain ⟨hcz29_0, hcz29_1, hcz29_2, hcz29_3, hcz29_4, hcz29_5⟩ := bC6 BK248.out; obtain ⟨hfz29_0, hfz29_1, hfz29_2, hfz29_3, hfz29_4, hfz29_5⟩ := bF6 BK248.out) | ((with_reducible refine gate_callee (f := 17) rfl ?_); refine goesL_ (some 9) rfl rfl Try.func17 (by kernel_rfl) rfl #[.slice A0_0 l0_0.length c0_0, .slice A1_0 l1_0.length c1_0] rfl mS ?_; (with_reducible refine (foghornref10_Same.calls _ _ l0_0 _ _ l1_0 true _ ?side1 ?side2 ?side3 ?side4 A3.out).mono ?_); (case side1 => exact mC ((Kd.C_below HR0_0.out HB.out))); (case side2 => exact HC0_0.out); (case side3 => exact mC ((Kd.C_below HR1_0.out HB.out))); (case side4 => exact HC1_0.out); rintro e w30 ⟨rfl, hb⟩; refine ⟨_, rfl, ?_⟩; have n0_ := aA (bB BK247.out hb); have n1_ := aA (bB BK248.out hb); have n2_ := aA (below_step (mD2 GE247.out GE248.out) hb); clear BK247 BK248 HB; have BK247 := n0_; have BK248 := n1_; have HB := n2_; clear n0_ n1_ n2_; (try clear hb); (try clear hb2); (try clear hk); (try clear hi); obtain ⟨hcz31_0, hcz31_1, hcz31_2, hcz31_3, hcz31_4, hcz31_5⟩ := bC6 BK247.out; obtain ⟨hfz31_0, hfz31_1, hfz31_2, hfz31_3, hfz31_4, hfz31_5⟩ := bF6 BK247.out; obtain ⟨hcz32_0, hcz32_1, hcz32_2, hcz32_3, hcz32_4, hcz32_5⟩ := bC6 BK248.out; obtain ⟨hfz32_0, hfz32_1, hfz32_2, hfz32_3, hfz32_4, hfz32_5⟩ := bF6 BK248.out))
     go_ret
     exact ⟨by first | rfl | (simp [errW_none, errW_some] <;> rfl) | (simp [*, errW_none, errW_some] <;> rfl), by repeat (first | (with_reducible first | exact HB.out | apply below_alloc | apply pw_below_drewN | apply below_drew1 | refine below_set ?_ GE247.out | refine below_set ?_ GE248.out) | exact HB.out)⟩
   ·rw [if_neg c6] at H
    have c6b0 : (a0_2 == a1_2) = false := beq_eq_false_iff_ne.mpr c6
    have c6b1 : (a0_2 != a1_2) = true := bne_iff_ne.mpr c6
    obtain rfl := Option.some.inj H
    go_enter Try.func53, Try.ntmps53
    go_wp2_with (first | ((with_reducible refine gate_dst (N := 2) rfl ?_); refine box_event ?hg (N := 2) ?hd (cs := #[.slice A0_0 l0_0.length c0_0, .int .i64 a0_1, .int .i64 a0_2, .int .i64 a0_3, .int .i64 a0_4, .int .i64 a0_5]) (t := 46) ?hr ?_; (case hd => rfl); (case hg => rfl); (case hr => first | (go_simp; done) | (go_simp; rfl)); intro gb247 hg w33 hbox hb; have n0_ := aA (below_step mB hb); have n1_ := aA (hbox); have n2_ := aA ((bZ hg mB)); have n3_ := aA ((bZ hg mB)); clear HB; have HB := n0_; have BK247 := n1_; have GW247 := n2_; have GE247 := n3_; clear n0_ n1_ n2_ n3_ hb hbox hg) | ((with_reducible refine gate_dst (N := 3) rfl ?_); refine box_event ?hg (N := 3) ?hd (cs := #[.slice A1_0 l1_0.length c1_0, .int .i64 a1_1, .int .i64 a1_2, .int .i64 a1_3, .int .i64 a1_4, .int .i64 a1_5]) (t := 46) ?hr ?_; (case hd => rfl); (case hg => rfl); (case hr => first | (go_simp; done) | (go_simp; rfl)); intro gb248 hg w34 hbox hb; have n0_ := aA (bB BK247.out hb); have n1_ := aA (below_step (mD1 GE247.out) hb); have n2_ := aA (hbox); have n3_ := aA ((bZ hg (mD1 GE247.out))); have n4_ := aA ((bZ hg (mD1 GE247.out))); have n5_ := aA ((bL hg BK247.out)); have n6_ := aA ((bG hg BK247.out)); clear BK247 HB; have BK247 := n0_; have HB := n1_; have BK248 := n2_; have GW248 := n3_; have GE248 := n4_; have NB247_248 := n5_; have NB248_247 := n6_; clear n0_ n1_ n2_ n3_ n4_ n5_ n6_ hb hbox hg; have hnb35 := NB247_248.out; have hnc35 := NB248_247.out; obtain ⟨hcz36_0, hcz36_1, hcz36_2, hcz36_3, hcz36_4, hcz36_5⟩ := bC6 BK247.out; obtain ⟨hfz36_0, hfz36_1, hfz36_2, hfz36_3, hfz36_4, hfz36_5⟩ := bF6 BK247.out; obtain ⟨hcz37_0, hcz37_1, hcz37_2, hcz37_3, hcz37_4, hcz37_5⟩ := bC6 BK248.out; obtain ⟨hfz37_0, hfz37_1, hfz37_2, hfz37_3, hfz37_4, hfz37_5⟩ := bF6 BK248.out) | ((with_reducible refine gate_callee (f := 17) rfl ?_); refine goesL_ (some 9) rfl rfl Try.func17 (by kernel_rfl) rfl #[.slice A0_0 l0_0.length c0_0, .slice A1_0 l1_0.length c1_0] rfl mS ?_; (with_reducible refine (foghornref10_Same.calls _ _ l0_0 _ _ l1_0 true _ ?side1 ?side2 ?side3 ?side4 A3.out).mono ?_); (case side1 => exact mC ((Kd.C_below HR0_0.out HB.out))); (case side2 => exact HC0_0.out); (case side3 => exact mC ((Kd.C_below HR1_0.out HB.out))); (case side4 => exact HC1_0.out); rintro e w38 ⟨rfl, hb⟩; refine ⟨_, rfl, ?_⟩; have n0_ := aA (bB BK247.out hb); have n1_ := aA (bB BK248.out hb); have n2_ := aA (below_step (mD2 GE247.out GE248.out) hb); clear BK247 BK248 HB; have BK247 := n0_; have BK248 := n1_; have HB := n2_; clear n0_ n1_ n2_; (try clear hb); (try clear hb2); (try clear hk); (try clear hi); obtain ⟨hcz39_0, hcz39_1, hcz39_2, hcz39_3, hcz39_4, hcz39_5⟩ := bC6 BK247.out; obtain ⟨hfz39_0, hfz39_1, hfz39_2, hfz39_3, hfz39_4, hfz39_5⟩ := bF6 BK247.out; obtain ⟨hcz40_0, hcz40_1, hcz40_2, hcz40_3, hcz40_4, hcz40_5⟩ := bC6 BK248.out; obtain ⟨hfz40_0, hfz40_1, hfz40_2, hfz40_3, hfz40_4, hfz40_5⟩ := bF6 BK248.out))
    go_ret
    exact ⟨by first | rfl | (simp [errW_none, errW_some] <;> rfl) | (simp [*, errW_none, errW_some] <;> rfl), by repeat (first | (with_reducible first | exact HB.out | apply below_alloc | apply pw_below_drewN | apply below_drew1 | refine below_set ?_ GE247.out | refine below_set ?_ GE248.out) | exact HB.out)⟩
  ·rw [if_neg c5] at H
   have c5b0 : (a0_1 == a1_1) = false := beq_eq_false_iff_ne.mpr c5
   have c5b1 : (a0_1 != a1_1) = true := bne_iff_ne.mpr c5
   obtain rfl := Option.some.inj H
   go_enter Try.func53, Try.ntmps53
   go_wp2_with (first | ((with_reducible refine gate_dst (N := 2) rfl ?_); refine box_event ?hg (N := 2) ?hd (cs := #[.slice A0_0 l0_0.length c0_0, .int .i64 a0_1, .int .i64 a0_2, .int .i64 a0_3, .int .i64 a0_4, .int .i64 a0_5]) (t := 46) ?hr ?_; (case hd => rfl); (case hg => rfl); (case hr => first | (go_simp; done) | (go_simp; rfl)); intro gb247 hg w41 hbox hb; have n0_ := aA (below_step mB hb); have n1_ := aA (hbox); have n2_ := aA ((bZ hg mB)); have n3_ := aA ((bZ hg mB)); clear HB; have HB := n0_; have BK247 := n1_; have GW247 := n2_; have GE247 := n3_; clear n0_ n1_ n2_ n3_ hb hbox hg) | ((with_reducible refine gate_dst (N := 3) rfl ?_); refine box_event ?hg (N := 3) ?hd (cs := #[.slice A1_0 l1_0.length c1_0, .int .i64 a1_1, .int .i64 a1_2, .int .i64 a1_3, .int .i64 a1_4, .int .i64 a1_5]) (t := 46) ?hr ?_; (case hd => rfl); (case hg => rfl); (case hr => first | (go_simp; done) | (go_simp; rfl)); intro gb248 hg w42 hbox hb; have n0_ := aA (bB BK247.out hb); have n1_ := aA (below_step (mD1 GE247.out) hb); have n2_ := aA (hbox); have n3_ := aA ((bZ hg (mD1 GE247.out))); have n4_ := aA ((bZ hg (mD1 GE247.out))); have n5_ := aA ((bL hg BK247.out)); have n6_ := aA ((bG hg BK247.out)); clear BK247 HB; have BK247 := n0_; have HB := n1_; have BK248 := n2_; have GW248 := n3_; have GE248 := n4_; have NB247_248 := n5_; have NB248_247 := n6_; clear n0_ n1_ n2_ n3_ n4_ n5_ n6_ hb hbox hg; have hnb43 := NB247_248.out; have hnc43 := NB248_247.out; obtain ⟨hcz44_0, hcz44_1, hcz44_2, hcz44_3, hcz44_4, hcz44_5⟩ := bC6 BK247.out; obtain ⟨hfz44_0, hfz44_1, hfz44_2, hfz44_3, hfz44_4, hfz44_5⟩ := bF6 BK247.out; obtain ⟨hcz45_0, hcz45_1, hcz45_2, hcz45_3, hcz45_4, hcz45_5⟩ := bC6 BK248.out; obtain ⟨hfz45_0, hfz45_1, hfz45_2, hfz45_3, hfz45_4, hfz45_5⟩ := bF6 BK248.out) | ((with_reducible refine gate_callee (f := 17) rfl ?_); refine goesL_ (some 9) rfl rfl Try.func17 (by kernel_rfl) rfl #[.slice A0_0 l0_0.length c0_0, .slice A1_0 l1_0.length c1_0] rfl mS ?_; (with_reducible refine (foghornref10_Same.calls _ _ l0_0 _ _ l1_0 true _ ?side1 ?side2 ?side3 ?side4 A3.out).mono ?_); (case side1 => exact mC ((Kd.C_below HR0_0.out HB.out))); (case side2 => exact HC0_0.out); (case side3 => exact mC ((Kd.C_below HR1_0.out HB.out))); (case side4 => exact HC1_0.out); rintro e w46 ⟨rfl, hb⟩; refine ⟨_, rfl, ?_⟩; have n0_ := aA (bB BK247.out hb); have n1_ := aA (bB BK248.out hb); have n2_ := aA (below_step (mD2 GE247.out GE248.out) hb); clear BK247 BK248 HB; have BK247 := n0_; have BK248 := n1_; have HB := n2_; clear n0_ n1_ n2_; (try clear hb); (try clear hb2); (try clear hk); (try clear hi); obtain ⟨hcz47_0, hcz47_1, hcz47_2, hcz47_3, hcz47_4, hcz47_5⟩ := bC6 BK247.out; obtain ⟨hfz47_0, hfz47_1, hfz47_2, hfz47_3, hfz47_4, hfz47_5⟩ := bF6 BK247.out; obtain ⟨hcz48_0, hcz48_1, hcz48_2, hcz48_3, hcz48_4, hcz48_5⟩ := bC6 BK248.out; obtain ⟨hfz48_0, hfz48_1, hfz48_2, hfz48_3, hfz48_4, hfz48_5⟩ := bF6 BK248.out))
   go_ret
   exact ⟨by first | rfl | (simp [errW_none, errW_some] <;> rfl) | (simp [*, errW_none, errW_some] <;> rfl), by repeat (first | (with_reducible first | exact HB.out | apply below_alloc | apply pw_below_drewN | apply below_drew1 | refine below_set ?_ GE247.out | refine below_set ?_ GE248.out) | exact HB.out)⟩
 ·replace c4 := Bool.eq_false_iff.mpr c4
  subst c4
  have H1 : (some false) = some r := by rw [if_neg (show ¬ (false = true) by decide)] at H; exact H
  clear H
  have H := H1
  clear H1
  obtain rfl := Option.some.inj H
  go_enter Try.func53, Try.ntmps53
  go_wp2_with (first | ((with_reducible refine gate_dst (N := 2) rfl ?_); refine box_event ?hg (N := 2) ?hd (cs := #[.slice A0_0 l0_0.length c0_0, .int .i64 a0_1, .int .i64 a0_2, .int .i64 a0_3, .int .i64 a0_4, .int .i64 a0_5]) (t := 46) ?hr ?_; (case hd => rfl); (case hg => rfl); (case hr => first | (go_simp; done) | (go_simp; rfl)); intro gb247 hg w49 hbox hb; have n0_ := aA (below_step mB hb); have n1_ := aA (hbox); have n2_ := aA ((bZ hg mB)); have n3_ := aA ((bZ hg mB)); clear HB; have HB := n0_; have BK247 := n1_; have GW247 := n2_; have GE247 := n3_; clear n0_ n1_ n2_ n3_ hb hbox hg) | ((with_reducible refine gate_dst (N := 3) rfl ?_); refine box_event ?hg (N := 3) ?hd (cs := #[.slice A1_0 l1_0.length c1_0, .int .i64 a1_1, .int .i64 a1_2, .int .i64 a1_3, .int .i64 a1_4, .int .i64 a1_5]) (t := 46) ?hr ?_; (case hd => rfl); (case hg => rfl); (case hr => first | (go_simp; done) | (go_simp; rfl)); intro gb248 hg w50 hbox hb; have n0_ := aA (bB BK247.out hb); have n1_ := aA (below_step (mD1 GE247.out) hb); have n2_ := aA (hbox); have n3_ := aA ((bZ hg (mD1 GE247.out))); have n4_ := aA ((bZ hg (mD1 GE247.out))); have n5_ := aA ((bL hg BK247.out)); have n6_ := aA ((bG hg BK247.out)); clear BK247 HB; have BK247 := n0_; have HB := n1_; have BK248 := n2_; have GW248 := n3_; have GE248 := n4_; have NB247_248 := n5_; have NB248_247 := n6_; clear n0_ n1_ n2_ n3_ n4_ n5_ n6_ hb hbox hg; have hnb51 := NB247_248.out; have hnc51 := NB248_247.out; obtain ⟨hcz52_0, hcz52_1, hcz52_2, hcz52_3, hcz52_4, hcz52_5⟩ := bC6 BK247.out; obtain ⟨hfz52_0, hfz52_1, hfz52_2, hfz52_3, hfz52_4, hfz52_5⟩ := bF6 BK247.out; obtain ⟨hcz53_0, hcz53_1, hcz53_2, hcz53_3, hcz53_4, hcz53_5⟩ := bC6 BK248.out; obtain ⟨hfz53_0, hfz53_1, hfz53_2, hfz53_3, hfz53_4, hfz53_5⟩ := bF6 BK248.out) | ((with_reducible refine gate_callee (f := 17) rfl ?_); refine goesL_ (some 9) rfl rfl Try.func17 (by kernel_rfl) rfl #[.slice A0_0 l0_0.length c0_0, .slice A1_0 l1_0.length c1_0] rfl mS ?_; (with_reducible refine (foghornref10_Same.calls _ _ l0_0 _ _ l1_0 false _ ?side1 ?side2 ?side3 ?side4 A3.out).mono ?_); (case side1 => exact mC ((Kd.C_below HR0_0.out HB.out))); (case side2 => exact HC0_0.out); (case side3 => exact mC ((Kd.C_below HR1_0.out HB.out))); (case side4 => exact HC1_0.out); rintro e w54 ⟨rfl, hb⟩; refine ⟨_, rfl, ?_⟩; have n0_ := aA (bB BK247.out hb); have n1_ := aA (bB BK248.out hb); have n2_ := aA (below_step (mD2 GE247.out GE248.out) hb); clear BK247 BK248 HB; have BK247 := n0_; have BK248 := n1_; have HB := n2_; clear n0_ n1_ n2_; (try clear hb); (try clear hb2); (try clear hk); (try clear hi)))
  go_ret
  exact ⟨by first | rfl | (simp [errW_none, errW_some] <;> rfl) | (simp [*, errW_none, errW_some] <;> rfl), by repeat (first | (with_reducible first | exact HB.out | apply below_alloc | apply pw_below_drewN | apply below_drew1 | refine below_set ?_ GE247.out | refine below_set ?_ GE248.out) | exact HB.out)⟩
end Go.Proofs.YtndgollcganhmaaQ.P
namespace Go.Proofs.YtndgollcganhmaaQ.P
open Go.RowKit Go.Proofs.YtndgollcganhmaaW.PrintWords Go.Proofs.YtndgollcganhmaaW.PrintLast Go.Proofs.YtndgollcganhmaaW.PrintMore
attribute [local go_sem] max2_int min2_int max_two min_two max_three min_three max_four min_four
theorem eqA35 (d : Nat) (w : World) (x0 y0 : Int) (x1 y1 : ByteArray) (x2 y2 : ByteArray) :
  (Op.equalIn (d + 2) 35 (.agg #[.int .i64 x0, .string x1, .string x2]) (.agg #[.int .i64 y0, .string y1, .string y2])).run Try.prog w = .ok (x0 == y0 && (x1.toList == y1.toList && (x2.toList == y2.toList))) w := by
 refine eqA_of Try.underlying35 (by kernel_rfl) ?_
 refine eqf_cons (by rfl) (by go_simp; rfl) (by go_simp; rfl) (by go_simp) ?_
 refine eqf_cons (by rfl) (by go_simp; rfl) (by go_simp; rfl) (by go_simp) ?_
 exact eqf_last (by rfl) (by go_simp; rfl) (by go_simp; rfl) (by go_simp)
end Go.Proofs.YtndgollcganhmaaQ.P
namespace Go.Proofs.YtndgollcganhmaaQ.P
open Go.RowKit Go.Proofs.YtndgollcganhmaaW.PrintWords Go.Proofs.YtndgollcganhmaaW.PrintLast Go.Proofs.YtndgollcganhmaaW.PrintMore
attribute [local go_sem] max2_int min2_int max_two min_two max_three min_three max_four min_four
attribute [local go_sem high] eqA35
def foghornref10_Asked.l0 : Nat → List (S35) → List (S35) → Int → Int → Option (Bool)
 | 0, _, _, _, _ => none
 | k + 1, x0, x1, x12, x13 => if x13 < x12 then (if 0 ≤ x13 then (if x13 < (x0.length : Int) then (if x13 < (x1.length : Int) then (if (!(((rd_T35 x0 x13).f0) == ((rd_T35 x1 x13).f0)) || (!((((rd_T35 x0 x13).f1).toList) == (((rd_T35 x1 x13).f1).toList)) || (!((((rd_T35 x0 x13).f2).toList) == (((rd_T35 x1 x13).f2).toList))))) = true then (some false) else (foghornref10_Asked.l0 k x0 x1 x12 (wrap64 (x13 + 1)))) else (none)) else (none)) else (none)) else (some true)
def foghornref10_Asked.f (k : Nat) (l0 : List (S35)) (l1 : List (S35)) : Option (Bool) := if (l0.length : Int) = (l1.length : Int) then (foghornref10_Asked.l0 k l0 l1 (l0.length : Int) 0) else (some false)
set_option maxHeartbeats 8000000 in
set_option maxRecDepth 100000 in
theorem foghornref10_Asked.calls (k : Nat) (A0 : Option Addr) (c0 : Nat) (l0 : List (S35)) (A1 : Option Addr) (c1 : Nat) (l1 : List (S35)) (r : Bool) (w : World) (hr0 : Kd.C k35 w A0 l0.length l0) (hc0 : l0.length ≤ c0) (hr1 : Kd.C k35 w A1 l1.length l1) (hc1 : l1.length ≤ c1) (h : foghornref10_Asked.f k l0 l1 = some r) :
  Calls Try.prog 86 #[.slice A0 l0.length c0, .slice A1 l1.length c1] w fun e w' => e = .returned (.bool r) ∧ Drawn0 w w' := by
 have hu35 := Try.underlying35
 have HR0 := aA hr0
 have HC0 := aA hc0
 clear hr0 hc0
 have HR1 := aA hr1
 have HC1 := aA hc1
 clear hr1 hc1
 have H : (if (l0.length : Int) = (l1.length : Int) then (foghornref10_Asked.l0 k l0 l1 (l0.length : Int) 0) else (some false)) = some r := h
 clear h
 by_cases c3 : (l0.length : Int) = (l1.length : Int)
 ·rw [if_pos c3] at H
  have c3b0 : ((l0.length : Int) == (l1.length : Int)) = true := beq_iff_eq.mpr c3
  have c3b1 : ((l0.length : Int) != (l1.length : Int)) = false := bne_eq_false_iff_eq.mpr c3
  have c3b2 : (l0.length == l1.length) = true := by first | simpa using c3 | (simp at c3 ⊢; omega)
  clear c3
  have H' := aA H
  clear H
  go_enter Try.func86, Try.ntmps86
  go_wp2
  repeat (go_quiet (fail); try go_wp2)
  go_loopg [13] k (fun kq v13 w' => ∃ (x13_1 : Int), v13 = .int .i64 x13_1 ∧ Aside0 (foghornref10_Asked.l0 kq l0 l1 (l0.length : Int) x13_1 = some r) ∧ Aside0 (kq ≤ k) ∧ Drawn0 w w')
  case atStart => exact ⟨(0), (by first | rfl | (simp; done) | (simp [*]; done)), H', ⟨Nat.le_refl _⟩, by repeat (first | exact Drawn0.refl _ | apply Drawn0.step)⟩
  case round =>
   clear H'
   try clear c1
   try clear p2
   try clear c3
   try clear c3b0
   try clear c3b1
   try clear c3b2
   obtain ⟨x13_1, rfl, HA, HK1, ⟨m1, rfl⟩⟩ := hrel
   cases gk with
   | zero => exact absurd HA.out (by simp [foghornref10_Asked.l0])
   | succ k1 =>
    have H := HA.out
    clear HA
    simp only [foghornref10_Asked.l0] at H
    by_cases c4 : x13_1 < (l0.length : Int)
    ·rw [if_pos c4] at H
     have c4b0 : decide (x13_1 < (l0.length : Int)) = true := decide_eq_true c4
     clear c4
     by_cases c5 : 0 ≤ x13_1
     ·rw [if_pos c5] at H
      have c5b0 : decide (0 ≤ x13_1) = true := decide_eq_true c5
      clear c5
      by_cases c6 : x13_1 < (l0.length : Int)
      ·rw [if_pos c6] at H
       have c6b0 : decide (x13_1 < (l0.length : Int)) = true := decide_eq_true c6
       clear c6
       by_cases c7 : x13_1 < (l1.length : Int)
       ·rw [if_pos c7] at H
        have c7b0 : decide (x13_1 < (l1.length : Int)) = true := decide_eq_true c7
        clear c7
        by_cases c8 : (!(((rd_T35 l0 x13_1).f0) == ((rd_T35 l1 x13_1).f0)) || (!((((rd_T35 l0 x13_1).f1).toList) == (((rd_T35 l1 x13_1).f1).toList)) || (!((((rd_T35 l0 x13_1).f2).toList) == (((rd_T35 l1 x13_1).f2).toList))))) = true
        ·rw [if_pos c8] at H
         have c8b0 : (!(((rd_T35 l0 x13_1).f0) == ((rd_T35 l1 x13_1).f0)) || (!((((rd_T35 l0 x13_1).f1).toList) == (((rd_T35 l1 x13_1).f1).toList)) || (!((((rd_T35 l0 x13_1).f2).toList) == (((rd_T35 l1 x13_1).f2).toList))))) = true := c8
         clear c8
         obtain rfl := Option.some.inj H
         have p250 : 0 ≤ (x13_1 : Int) := of_decide_eq_true (by first | (with_reducible assumption) | assumption)
         have q250 : x13_1 < (l0.length : Int) := of_decide_eq_true (by first | (with_reducible assumption) | assumption)
         obtain ⟨ad250, e250, hx250_0, hx250_1, hx250_2⟩ := at_T35 HR0.out x13_1 p250 q250
         cases e250
         replace p250 := eq_true p250
         replace q250 := eq_true q250
         have p251 : 0 ≤ (x13_1 : Int) := of_decide_eq_true (by first | (with_reducible assumption) | assumption)
         have q251 : x13_1 < (l1.length : Int) := of_decide_eq_true (by first | (with_reducible assumption) | assumption)
         obtain ⟨ad251, e251, hx251_0, hx251_1, hx251_2⟩ := at_T35 HR1.out x13_1 p251 q251
         cases e251
         replace p251 := eq_true p251
         replace q251 := eq_true q251
         go_wp2
         repeat (go_quiet (fail); try go_wp2)
         go_ret
         exact ⟨by first | rfl | (simp; done) | (simp [*]; done), by repeat (first | exact Drawn0.refl _ | apply Drawn0.step)⟩
        ·rw [if_neg c8] at H
         have c8b0 : (!(((rd_T35 l0 x13_1).f0) == ((rd_T35 l1 x13_1).f0)) || (!((((rd_T35 l0 x13_1).f1).toList) == (((rd_T35 l1 x13_1).f1).toList)) || (!((((rd_T35 l0 x13_1).f2).toList) == (((rd_T35 l1 x13_1).f2).toList))))) = false := by simpa using c8
         clear c8
         have H' := aA H
         clear H
         have p250 : 0 ≤ (x13_1 : Int) := of_decide_eq_true (by first | (with_reducible assumption) | assumption)
         have q250 : x13_1 < (l0.length : Int) := of_decide_eq_true (by first | (with_reducible assumption) | assumption)
         obtain ⟨ad250, e250, hx250_0, hx250_1, hx250_2⟩ := at_T35 HR0.out x13_1 p250 q250
         cases e250
         replace p250 := eq_true p250
         replace q250 := eq_true q250
         have p251 : 0 ≤ (x13_1 : Int) := of_decide_eq_true (by first | (with_reducible assumption) | assumption)
         have q251 : x13_1 < (l1.length : Int) := of_decide_eq_true (by first | (with_reducible assumption) | assumption)
         obtain ⟨ad251, e251, hx251_0, hx251_1, hx251_2⟩ := at_T35 HR1.out x13_1 p251 q251
         cases e251
         replace p251 := eq_true p251
         replace q251 := eq_true q251
         go_wp2
         repeat (go_quiet (fail); try go_wp2)
         go_roundg k1
         case measure => have := HK1.out; omega
         case rel => exact ⟨(wrap64 (x13_1 + 1)), (by first | rfl | (simp; done) | (simp [*]; done)), H', ⟨by have := HK1.out; omega⟩, by repeat (first | exact Drawn0.refl _ | apply Drawn0.step)⟩
       ·rw [if_neg c7] at H
        exact absurd H (by simp)
      ·rw [if_neg c6] at H
       exact absurd H (by simp)
     ·rw [if_neg c5] at H
      exact absurd H (by simp)
    ·rw [if_neg c4] at H
     have c4b0 : decide (x13_1 < (l0.length : Int)) = false := decide_eq_false c4
     clear c4
     obtain rfl := Option.some.inj H
     go_wp2
     repeat (go_quiet (fail); try go_wp2)
     go_ret
     exact ⟨by first | rfl | (simp; done) | (simp [*]; done), by repeat (first | exact Drawn0.refl _ | apply Drawn0.step)⟩
 ·rw [if_neg c3] at H
  have c3b0 : ((l0.length : Int) == (l1.length : Int)) = false := beq_eq_false_iff_ne.mpr c3
  have c3b1 : ((l0.length : Int) != (l1.length : Int)) = true := bne_iff_ne.mpr c3
  have c3b2 : (l0.length == l1.length) = false := by first | simpa using c3 | (simp at c3 ⊢; omega)
  obtain rfl := Option.some.inj H
  go_enter Try.func86, Try.ntmps86
  go_wp2
  repeat (go_quiet (fail); try go_wp2)
  go_ret
  exact ⟨by first | rfl | (simp; done) | (simp [*]; done), by repeat (first | exact Drawn0.refl _ | apply Drawn0.step)⟩
end Go.Proofs.YtndgollcganhmaaQ.P
namespace Go.Proofs.YtndgollcganhmaaQ.P
open Go.RowKit Go.Proofs.YtndgollcganhmaaW.PrintWords Go.Proofs.YtndgollcganhmaaW.PrintLast Go.Proofs.YtndgollcganhmaaW.PrintMore
attribute [local go_sem] max2_int min2_int max_two min_two max_three min_three max_four min_four
def foghornref12_Hushes.f (k : Nat) (a0_0 : Int) (a0_1 : Int) (l0_2 : List (S35)) (a1_0 : Int) (a1_1 : Int) (l1_2 : List (S35)) : Option (Bool) := if a0_0 = a1_0 then (if a0_1 = a1_1 then ((foghornref10_Asked.f k l0_2 l1_2).bind fun t254 => (some t254)) else (some false)) else (some false)
set_option maxHeartbeats 8000000 in
set_option maxRecDepth 100000 in
theorem foghornref12_Hushes.calls (k : Nat) (a0_0 : Int) (a0_1 : Int) (A0_2 : Option Addr) (c0_2 : Nat) (l0_2 : List (S35)) (a1_0 : Int) (a1_1 : Int) (A1_2 : Option Addr) (c1_2 : Nat) (l1_2 : List (S35)) (r : Bool) (w : World) (hr0_2 : Kd.C k35 w A0_2 l0_2.length l0_2) (hc0_2 : l0_2.length ≤ c0_2) (hr1_2 : Kd.C k35 w A1_2 l1_2.length l1_2) (hc1_2 : l1_2.length ≤ c1_2) (h : foghornref12_Hushes.f k a0_0 a0_1 l0_2 a1_0 a1_1 l1_2 = some r) :
  Calls Try.prog 54 #[.agg #[.int .i64 a0_0, .int .i64 a0_1, .slice A0_2 l0_2.length c0_2], .agg #[.int .i64 a1_0, .int .i64 a1_1, .slice A1_2 l1_2.length c1_2]] w fun e w' => e = .returned (.bool r) ∧ Below w.heap.size w w' := by
 have hu48 := Try.underlying48
 have HR0_2 := aA hr0_2
 have HC0_2 := aA hc0_2
 clear hr0_2 hc0_2
 have HR1_2 := aA hr1_2
 have HC1_2 := aA hc1_2
 clear hr1_2 hc1_2
 have HB := aA (Below.refl w.heap.size w)
 have H : (if a0_0 = a1_0 then (if a0_1 = a1_1 then ((foghornref10_Asked.f k l0_2 l1_2).bind fun t254 => (some t254)) else (some false)) else (some false)) = some r := h
 clear h
 by_cases c3 : a0_0 = a1_0
 ·rw [if_pos c3] at H
  have c3b0 : (a0_0 == a1_0) = true := beq_iff_eq.mpr c3
  have c3b1 : (a0_0 != a1_0) = false := bne_eq_false_iff_eq.mpr c3
  clear c3
  by_cases c4 : a0_1 = a1_1
  ·rw [if_pos c4] at H
   have c4b0 : (a0_1 == a1_1) = true := beq_iff_eq.mpr c4
   have c4b1 : (a0_1 != a1_1) = false := bne_eq_false_iff_eq.mpr c4
   clear c4
   replace H := Option.bind_eq_some_iff.mp H
   obtain ⟨t254, A50, H⟩ := H
   have A5 := aA A50
   clear A50
   obtain rfl := Option.some.inj H
   go_enter Try.func54, Try.ntmps54
   go_wp2_with (first | ((with_reducible refine gate_dst (N := 2) rfl ?_); refine box_event ?hg (N := 2) ?hd (cs := #[.int .i64 a0_0, .int .i64 a0_1, .slice A0_2 l0_2.length c0_2]) (t := 48) ?hr ?_; (case hd => rfl); (case hg => rfl); (case hr => first | (go_simp; done) | (go_simp; rfl)); intro gb252 hg w6 hbox hb; have n0_ := aA (below_step mB hb); have n1_ := aA (hbox); have n2_ := aA ((bZ hg mB)); have n3_ := aA ((bZ hg mB)); clear HB; have HB := n0_; have BK252 := n1_; have GW252 := n2_; have GE252 := n3_; clear n0_ n1_ n2_ n3_ hb hbox hg) | ((with_reducible refine gate_dst (N := 3) rfl ?_); refine box_event ?hg (N := 3) ?hd (cs := #[.int .i64 a1_0, .int .i64 a1_1, .slice A1_2 l1_2.length c1_2]) (t := 48) ?hr ?_; (case hd => rfl); (case hg => rfl); (case hr => first | (go_simp; done) | (go_simp; rfl)); intro gb253 hg w7 hbox hb; have n0_ := aA (bB BK252.out hb); have n1_ := aA (below_step (mD1 GE252.out) hb); have n2_ := aA (hbox); have n3_ := aA ((bZ hg (mD1 GE252.out))); have n4_ := aA ((bZ hg (mD1 GE252.out))); have n5_ := aA ((bL hg BK252.out)); have n6_ := aA ((bG hg BK252.out)); clear BK252 HB; have BK252 := n0_; have HB := n1_; have BK253 := n2_; have GW253 := n3_; have GE253 := n4_; have NB252_253 := n5_; have NB253_252 := n6_; clear n0_ n1_ n2_ n3_ n4_ n5_ n6_ hb hbox hg; have hnb8 := NB252_253.out; have hnc8 := NB253_252.out; obtain ⟨hcz9_0, hcz9_1, hcz9_2⟩ := bC3 BK252.out; obtain ⟨hfz9_0, hfz9_1, hfz9_2⟩ := bF3 BK252.out; obtain ⟨hcz10_0, hcz10_1, hcz10_2⟩ := bC3 BK253.out; obtain ⟨hfz10_0, hfz10_1, hfz10_2⟩ := bF3 BK253.out) | (go_at_call 86; (with_reducible refine (foghornref10_Asked.calls k _ _ l0_2 _ _ l1_2 t254 _ ?side1 ?side2 ?side3 ?side4 A5.out).mono ?_); (case side1 => exact mC ((Kd.C_below HR0_2.out HB.out))); (case side2 => exact HC0_2.out); (case side3 => exact mC ((Kd.C_below HR1_2.out HB.out))); (case side4 => exact HC1_2.out); rintro e w' ⟨rfl, ⟨nd, rfl⟩⟩))
   go_ret
   exact ⟨by first | rfl | (simp [errW_none, errW_some] <;> rfl) | (simp [*, errW_none, errW_some] <;> rfl), by repeat (first | (with_reducible first | exact HB.out | apply below_alloc | apply pw_below_drewN | apply below_drew1 | refine below_set ?_ GE252.out | refine below_set ?_ GE253.out) | exact HB.out)⟩
  ·rw [if_neg c4] at H
   have c4b0 : (a0_1 == a1_1) = false := beq_eq_false_iff_ne.mpr c4
   have c4b1 : (a0_1 != a1_1) = true := bne_iff_ne.mpr c4
   obtain rfl := Option.some.inj H
   go_enter Try.func54, Try.ntmps54
   go_wp2_with (first | ((with_reducible refine gate_dst (N := 2) rfl ?_); refine box_event ?hg (N := 2) ?hd (cs := #[.int .i64 a0_0, .int .i64 a0_1, .slice A0_2 l0_2.length c0_2]) (t := 48) ?hr ?_; (case hd => rfl); (case hg => rfl); (case hr => first | (go_simp; done) | (go_simp; rfl)); intro gb252 hg w11 hbox hb; have n0_ := aA (below_step mB hb); have n1_ := aA (hbox); have n2_ := aA ((bZ hg mB)); have n3_ := aA ((bZ hg mB)); clear HB; have HB := n0_; have BK252 := n1_; have GW252 := n2_; have GE252 := n3_; clear n0_ n1_ n2_ n3_ hb hbox hg) | ((with_reducible refine gate_dst (N := 3) rfl ?_); refine box_event ?hg (N := 3) ?hd (cs := #[.int .i64 a1_0, .int .i64 a1_1, .slice A1_2 l1_2.length c1_2]) (t := 48) ?hr ?_; (case hd => rfl); (case hg => rfl); (case hr => first | (go_simp; done) | (go_simp; rfl)); intro gb253 hg w12 hbox hb; have n0_ := aA (bB BK252.out hb); have n1_ := aA (below_step (mD1 GE252.out) hb); have n2_ := aA (hbox); have n3_ := aA ((bZ hg (mD1 GE252.out))); have n4_ := aA ((bZ hg (mD1 GE252.out))); have n5_ := aA ((bL hg BK252.out)); have n6_ := aA ((bG hg BK252.out)); clear BK252 HB; have BK252 := n0_; have HB := n1_; have BK253 := n2_; have GW253 := n3_; have GE253 := n4_; have NB252_253 := n5_; have NB253_252 := n6_; clear n0_ n1_ n2_ n3_ n4_ n5_ n6_ hb hbox hg; have hnb13 := NB252_253.out; have hnc13 := NB253_252.out; obtain ⟨hcz14_0, hcz14_1, hcz14_2⟩ := bC3 BK252.out; obtain ⟨hfz14_0, hfz14_1, hfz14_2⟩ := bF3 BK252.out; obtain ⟨hcz15_0, hcz15_1, hcz15_2⟩ := bC3 BK253.out; obtain ⟨hfz15_0, hfz15_1, hfz15_2⟩ := bF3 BK253.out))
   go_ret
   exact ⟨by first | rfl | (simp [errW_none, errW_some] <;> rfl) | (simp [*, errW_none, errW_some] <;> rfl), by repeat (first | (with_reducible first | exact HB.out | apply below_alloc | apply pw_below_drewN | apply below_drew1 | refine below_set ?_ GE252.out | refine below_set ?_ GE253.out) | exact HB.out)⟩
 ·rw [if_neg c3] at H
  have c3b0 : (a0_0 == a1_0) = false := beq_eq_false_iff_ne.mpr c3
  have c3b1 : (a0_0 != a1_0) = true := bne_iff_ne.mpr c3
  obtain rfl := Option.some.inj H
  go_enter Try.func54, Try.ntmps54
  go_wp2_with (first | ((with_reducible refine gate_dst (N := 2) rfl ?_); refine box_event ?hg (N := 2) ?hd (cs := #[.int .i64 a0_0, .int .i64 a0_1, .slice A0_2 l0_2.length c0_2]) (t := 48) ?hr ?_; (case hd => rfl); (case hg => rfl); (case hr => first | (go_simp; done) | (go_simp; rfl)); intro gb252 hg w16 hbox hb; have n0_ := aA (below_step mB hb); have n1_ := aA (hbox); have n2_ := aA ((bZ hg mB)); have n3_ := aA ((bZ hg mB)); clear HB; have HB := n0_; have BK252 := n1_; have GW252 := n2_; have GE252 := n3_; clear n0_ n1_ n2_ n3_ hb hbox hg) | ((with_reducible refine gate_dst (N := 3) rfl ?_); refine box_event ?hg (N := 3) ?hd (cs := #[.int .i64 a1_0, .int .i64 a1_1, .slice A1_2 l1_2.length c1_2]) (t := 48) ?hr ?_; (case hd => rfl); (case hg => rfl); (case hr => first | (go_simp; done) | (go_simp; rfl)); intro gb253 hg w17 hbox hb; have n0_ := aA (bB BK252.out hb); have n1_ := aA (below_step (mD1 GE252.out) hb); have n2_ := aA (hbox); have n3_ := aA ((bZ hg (mD1 GE252.out))); have n4_ := aA ((bZ hg (mD1 GE252.out))); have n5_ := aA ((bL hg BK252.out)); have n6_ := aA ((bG hg BK252.out)); clear BK252 HB; have BK252 := n0_; have HB := n1_; have BK253 := n2_; have GW253 := n3_; have GE253 := n4_; have NB252_253 := n5_; have NB253_252 := n6_; clear n0_ n1_ n2_ n3_ n4_ n5_ n6_ hb hbox hg; have hnb18 := NB252_253.out; have hnc18 := NB253_252.out; obtain ⟨hcz19_0, hcz19_1, hcz19_2⟩ := bC3 BK252.out; obtain ⟨hfz19_0, hfz19_1, hfz19_2⟩ := bF3 BK252.out; obtain ⟨hcz20_0, hcz20_1, hcz20_2⟩ := bC3 BK253.out; obtain ⟨hfz20_0, hfz20_1, hfz20_2⟩ := bF3 BK253.out))
  go_ret
  exact ⟨by first | rfl | (simp [errW_none, errW_some] <;> rfl) | (simp [*, errW_none, errW_some] <;> rfl), by repeat (first | (with_reducible first | exact HB.out | apply below_alloc | apply pw_below_drewN | apply below_drew1 | refine below_set ?_ GE252.out | refine below_set ?_ GE253.out) | exact HB.out)⟩
end Go.Proofs.YtndgollcganhmaaQ.P
namespace Go.Proofs.YtndgollcganhmaaQ.P
open Go.RowKit Go.Proofs.YtndgollcganhmaaW.PrintWords Go.Proofs.YtndgollcganhmaaW.PrintLast Go.Proofs.YtndgollcganhmaaW.PrintMore
attribute [local go_sem] max2_int min2_int max_two min_two max_three min_three max_four min_four
def foghornref17_Same.f (k : Nat) (a0_0 : Int) (l0_1 : List (S41)) (a0_2 : Int) (a0_3 : Int) (a0_4 : Int) (a0_5 : Int) (a0_6 : Int) (l0_7 : List (S41)) (a0_8 : Int) (a0_9 : Int) (l0_10 : List (S35)) (a1_0 : Int) (l1_1 : List (S41)) (a1_2 : Int) (a1_3 : Int) (a1_4 : Int) (a1_5 : Int) (a1_6 : Int) (l1_7 : List (S41)) (a1_8 : Int) (a1_9 : Int) (l1_10 : List (S35)) : Option (Bool) := if a0_0 = a1_0 then ((foghornref16_Same.f l0_1 a0_2 a0_3 a0_4 a0_5 a0_6 l1_1 a1_2 a1_3 a1_4 a1_5 a1_6).bind fun t399 => (if t399 = true then ((foghornref10_Same.f l0_7 l1_7).bind fun t400 => (if t400 = true then ((foghornref12_Hushes.f k a0_8 a0_9 l0_10 a1_8 a1_9 l1_10).bind fun t401 => (some t401)) else (some false))) else (some false))) else (some false)
set_option maxHeartbeats 8000000 in
set_option maxRecDepth 100000 in
theorem foghornref17_Same.calls (k : Nat) (a0_0 : Int) (A0_1 : Option Addr) (c0_1 : Nat) (l0_1 : List (S41)) (a0_2 : Int) (a0_3 : Int) (a0_4 : Int) (a0_5 : Int) (a0_6 : Int) (A0_7 : Option Addr) (c0_7 : Nat) (l0_7 : List (S41)) (a0_8 : Int) (a0_9 : Int) (A0_10 : Option Addr) (c0_10 : Nat) (l0_10 : List (S35)) (a1_0 : Int) (A1_1 : Option Addr) (c1_1 : Nat) (l1_1 : List (S41)) (a1_2 : Int) (a1_3 : Int) (a1_4 : Int) (a1_5 : Int) (a1_6 : Int) (A1_7 : Option Addr) (c1_7 : Nat) (l1_7 : List (S41)) (a1_8 : Int) (a1_9 : Int) (A1_10 : Option Addr) (c1_10 : Nat) (l1_10 : List (S35)) (r : Bool) (w : World) (hr0_1 : Kd.C k41 w A0_1 l0_1.length l0_1) (hc0_1 : l0_1.length ≤ c0_1) (hr0_7 : Kd.C k41 w A0_7 l0_7.length l0_7) (hc0_7 : l0_7.length ≤ c0_7) (hr0_10 : Kd.C k35 w A0_10 l0_10.length l0_10) (hc0_10 : l0_10.length ≤ c0_10) (hr1_1 : Kd.C k41 w A1_1 l1_1.length l1_1) (hc1_1 : l1_1.length ≤ c1_1) (hr1_7 : Kd.C k41 w A1_7 l1_7.length l1_7) (hc1_7 : l1_7.length ≤ c1_7) (hr1_10 : Kd.C k35 w A1_10 l1_10.length l1_10) (hc1_10 : l1_10.length ≤ c1_10) (h : foghornref17_Same.f k a0_0 l0_1 a0_2 a0_3 a0_4 a0_5 a0_6 l0_7 a0_8 a0_9 l0_10 a1_0 l1_1 a1_2 a1_3 a1_4 a1_5 a1_6 l1_7 a1_8 a1_9 l1_10 = some r) :
  Calls Try.prog 32 #[.agg #[.int .i64 a0_0, .slice A0_1 l0_1.length c0_1, .int .i64 a0_2, .int .i64 a0_3, .int .i64 a0_4, .int .i64 a0_5, .int .i64 a0_6, .slice A0_7 l0_7.length c0_7, .int .i64 a0_8, .int .i64 a0_9, .slice A0_10 l0_10.length c0_10], .agg #[.int .i64 a1_0, .slice A1_1 l1_1.length c1_1, .int .i64 a1_2, .int .i64 a1_3, .int .i64 a1_4, .int .i64 a1_5, .int .i64 a1_6, .slice A1_7 l1_7.length c1_7, .int .i64 a1_8, .int .i64 a1_9, .slice A1_10 l1_10.length c1_10]] w fun e w' => e = .returned (.bool r) ∧ Below w.heap.size w w' := by
 have hu50 := Try.underlying50
 have hu46 := Try.underlying46
 have hu48 := Try.underlying48
 have HR0_1 := aA hr0_1
 have HC0_1 := aA hc0_1
 clear hr0_1 hc0_1
 have HR0_7 := aA hr0_7
 have HC0_7 := aA hc0_7
 clear hr0_7 hc0_7
 have HR0_10 := aA hr0_10
 have HC0_10 := aA hc0_10
 clear hr0_10 hc0_10
 have HR1_1 := aA hr1_1
 have HC1_1 := aA hc1_1
 clear hr1_1 hc1_1
 have HR1_7 := aA hr1_7
 have HC1_7 := aA hc1_7
 clear hr1_7 hc1_7
 have HR1_10 := aA hr1_10
 have HC1_10 := aA hc1_10
 clear hr1_10 hc1_10
 have HB := aA (Below.refl w.heap.size w)
 have H : (if a0_0 = a1_0 then ((foghornref16_Same.f l0_1 a0_2 a0_3 a0_4 a0_5 a0_6 l1_1 a1_2 a1_3 a1_4 a1_5 a1_6).bind fun t399 => (if t399 = true then ((foghornref10_Same.f l0_7 l1_7).bind fun t400 => (if t400 = true then ((foghornref12_Hushes.f k a0_8 a0_9 l0_10 a1_8 a1_9 l1_10).bind fun t401 => (some t401)) else (some false))) else (some false))) else (some false)) = some r := h
 clear h
 by_cases c3 : a0_0 = a1_0
 ·rw [if_pos c3] at H
  have c3b0 : (a0_0 == a1_0) = true := beq_iff_eq.mpr c3
  have c3b1 : (a0_0 != a1_0) = false := bne_eq_false_iff_eq.mpr c3
  clear c3
  replace H := Option.bind_eq_some_iff.mp H
  obtain ⟨t399, A40, H⟩ := H
  have A4 := aA A40
  clear A40
  by_cases c5 : t399 = true
  ·subst c5
   have H1 : ((foghornref10_Same.f l0_7 l1_7).bind fun t400 => (if t400 = true then ((foghornref12_Hushes.f k a0_8 a0_9 l0_10 a1_8 a1_9 l1_10).bind fun t401 => (some t401)) else (some false))) = some r := by rw [if_pos rfl] at H; exact H
   clear H
   have H := H1
   clear H1
   replace H := Option.bind_eq_some_iff.mp H
   obtain ⟨t400, A60, H⟩ := H
   have A6 := aA A60
   clear A60
   by_cases c7 : t400 = true
   ·subst c7
    have H1 : ((foghornref12_Hushes.f k a0_8 a0_9 l0_10 a1_8 a1_9 l1_10).bind fun t401 => (some t401)) = some r := by rw [if_pos rfl] at H; exact H
    clear H
    have H := H1
    clear H1
    replace H := Option.bind_eq_some_iff.mp H
    obtain ⟨t401, A80, H⟩ := H
    have A8 := aA A80
    clear A80
    obtain rfl := Option.some.inj H
    go_enter Try.func32, Try.ntmps32
    go_wp2_with (first | ((with_reducible refine gate_dst (N := 2) rfl ?_); refine box_event ?hg (N := 2) ?hd (cs := #[.int .i64 a0_0, .slice A0_1 l0_1.length c0_1, .int .i64 a0_2, .int .i64 a0_3, .int .i64 a0_4, .int .i64 a0_5, .int .i64 a0_6, .slice A0_7 l0_7.length c0_7, .int .i64 a0_8, .int .i64 a0_9, .slice A0_10 l0_10.length c0_10]) (t := 50) ?hr ?_; (case hd => rfl); (case hg => rfl); (case hr => first | (go_simp; done) | (go_simp; rfl)); intro gb397 hg w9 hbox hb; have n0_ := aA (below_step mB hb); have n1_ := aA (hbox); have n2_ := aA ((bZ hg mB)); have n3_ := aA ((bZ hg mB)); clear HB; have HB := n0_; have BK397 := n1_; have GW397 := n2_; have GE397 := n3_; clear n0_ n1_ n2_ n3_ hb hbox hg) | ((with_reducible refine gate_dst (N := 3) rfl ?_); refine box_event ?hg (N := 3) ?hd (cs := #[.int .i64 a1_0, .slice A1_1 l1_1.length c1_1, .int .i64 a1_2, .int .i64 a1_3, .int .i64 a1_4, .int .i64 a1_5, .int .i64 a1_6, .slice A1_7 l1_7.length c1_7, .int .i64 a1_8, .int .i64 a1_9, .slice A1_10 l1_10.length c1_10]) (t := 50) ?hr ?_; (case hd => rfl); (case hg => rfl); (case hr => first | (go_simp; done) | (go_simp; rfl)); intro gb398 hg w10 hbox hb; have n0_ := aA (bB BK397.out hb); have n1_ := aA (below_step (mD1 GE397.out) hb); have n2_ := aA (hbox); have n3_ := aA ((bZ hg (mD1 GE397.out))); have n4_ := aA ((bZ hg (mD1 GE397.out))); have n5_ := aA ((bL hg BK397.out)); have n6_ := aA ((bG hg BK397.out)); clear BK397 HB; have BK397 := n0_; have HB := n1_; have BK398 := n2_; have GW398 := n3_; have GE398 := n4_; have NB397_398 := n5_; have NB398_397 := n6_; clear n0_ n1_ n2_ n3_ n4_ n5_ n6_ hb hbox hg; have hnb11 := NB397_398.out; have hnc11 := NB398_397.out; obtain ⟨hcz12_0, hcz12_1, hcz12_2, hcz12_3, hcz12_4, hcz12_5, hcz12_6, hcz12_7, hcz12_8, hcz12_9, hcz12_10⟩ := bC11 BK397.out; obtain ⟨hfz12_0, hfz12_1, hfz12_2, hfz12_3, hfz12_4, hfz12_5, hfz12_6, hfz12_7, hfz12_8, hfz12_9, hfz12_10⟩ := bF11 BK397.out; obtain ⟨hcz13_0, hcz13_1, hcz13_2, hcz13_3, hcz13_4, hcz13_5, hcz13_6, hcz13_7, hcz13_8, hcz13_9, hcz13_10⟩ := bC11 BK398.out; obtain ⟨hfz13_0, hfz13_1, hfz13_2, hfz13_3, hfz13_4, hfz13_5, hfz13_6, hfz13_7, hfz13_8, hfz13_9, hfz13_10⟩ := bF11 BK398.out) | (go_at_call 53; (with_reducible refine (foghornref16_Same.calls _ _ l0_1 a0_2 a0_3 a0_4 a0_5 a0_6 _ _ l1_1 a1_2 a1_3 a1_4 a1_5 a1_6 true _ ?side1 ?side2 ?side3 ?side4 A4.out).mono ?_); (case side1 => exact mC ((Kd.C_below HR0_1.out HB.out))); (case side2 => exact HC0_1.out); (case side3 => exact mC ((Kd.C_below HR1_1.out HB.out))); (case side4 => exact HC1_1.out); rintro e w14 ⟨rfl, hb⟩; have n0_ := aA (bB BK397.out hb); have n1_ := aA (bB BK398.out hb); have n2_ := aA (below_step (mD2 GE397.out GE398.out) hb); clear BK397 BK398 HB; have BK397 := n0_; have BK398 := n1_; have HB := n2_; clear n0_ n1_ n2_; (try clear hb); (try clear hb2); (try clear hk); (try clear hi); obtain ⟨hcz15_0, hcz15_1, hcz15_2, hcz15_3, hcz15_4, hcz15_5, hcz15_6, hcz15_7, hcz15_8, hcz15_9, hcz15_10⟩ := bC11 BK397.out; obtain ⟨hfz15_0, hfz15_1, hfz15_2, hfz15_3, hfz15_4, hfz15_5, hfz15_6, hfz15_7, hfz15_8, hfz15_9, hfz15_10⟩ := bF11 BK397.out; obtain ⟨hcz16_0, hcz16_1, hcz16_2, hcz16_3, hcz16_4, hcz16_5, hcz16_6, hcz16_7, hcz16_8, hcz16_9, hcz16_10⟩ := bC11 BK398.out; obtain ⟨hfz16_0, hfz16_1, hfz16_2, hfz16_3, hfz16_4, hfz16_5, hfz16_6, hfz16_7, hfz16_8, hfz16_9, hfz16_10⟩ := bF11 BK398.out) | (go_at_call 17; (with_reducible refine (foghornref10_Same.calls _ _ l0_7 _ _ l1_7 true _ ?side1 ?side2 ?side3 ?side4 A6.out).mono ?_); (case side1 => exact mC ((Kd.C_below HR0_7.out HB.out))); (case side2 => exact HC0_7.out); (case side3 => exact mC ((Kd.C_below HR1_7.out HB.out))); (case side4 => exact HC1_7.out); rintro e w17 ⟨rfl, hb⟩; have n0_ := aA (bB BK397.out hb); have n1_ := aA (bB BK398.out hb); have n2_ := aA (below_step (mD2 GE397.out GE398.out) hb); clear BK397 BK398 HB; have BK397 := n0_; have BK398 := n1_; have HB := n2_; clear n0_ n1_ n2_; (try clear hb); (try clear hb2); (try clear hk); (try clear hi); obtain ⟨hcz18_0, hcz18_1, hcz18_2, hcz18_3, hcz18_4, hcz18_5, hcz18_6, hcz18_7, hcz18_8, hcz18_9, hcz18_10⟩ := bC11 BK397.out; obtain ⟨hfz18_0, hfz18_1, hfz18_2, hfz18_3, hfz18_4, hfz18_5, hfz18_6, hfz18_7, hfz18_8, hfz18_9, hfz18_10⟩ := bF11 BK397.out; obtain ⟨hcz19_0, hcz19_1, hcz19_2, hcz19_3, hcz19_4, hcz19_5, hcz19_6, hcz19_7, hcz19_8, hcz19_9, hcz19_10⟩ := bC11 BK398.out; obtain ⟨hfz19_0, hfz19_1, hfz19_2, hfz19_3, hfz19_4, hfz19_5, hfz19_6, hfz19_7, hfz19_8, hfz19_9, hfz19_10⟩ := bF11 BK398.out) | (go_at_call 54; (with_reducible refine (foghornref12_Hushes.calls k a0_8 a0_9 _ _ l0_10 a1_8 a1_9 _ _ l1_10 t401 _ ?side1 ?side2 ?side3 ?side4 A8.out).mono ?_); (case side1 => exact mC ((Kd.C_below HR0_10.out HB.out))); (case side2 => exact HC0_10.out); (case side3 => exact mC ((Kd.C_below HR1_10.out HB.out))); (case side4 => exact HC1_10.out); rintro e w20 ⟨rfl, hb⟩; have n0_ := aA (bB BK397.out hb); have n1_ := aA (bB BK398.out hb); have n2_ := aA (below_step (mD2 GE397.out GE398.out) hb); clear BK397 BK398 HB; have BK397 := n0_; have BK398 := n1_; have HB := n2_; clear n0_ n1_ n2_; (try clear hb); (try clear hb2); (try clear hk); (try clear hi)))
    go_ret
    exact ⟨by first | rfl | (simp [errW_none, errW_some] <;> rfl) | (simp [*, errW_none, errW_some] <;> rfl), by repeat (first | (with_reducible first | exact HB.out | apply below_alloc | apply pw_below_drewN | apply below_drew1 | refine below_set ?_ GE397.out | refine below_set ?_ GE398.out) | exact HB.out)⟩
   ·replace c7 := Bool.eq_false_iff.mpr c7
    subst c7
    have H1 : (some false) = some r := by rw [if_neg (show ¬ (false = true) by decide)] at H; exact H
    clear H
    have H := H1
    clear H1
    obtain rfl := Option.some.inj H
    go_enter Try.func32, Try.ntmps32
    go_wp2_with (first | ((with_reducible refine gate_dst (N := 2) rfl ?_); refine box_event ?hg (N := 2) ?hd (cs := #[.int .i64 a0_0, .slice A0_1 l0_1.length c0_1, .int .i64 a0_2, .int .i64 a0_3, .int .i64 a0_4, .int .i64 a0_5, .int .i64 a0_6, .slice A0_7 l0_7.length c0_7, .int .i64 a0_8, .int .i64 a0_9, .slice A0_10 l0_10.length c0_10]) (t := 50) ?hr ?_; (case hd => rfl); (case hg => rfl); (case hr => first | (go_simp; done) | (go_simp; rfl)); intro gb397 hg w21 hbox hb; have n0_ := aA (below_step mB hb); have n1_ := aA (hbox); have n2_ := aA ((bZ hg mB)); have n3_ := aA ((bZ hg mB)); clear HB; have HB := n0_; have BK397 := n1_; have GW397 := n2_; have GE397 := n3_; clear n0_ n1_ n2_ n3_ hb hbox hg) | ((with_reducible refine gate_dst (N := 3) rfl ?_); refine box_event ?hg (N := 3) ?hd (cs := #[.int .i64 a1_0, .slice A1_1 l1_1.length c1_1, .int .i64 a1_2, .int .i64 a1_3, .int .i64 a1_4, .int .i64 a1_5, .int .i64 a1_6, .slice A1_7 l1_7.length c1_7, .int .i64 a1_8, .int .i64 a1_9, .slice A1_10 l1_10.length c1_10]) (t := 50) ?hr ?_; (case hd => rfl); (case hg => rfl); (case hr => first | (go_simp; done) | (go_simp; rfl)); intro gb398 hg w22 hbox hb; have n0_ := aA (bB BK397.out hb); have n1_ := aA (below_step (mD1 GE397.out) hb); have n2_ := aA (hbox); have n3_ := aA ((bZ hg (mD1 GE397.out))); have n4_ := aA ((bZ hg (mD1 GE397.out))); have n5_ := aA ((bL hg BK397.out)); have n6_ := aA ((bG hg BK397.out)); clear BK397 HB; have BK397 := n0_; have HB := n1_; have BK398 := n2_; have GW398 := n3_; have GE398 := n4_; have NB397_398 := n5_; have NB398_397 := n6_; clear n0_ n1_ n2_ n3_ n4_ n5_ n6_ hb hbox hg; have hnb23 := NB397_398.out; have hnc23 := NB398_397.out; obtain ⟨hcz24_0, hcz24_1, hcz24_2, hcz24_3, hcz24_4, hcz24_5, hcz24_6, hcz24_7, hcz24_8, hcz24_9, hcz24_10⟩ := bC11 BK397.out; obtain ⟨hfz24_0, hfz24_1, hfz24_2, hfz24_3, hfz24_4, hfz24_5, hfz24_6, hfz24_7, hfz24_8, hfz24_9, hfz24_10⟩ := bF11 BK397.out; obtain ⟨hcz25_0, hcz25_1, hcz25_2, hcz25_3, hcz25_4, hcz25_5, hcz25_6, hcz25_7, hcz25_8, hcz25_9, hcz25_10⟩ := bC11 BK398.out; obtain ⟨hfz25_0, hfz25_1, hfz25_2, hfz25_3, hfz25_4, hfz25_5, hfz25_6, hfz25_7, hfz25_8, hfz25_9, hfz25_10⟩ := bF11 BK398.out) | (go_at_call 53; (with_reducible refine (foghornref16_Same.calls _ _ l0_1 a0_2 a0_3 a0_4 a0_5 a0_6 _ _ l1_1 a1_2 a1_3 a1_4 a1_5 a1_6 true _ ?side1 ?side2 ?side3 ?side4 A4.out).mono ?_); (case side1 => exact mC ((Kd.C_below HR0_1.out HB.out))); (case side2 => exact HC0_1.out); (case side3 => exact mC ((Kd.C_below HR1_1.out HB.out))); (case side4 => exact HC1_1.out); rintro e w26 ⟨rfl, hb⟩; have n0_ := aA (bB BK397.out hb); have n1_ := aA (bB BK398.out hb); have n2_ := aA (below_step (mD2 GE397.out GE398.out) hb); clear BK397 BK398 HB; have BK397 := n0_; have BK398 := n1_; have HB := n2_; clear n0_ n1_ n2_; (try clear hb); (try clear hb2); (try clear hk); (try clear hi); obtain ⟨hcz27_0, hcz27_1, hcz27_2, hcz27_3, hcz27_4, hcz27_5, hcz27_6, hcz27_7, hcz27_8, hcz27_9, hcz27_10⟩ := bC11 BK397.out; obtain ⟨hfz27_0, hfz27_1, hfz27_2, hfz27_3, hfz27_4, hfz27_5, hfz27_6, hfz27_7, hfz27_8, hfz27_9, hfz27_10⟩ := bF11 BK397.out; obtain ⟨hcz28_0, hcz28_1, hcz28_2, hcz28_3, hcz28_4, hcz28_5, hcz28_6, hcz28_7, hcz28_8, hcz28_9, hcz28_10⟩ := bC11 BK398.out; obtain ⟨hfz28_0, hfz28_1, hfz28_2, hfz28_3, hfz28_4, hfz28_5, hfz28_6, hfz28_7, hfz28_8, hfz28_9, hfz28_10⟩ := bF11 BK398.out) | (go_at_call 17; (with_reducible refine (foghornref10_Same.calls _ _ l0_7 _ _ l1_7 false _ ?side1 ?side2 ?side3 ?side4 A6.out).mono ?_); (case side1 => exact mC ((Kd.C_below HR0_7.out HB.out))); (case side2 => exact HC0_7.out); (case side3 => exact mC ((Kd.C_below HR1_7.out HB.out))); (case side4 => exact HC1_7.out); rintro e w29 ⟨rfl, hb⟩; have n0_ := aA (bB BK397.out hb); have n1_ := aA (bB BK398.out hb); have n2_ := aA (below_step (mD2 GE397.out GE398.out) hb); clear BK397 BK398 HB; have BK397 := n0_; have BK398 := n1_; have HB := n2_; clear n0_ n1_ n2_; (try clear hb); (try clear hb2); (try clear hk); (try clear hi)))
    go_ret
    exact ⟨by first | rfl | (simp [errW_none, errW_some] <;> rfl) | (simp [*, errW_none, errW_some] <;> rfl), by repeat (first | (with_reducible first | exact HB.out | apply below_alloc | apply pw_below_drewN | apply below_drew1 | refine below_set ?_ GE397.out | refine below_set ?_ GE398.out) | exact HB.out)⟩
  ·replace c5 := Bool.eq_false_iff.mpr c5
   subst c5
   have H1 : (some false) = some r := by rw [if_neg (show ¬ (false = true) by decide)] at H; exact H
   clear H
   have H := H1
   clear H1
   obtain rfl := Option.some.inj H
   go_enter Try.func32, Try.ntmps32
   go_wp2_with (first | ((with_reducible refine gate_dst (N := 2) rfl ?_); refine box_event ?hg (N := 2) ?hd (cs := #[.int .i64 a0_0, .slice A0_1 l0_1.length c0_1, .int .i64 a0_2, .int .i64 a0_3, .int .i64 a0_4, .int .i64 a0_5, .int .i64 a0_6, .slice A0_7 l0_7.length c0_7, .int .i64 a0_8, .int .i64 a0_9, .slice A0_10 l0_10.length c0_10]) (t := 50) ?hr ?_; (case hd => rfl); (case hg => rfl); (case hr => first | (go_simp; done) | (go_simp; rfl)); intro gb397 hg w30 hbox hb; have n0_ := aA (below_step mB hb); have n1_ := aA (hbox); have n2_ := aA ((bZ hg mB)); have n3_ := aA ((bZ hg mB)); clear HB; have HB := n0_; have BK397 := n1_; have GW397 := n2_; have GE397 := n3_; clear n0_ n1_ n2_ n3_ hb hbox hg) | ((with_reducible refine gate_dst (N := 3) rfl ?_); refine box_event ?hg (N := 3) ?hd (cs := #[.int .i64 a1_0, .slice A1_1 l1_1.length c1_1, .int .i64 a1_2, .int .i64 a1_3, .int .i64 a1_4, .int .i64 a1_5, .int .i64 a1_6, .slice A1_7 l1_7.length c1_7, .int .i64 a1_8, .int .i64 a1_9, .slice A1_10 l1_10.length c1_10]) (t := 50) ?hr ?_; (case hd => rfl); (case hg => rfl); (case hr => first | (go_simp; done) | (go_simp; rfl)); intro gb398 hg w31 hbox hb; have n0_ := aA (bB BK397.out hb); have n1_ := aA (below_step (mD1 GE397.out) hb); have n2_ := aA (hbox); have n3_ := aA ((bZ hg (mD1 GE397.out))); have n4_ := aA ((bZ hg (mD1 GE397.out))); have n5_ := aA ((bL hg BK397.out)); have n6_ := aA ((bG hg BK397.out)); clear BK397 HB; have BK397 := n0_; have HB := n1_; have BK398 := n2_; have GW398 := n3_; have GE398 := n4_; have NB397_398 := n5_; have NB398_397 := n6_; clear n0_ n1_ n2_ n3_ n4_ n5_ n6_ hb hbox hg; have hnb32 := NB397_398.out; have hnc32 := NB398_397.out; obtain ⟨hcz33_0, hcz33_1, hcz33_2, hcz33_3, hcz33_4, hcz33_5, hcz33_6, hcz33_7, hcz33_8, hcz33_9, hcz33_10⟩ := bC11 BK397.out; obtain ⟨hfz33_0, hfz33_1, hfz33_2, hfz33_3, hfz33_4, hfz33_5, hfz33_6, hfz33_7, hfz33_8, hfz33_9, hfz33_10⟩ := bF11 BK397.out; obtain ⟨hcz34_0, hcz34_1, hcz34_2, hcz34_3, hcz34_4, hcz34_5, hcz34_6, hcz34_7, hcz34_8, hcz34_9, hcz34_10⟩ := bC11 BK398.out; obtain ⟨hfz34_0, hfz34_1, hfz34_2, hfz34_3, hfz34_4, hfz34_5, hfz34_6, hfz34_7, hfz34_8, hfz34_9, hfz34_10⟩ := bF11 BK398.out) | (go_at_call 53; (with_reducible refine (foghornref16_Same.calls _ _ l0_1 a0_2 a0_3 a0_4 a0_5 a0_6 _ _ l1_1 a1_2 a1_3 a1_4 a1_5 a1_6 false _ ?side1 ?side2 ?side3 ?side4 A4.out).mono ?_); (case side1 => exact mC ((Kd.C_below HR0_1.out HB.out))); (case side2 => exact HC0_1.out); (case side3 => exact mC ((Kd.C_below HR1_1.out HB.out))); (case side4 => exact HC1_1.out); rintro e w35 ⟨rfl, hb⟩; have n0_ := aA (bB BK397.out hb); have n1_ := aA (bB BK398.out hb); have n2_ := aA (below_step (mD2 GE397.out GE398.out) hb); clear BK397 BK398 HB; have BK397 := n0_; have BK398 := n1_; have HB := n2_; clear n0_ n1_ n2_; (try clear hb); (try clear hb2); (try clear hk); (try clear hi)))
   go_ret
   exact ⟨by first | rfl | (simp [errW_none, errW_some] <;> rfl) | (simp [*, errW_none, errW_some] <;> rfl), by repeat (first | (with_reducible first | exact HB.out | apply below_alloc | apply pw_below_drewN | apply below_drew1 | refine below_set ?_ GE397.out | refine below_set ?_ GE398.out) | exact HB.out)⟩
 ·rw [if_neg c3] at H
  have c3b0 : (a0_0 == a1_0) = false := beq_eq_false_iff_ne.mpr c3
  have c3b1 : (a0_0 != a1_0) = true := bne_iff_ne.mpr c3
  obtain rfl := Option.some.inj H
  go_enter Try.func32, Try.ntmps32
  go_wp2_with (first | ((with_reducible refine gate_dst (N := 2) rfl ?_); refine box_event ?hg (N := 2) ?hd (cs := #[.int .i64 a0_0, .slice A0_1 l0_1.length c0_1, .int .i64 a0_2, .int .i64 a0_3, .int .i64 a0_4, .int .i64 a0_5, .int .i64 a0_6, .slice A0_7 l0_7.length c0_7, .int .i64 a0_8, .int .i64 a0_9, .slice A0_10 l0_10.length c0_10]) (t := 50) ?hr ?_; (case hd => rfl); (case hg => rfl); (case hr => first | (go_simp; done) | (go_simp; rfl)); intro gb397 hg w36 hbox hb; have n0_ := aA (below_step mB hb); have n1_ := aA (hbox); have n2_ := aA ((bZ hg mB)); have n3_ := aA ((bZ hg mB)); clear HB; have HB := n0_; have BK397 := n1_; have GW397 := n2_; have GE397 := n3_; clear n0_ n1_ n2_ n3_ hb hbox hg) | ((with_reducible refine gate_dst (N := 3) rfl ?_); refine box_event ?hg (N := 3) ?hd (cs := #[.int .i64 a1_0, .slice A1_1 l1_1.length c1_1, .int .i64 a1_2, .int .i64 a1_3, .int .i64 a1_4, .int .i64 a1_5, .int .i64 a1_6, .slice A1_7 l1_7.length c1_7, .int .i64 a1_8, .int .i64 a1_9, .slice A1_10 l1_10.length c1_10]) (t := 50) ?hr ?_; (case hd => rfl); (case hg => rfl); (case hr => first | (go_simp; done) | (go_simp; rfl)); intro gb398 hg w37 hbox hb; have n0_ := aA (bB BK397.out hb); have n1_ := aA (below_step (mD1 GE397.out) hb); have n2_ := aA (hbox); have n3_ := aA ((bZ hg (mD1 GE397.out))); have n4_ := aA ((bZ hg (mD1 GE397.out))); have n5_ := aA ((bL hg BK397.out)); have n6_ := aA ((bG hg BK397.out)); clear BK397 HB; have BK397 := n0_; have HB := n1_; have BK398 := n2_; have GW398 := n3_; have GE398 := n4_; have NB397_398 := n5_; have NB398_397 := n6_; clear n0_ n1_ n2_ n3_ n4_ n5_ n6_ hb hbox hg; have hnb38 := NB397_398.out; have hnc38 := NB398_397.out; obtain ⟨hcz39_0, hcz39_1, hcz39_2, hcz39_3, hcz39_4, hcz39_5, hcz39_6, hcz39_7, hcz39_8, hcz39_9, hcz39_10⟩ := bC11 BK397.out; obtain ⟨hfz39_0, hfz39_1, hfz39_2, hfz39_3, hfz39_4, hfz39_5, hfz39_6, hfz39_7, hfz39_8, hfz39_9, hfz39_10⟩ := bF11 BK397.out; obtain ⟨hcz40_0, hcz40_1, hcz40_2, hcz40_3, hcz40_4, hcz40_5, hcz40_6, hcz40_7, hcz40_8, hcz40_9, hcz40_10⟩ := bC11 BK398.out; obtain ⟨hfz40_0, hfz40_1, hfz40_2, hfz40_3, hfz40_4, hfz40_5, hfz40_6, hfz40_7, hfz40_8, hfz40_9, hfz40_10⟩ := bF11 BK398.out))
  go_ret
  exact ⟨by first | rfl | (simp [errW_none, errW_some] <;> rfl) | (simp [*, errW_none, errW_some] <;> rfl), by repeat (first | (with_reducible first | exact HB.out | apply below_alloc | apply pw_below_drewN | apply below_drew1 | refine below_set ?_ GE397.out | refine below_set ?_ GE398.out) | exact HB.out)⟩
end Go.Proofs.YtndgollcganhmaaQ.P
namespace Go.Proofs.YtndgollcganhmaaQ.P
open Go.RowKit Go.Proofs.YtndgollcganhmaaW.PrintWords Go.Proofs.YtndgollcganhmaaW.PrintLast Go.Proofs.YtndgollcganhmaaW.PrintMore
attribute [local go_sem] max2_int min2_int max_two min_two max_three min_three max_four min_four
def foghornlaw17_CodeApart.j0 : Nat → ByteArray → Int → ByteArray → Int → Bool → Int → List (S41) → Int → Int → Int → Int → Int → List (S41) → Int → Int → List (S35) → Int → List (S41) → Int → Int → Int → Int → Int → List (S41) → Int → Int → List (S35) → Option (Bool)
 | 0, _, _, _, _, _, _, _, _, _, _, _, _, _, _, _, _, _, _, _, _, _, _, _, _, _, _, _ => none
 | k + 1, x5, x6, x7, x8, x28, x510000, x510001, x510002, x510003, x510004, x510005, x510006, x510007, x510008, x510009, x510010, x511000, x511001, x511002, x511003, x511004, x511005, x511006, x511007, x511008, x511009, x511010 => if x28 = true then ((foghornlaw17_alive.f).bind fun t549 => (if t549 = true then (if x6 = 0 then (if x8 = 0 then (some true) else (some (x7.toList == ([] : List UInt8)))) else (if x5.toList = ([] : List UInt8) then (if x8 = 0 then (some true) else (some (x7.toList == ([] : List UInt8)))) else (some false))) else (some false))) else ((foghornlaw17_alive.f).bind fun t550 => (if t550 = true then ((foghornref17_Same.f k x510000 x510001 x510002 x510003 x510004 x510005 x510006 x510007 x510008 x510009 x510010 x511000 x511001 x511002 x511003 x511004 x511005 x511006 x511007 x511008 x511009 x511010).bind fun t551 => (some ((x5.toList == x7.toList) == t551))) else (some false)))
def foghornlaw17_CodeApart.f (k : Nat) (a0_0 : Int) (l0_1 : List (S41)) (a0_2 : Int) (a0_3 : Int) (a0_4 : Int) (a0_5 : Int) (a0_6 : Int) (l0_7 : List (S41)) (a0_8 : Int) (a0_9 : Int) (l0_10 : List (S35)) (a1_0 : Int) (l1_1 : List (S41)) (a1_2 : Int) (a1_3 : Int) (a1_4 : Int) (a1_5 : Int) (a1_6 : Int) (l1_7 : List (S41)) (a1_8 : Int) (a1_9 : Int) (l1_10 : List (S35)) : Option (Bool) := (foghornlaw17_few.f k a0_0 l0_1 a0_2 a0_3 a0_4 a0_5 a0_6 l0_7 a0_8 a0_9 l0_10).bind fun bt511 => ((foghornlaw17_few.f k a1_0 l1_1 a1_2 a1_3 a1_4 a1_5 a1_6 l1_7 a1_8 a1_9 l1_10).bind fun bt528 => ((code_Put.f bt511.1 bt511.2.1 bt511.2.2.1 bt511.2.2.2.1 bt511.2.2.2.2.1 bt511.2.2.2.2.2.1 bt511.2.2.2.2.2.2.1 bt511.2.2.2.2.2.2.2.1 bt511.2.2.2.2.2.2.2.2.1 bt511.2.2.2.2.2.2.2.2.2.1 bt511.2.2.2.2.2.2.2.2.2.2).bind fun bt545 => ((code_Put.f bt528.1 bt528.2.1 bt528.2.2.1 bt528.2.2.2.1 bt528.2.2.2.2.1 bt528.2.2.2.2.2.1 bt528.2.2.2.2.2.2.1 bt528.2.2.2.2.2.2.2.1 bt528.2.2.2.2.2.2.2.2.1 bt528.2.2.2.2.2.2.2.2.2.1 bt528.2.2.2.2.2.2.2.2.2.2).bind fun bt547 => (if bt545.2 = 0 then (foghornlaw17_CodeApart.j0 k bt545.1 bt545.2 bt547.1 bt547.2 (bt547.2 != 0) bt511.1 bt511.2.1 bt511.2.2.1 bt511.2.2.2.1 bt511.2.2.2.2.1 bt511.2.2.2.2.2.1 bt511.2.2.2.2.2.2.1 bt511.2.2.2.2.2.2.2.1 bt511.2.2.2.2.2.2.2.2.1 bt511.2.2.2.2.2.2.2.2.2.1 bt511.2.2.2.2.2.2.2.2.2.2 bt528.1 bt528.2.1 bt528.2.2.1 bt528.2.2.2.1 bt528.2.2.2.2.1 bt528.2.2.2.2.2.1 bt528.2.2.2.2.2.2.1 bt528.2.2.2.2.2.2.2.1 bt528.2.2.2.2.2.2.2.2.1 bt528.2.2.2.2.2.2.2.2.2.1 bt528.2.2.2.2.2.2.2.2.2.2) else (foghornlaw17_CodeApart.j0 k bt545.1 bt545.2 bt547.1 bt547.2 true bt511.1 bt511.2.1 bt511.2.2.1 bt511.2.2.2.1 bt511.2.2.2.2.1 bt511.2.2.2.2.2.1 bt511.2.2.2.2.2.2.1 bt511.2.2.2.2.2.2.2.1 bt511.2.2.2.2.2.2.2.2.1 bt511.2.2.2.2.2.2.2.2.2.1 bt511.2.2.2.2.2.2.2.2.2.2 bt528.1 bt528.2.1 bt528.2.2.1 bt528.2.2.2.1 bt528.2.2.2.2.1 bt528.2.2.2.2.2.1 bt528.2.2.2.2.2.2.1 bt528.2.2.2.2.2.2.2.1 bt528.2.2.2.2.2.2.2.2.1 bt528.2.2.2.2.2.2.2.2.2.1 bt528.2.2.2.2.2.2.2.2.2.2)))))
set_option maxHeartbeats 8000000 in
set_option maxRecDepth 100000 in
theorem foghornlaw17_CodeApart.calls (k : Nat) (a0_0 : Int) (A0_1 : Option Addr) (c0_1 : Nat) (l0_1 : List (S41)) (a0_2 : Int) (a0_3 : Int) (a0_4 : Int) (a0_5 : Int) (a0_6 : Int) (A0_7 : Option Addr) (c0_7 : Nat) (l0_7 : List (S41)) (a0_8 : Int) (a0_9 : Int) (A0_10 : Option Addr) (c0_10 : Nat) (l0_10 : List (S35)) (a1_0 : Int) (A1_1 : Option Addr) (c1_1 : Nat) (l1_1 : List (S41)) (a1_2 : Int) (a1_3 : Int) (a1_4 : Int) (a1_5 : Int) (a1_6 : Int) (A1_7 : Option Addr) (c1_7 : Nat) (l1_7 : List (S41)) (a1_8 : Int) (a1_9 : Int) (A1_10 : Option Addr) (c1_10 : Nat) (l1_10 : List (S35)) (r : Bool) (w : World) (hr0_1 : Kd.C k41 w A0_1 l0_1.length l0_1) (hc0_1 : l0_1.length ≤ c0_1) (hr0_7 : Kd.C k41 w A0_7 l0_7.length l0_7) (hc0_7 : l0_7.length ≤ c0_7) (hr0_10 : Kd.C k35 w A0_10 l0_10.length l0_10) (hc0_10 : l0_10.length ≤ c0_10) (hr1_1 : Kd.C k41 w A1_1 l1_1.length l1_1) (hc1_1 : l1_1.length ≤ c1_1) (hr1_7 : Kd.C k41 w A1_7 l1_7.length l1_7) (hc1_7 : l1_7.length ≤ c1_7) (hr1_10 : Kd.C k35 w A1_10 l1_10.length l1_10) (hc1_10 : l1_10.length ≤ c1_10) (h : foghornlaw17_CodeApart.f k a0_0 l0_1 a0_2 a0_3 a0_4 a0_5 a0_6 l0_7 a0_8 a0_9 l0_10 a1_0 l1_1 a1_2 a1_3 a1_4 a1_5 a1_6 l1_7 a1_8 a1_9 l1_10 = some r) :
  Calls Try.prog 9 #[.agg #[.int .i64 a0_0, .slice A0_1 l0_1.length c0_1, .int .i64 a0_2, .int .i64 a0_3, .int .i64 a0_4, .int .i64 a0_5, .int .i64 a0_6, .slice A0_7 l0_7.length c0_7, .int .i64 a0_8, .int .i64 a0_9, .slice A0_10 l0_10.length c0_10], .agg #[.int .i64 a1_0, .slice A1_1 l1_1.length c1_1, .int .i64 a1_2, .int .i64 a1_3, .int .i64 a1_4, .int .i64 a1_5, .int .i64 a1_6, .slice A1_7 l1_7.length c1_7, .int .i64 a1_8, .int .i64 a1_9, .slice A1_10 l1_10.length c1_10]] w fun e w' => e = .returned (.bool r) ∧ Below w.heap.size w w' := by
 have hu50 := Try.underlying50
 have HR0_1 := aA hr0_1
 have HC0_1 := aA hc0_1
 clear hr0_1 hc0_1
 have HR0_7 := aA hr0_7
 have HC0_7 := aA hc0_7
 clear hr0_7 hc0_7
 have HR0_10 := aA hr0_10
 have HC0_10 := aA hc0_10
 clear hr0_10 hc0_10
 have HR1_1 := aA hr1_1
 have HC1_1 := aA hc1_1
 clear hr1_1 hc1_1
 have HR1_7 := aA hr1_7
 have HC1_7 := aA hc1_7
 clear hr1_7 hc1_7
 have HR1_10 := aA hr1_10
 have HC1_10 := aA hc1_10
 clear hr1_10 hc1_10
 have HB := aA (Below.refl w.heap.size w)
 have H : ((foghornlaw17_few.f k a0_0 l0_1 a0_2 a0_3 a0_4 a0_5 a0_6 l0_7 a0_8 a0_9 l0_10).bind fun bt511 => ((foghornlaw17_few.f k a1_0 l1_1 a1_2 a1_3 a1_4 a1_5 a1_6 l1_7 a1_8 a1_9 l1_10).bind fun bt528 => ((code_Put.f bt511.1 bt511.2.1 bt511.2.2.1 bt511.2.2.2.1 bt511.2.2.2.2.1 bt511.2.2.2.2.2.1 bt511.2.2.2.2.2.2.1 bt511.2.2.2.2.2.2.2.1 bt511.2.2.2.2.2.2.2.2.1 bt511.2.2.2.2.2.2.2.2.2.1 bt511.2.2.2.2.2.2.2.2.2.2).bind fun bt545 => ((code_Put.f bt528.1 bt528.2.1 bt528.2.2.1 bt528.2.2.2.1 bt528.2.2.2.2.1 bt528.2.2.2.2.2.1 bt528.2.2.2.2.2.2.1 bt528.2.2.2.2.2.2.2.1 bt528.2.2.2.2.2.2.2.2.1 bt528.2.2.2.2.2.2.2.2.2.1 bt528.2.2.2.2.2.2.2.2.2.2).bind fun bt547 => (if bt545.2 = 0 then (foghornlaw17_CodeApart.j0 k bt545.1 bt545.2 bt547.1 bt547.2 (bt547.2 != 0) bt511.1 bt511.2.1 bt511.2.2.1 bt511.2.2.2.1 bt511.2.2.2.2.1 bt511.2.2.2.2.2.1 bt511.2.2.2.2.2.2.1 bt511.2.2.2.2.2.2.2.1 bt511.2.2.2.2.2.2.2.2.1 bt511.2.2.2.2.2.2.2.2.2.1 bt511.2.2.2.2.2.2.2.2.2.2 bt528.1 bt528.2.1 bt528.2.2.1 bt528.2.2.2.1 bt528.2.2.2.2.1 bt528.2.2.2.2.2.1 bt528.2.2.2.2.2.2.1 bt528.2.2.2.2.2.2.2.1 bt528.2.2.2.2.2.2.2.2.1 bt528.2.2.2.2.2.2.2.2.2.1 bt528.2.2.2.2.2.2.2.2.2.2) else (foghornlaw17_CodeApart.j0 k bt545.1 bt545.2 bt547.1 bt547.2 true bt511.1 bt511.2.1 bt511.2.2.1 bt511.2.2.2.1 bt511.2.2.2.2.1 bt511.2.2.2.2.2.1 bt511.2.2.2.2.2.2.1 bt511.2.2.2.2.2.2.2.1 bt511.2.2.2.2.2.2.2.2.1 bt511.2.2.2.2.2.2.2.2.2.1 bt511.2.2.2.2.2.2.2.2.2.2 bt528.1 bt528.2.1 bt528.2.2.1 bt528.2.2.2.1 bt528.2.2.2.2.1 bt528.2.2.2.2.2.1 bt528.2.2.2.2.2.2.1 bt528.2.2.2.2.2.2.2.1 bt528.2.2.2.2.2.2.2.2.1 bt528.2.2.2.2.2.2.2.2.2.1 bt528.2.2.2.2.2.2.2.2.2.2)))))) = some r := h
 clear h
 replace H := Option.bind_eq_some_iff.mp H
 obtain ⟨⟨t511, t512, t515, t516, t517, t518, t519, t520, t523, t524, t525⟩, A30, H⟩ := H
 have A3 := aA A30
 clear A30
 replace H := Option.bind_eq_some_iff.mp H
 obtain ⟨⟨t528, t529, t532, t533, t534, t535, t536, t537, t540, t541, t542⟩, A40, H⟩ := H
 have A4 := aA A40
 clear A40
 replace H := Option.bind_eq_some_iff.mp H
 obtain ⟨⟨t545, t546⟩, A50, H⟩ := H
 have A5 := aA A50
 clear A50
 replace H := Option.bind_eq_some_iff.mp H
 obtain ⟨⟨t547, t548⟩, A60, H⟩ := H
 have A6 := aA A60
 clear A60
 have HC7 := aA H
 clear H
 go_enter Try.func9, Try.ntmps9
 try go_wp2_with (first | ((with_reducible refine gate_dst (N := 2) rfl ?_); refine box_event ?hg (N := 2) ?hd (cs := #[.int .i64 a0_0, .slice A0_1 l0_1.length c0_1, .int .i64 a0_2, .int .i64 a0_3, .int .i64 a0_4, .int .i64 a0_5, .int .i64 a0_6, .slice A0_7 l0_7.length c0_7, .int .i64 a0_8, .int .i64 a0_9, .slice A0_10 l0_10.length c0_10]) (t := 50) ?hr ?_; (case hd => rfl); (case hg => rfl); (case hr => first | (go_simp; done) | (go_simp; rfl)); intro gb509 hg w8 hbox hb; have n0_ := aA (below_step mB hb); have n1_ := aA (hbox); have n2_ := aA ((bZ hg mB)); have n3_ := aA ((bZ hg mB)); clear HB; have HB := n0_; have BK509 := n1_; have GW509 := n2_; have GE509 := n3_; clear n0_ n1_ n2_ n3_ hb hbox hg) | ((with_reducible refine gate_dst (N := 3) rfl ?_); refine box_event ?hg (N := 3) ?hd (cs := #[.int .i64 a1_0, .slice A1_1 l1_1.length c1_1, .int .i64 a1_2, .int .i64 a1_3, .int .i64 a1_4, .int .i64 a1_5, .int .i64 a1_6, .slice A1_7 l1_7.length c1_7, .int .i64 a1_8, .int .i64 a1_9, .slice A1_10 l1_10.length c1_10]) (t := 50) ?hr ?_; (case hd => rfl); (case hg => rfl); (case hr => first | (go_simp; done) | (go_simp; rfl)); intro gb510 hg w9 hbox hb; have n0_ := aA (bB BK509.out hb); have n1_ := aA (below_step (mD1 GE509.out) hb); have n2_ := aA (hbox); have n3_ := aA ((bZ hg (mD1 GE509.out))); have n4_ := aA ((bZ hg (mD1 GE509.out))); have n5_ := aA ((bL hg BK509.out)); have n6_ := aA ((bG hg BK509.out)); clear BK509 HB; have BK509 := n0_; have HB := n1_; have BK510 := n2_; have GW510 := n3_; have GE510 := n4_; have NB509_510 := n5_; have NB510_509 := n6_; clear n0_ n1_ n2_ n3_ n4_ n5_ n6_ hb hbox hg))
 have n0_ := aA (blk_drew BK509.out)
 have n1_ := aA (blk_drew BK510.out)
 have n2_ := aA (below_drew1 HB.out)
 clear BK509
 clear BK510
 clear HB
 have BK509 := n0_
 have BK510 := n1_
 have HB := n2_
 clear n0_ n1_ n2_
 refine start_ (n := 6) (S := fun w' => w'.cell? ⟨gb509, 0, none⟩ = some (.int .i64 a0_0) ∧ w'.cell? ⟨gb509, 1, none⟩ = some (.slice A0_1 l0_1.length c0_1) ∧ w'.cell? ⟨gb509, 2, none⟩ = some (.int .i64 a0_2) ∧ w'.cell? ⟨gb509, 3, none⟩ = some (.int .i64 a0_3) ∧ w'.cell? ⟨gb509, 4, none⟩ = some (.int .i64 a0_4) ∧ w'.cell? ⟨gb509, 5, none⟩ = some (.int .i64 a0_5) ∧ w'.cell? ⟨gb509, 6, none⟩ = some (.int .i64 a0_6) ∧ w'.cell? ⟨gb509, 7, none⟩ = some (.slice A0_7 l0_7.length c0_7) ∧ w'.cell? ⟨gb509, 8, none⟩ = some (.int .i64 a0_8) ∧ w'.cell? ⟨gb509, 9, none⟩ = some (.int .i64 a0_9) ∧ w'.cell? ⟨gb509, 10, none⟩ = some (.slice A0_10 l0_10.length c0_10) ∧ w'.cell? ⟨gb510, 0, none⟩ = some (.int .i64 a1_0) ∧ w'.cell? ⟨gb510, 1, none⟩ = some (.slice A1_1 l1_1.length c1_1) ∧ w'.cell? ⟨gb510, 2, none⟩ = some (.int .i64 a1_2) ∧ w'.cell? ⟨gb510, 3, none⟩ = some (.int .i64 a1_3) ∧ w'.cell? ⟨gb510, 4, none⟩ = some (.int .i64 a1_4) ∧ w'.cell? ⟨gb510, 5, none⟩ = some (.int .i64 a1_5) ∧ w'.cell? ⟨gb510, 6, none⟩ = some (.int .i64 a1_6) ∧ w'.cell? ⟨gb510, 7, none⟩ = some (.slice A1_7 l1_7.length c1_7) ∧ w'.cell? ⟨gb510, 8, none⟩ = some (.int .i64 a1_8) ∧ w'.cell? ⟨gb510, 9, none⟩ = some (.int .i64 a1_9) ∧ w'.cell? ⟨gb510, 10, none⟩ = some (.slice A1_10 l1_10.length c1_10)) (ds := [4, 5]) #[false, false, false, false, false, false] (by kernel_rfl) rfl rfl ⟨(blk_cell BK509.out 0).trans rfl, (blk_cell BK509.out 1).trans rfl, (blk_cell BK509.out 2).trans rfl, (blk_cell BK509.out 3).trans rfl, (blk_cell BK509.out 4).trans rfl, (blk_cell BK509.out 5).trans rfl, (blk_cell BK509.out 6).trans rfl, (blk_cell BK509.out 7).trans rfl, (blk_cell BK509.out 8).trans rfl, (blk_cell BK509.out 9).trans rfl, (blk_cell BK509.out 10).trans rfl, (blk_cell BK510.out 0).trans rfl, (blk_cell BK510.out 1).trans rfl, (blk_cell BK510.out 2).trans rfl, (blk_cell BK510.out 3).trans rfl, (blk_cell BK510.out 4).trans rfl, (blk_cell BK510.out 5).trans rfl, (blk_cell BK510.out 6).trans rfl, (blk_cell BK510.out 7).trans rfl, (blk_cell BK510.out 8).trans rfl, (blk_cell BK510.out 9).trans rfl, (blk_cell BK510.out 10).trans rfl⟩ (fun hHeld => ?_)
 generalize w9.drew = w10 at BK509 BK510 HB hHeld ⊢
 refine take_ (i := 0) (N := some 9) (v := ?_) (a' := ?_) #[true, false, false, false, false, false] rfl rfl (by kernel_rfl) (fun _ _ _ h => h) (Or.inl ⟨by rfl, ?_⟩) hHeld ?_ ?_
 rotate_left
 ·rintro w' ⟨s0, s1, s2, s3, s4, s5, s6, s7, s8, s9, s10, s11, s12, s13, s14, s15, s16, s17, s18, s19, s20, s21⟩
  go_simp
  with_reducible rfl
 rotate_left
 ·exact mP
 refine take_ (i := 2) (N := some 11) (v := ?_) (a' := ?_) #[true, false, true, false, false, false] rfl rfl (by kernel_rfl) (fun _ _ _ h => h) (Or.inl ⟨by rfl, ?_⟩) hHeld ?_ ?_
 rotate_left
 ·rintro w' ⟨s0, s1, s2, s3, s4, s5, s6, s7, s8, s9, s10, s11, s12, s13, s14, s15, s16, s17, s18, s19, s20, s21⟩
  go_simp
  with_reducible rfl
 rotate_left
 ·exact mP
 refine one_ (i := 1) (N := some 10) #[true, true, true, false, false, false] rfl rfl (by kernel_rfl) (by decide) (fun K hK => ?_)
 refine goes_ Try.func24 (by kernel_rfl) rfl #[.agg #[.int .i64 a0_0, .slice A0_1 l0_1.length c0_1, .int .i64 a0_2, .int .i64 a0_3, .int .i64 a0_4, .int .i64 a0_5, .int .i64 a0_6, .slice A0_7 l0_7.length c0_7, .int .i64 a0_8, .int .i64 a0_9, .slice A0_10 l0_10.length c0_10]] (by rfl) rfl rfl mS ?_
 with_reducible refine (foghornlaw17_few.calls k a0_0 _ _ l0_1 a0_2 a0_3 a0_4 a0_5 a0_6 _ _ l0_7 a0_8 a0_9 _ _ l0_10 t511 t512 t515 t516 t517 t518 t519 t520 t523 t524 t525 _ ?side1 ?side2 ?side3 ?side4 ?side5 ?side6 A3.out).mono ?_
 (case side1 => exact mC ((Kd.C_below HR0_1.out HB.out)))
 (case side2 => exact HC0_1.out)
 (case side3 => exact mC ((Kd.C_below HR0_7.out HB.out)))
 (case side4 => exact HC0_7.out)
 (case side5 => exact mC ((Kd.C_below HR0_10.out HB.out)))
 (case side6 => exact HC0_10.out)
 rintro e w11 ⟨v513, v521, v526, rfl, ho0, ho1, ho2, hb⟩
 refine ⟨_, rfl, ?_⟩
 have n0_ := aA (Kd.R_lower ho0 (below_size (mD2 GE509.out GE510.out)))
 have n1_ := aA (Kd.R_lower ho1 (below_size (mD2 GE509.out GE510.out)))
 have n2_ := aA (Kd.R_lower ho2 (below_size (mD2 GE509.out GE510.out)))
 have n3_ := aA (bB BK509.out hb)
 have n4_ := aA (bB BK510.out hb)
 have n5_ := aA (below_step (mD2 GE509.out GE510.out) hb)
 clear BK509
 clear BK510
 clear HB
 have HO514 := n0_
 have HO522 := n1_
 have HO527 := n2_
 have BK509 := n3_
 have BK510 := n4_
 have HB := n5_
 clear n0_ n1_ n2_ n3_ n4_ n5_
 (try clear hb)
 (try clear hb2)
 (try clear hk)
 (try clear hi)
 (try clear ho0)
 (try clear ho1)
 (try clear ho2)
 refine hK.out _ _ ⟨(blk_cell BK509.out 0).trans rfl, (blk_cell BK509.out 1).trans rfl, (blk_cell BK509.out 2).trans rfl, (blk_cell BK509.out 3).trans rfl, (blk_cell BK509.out 4).trans rfl, (blk_cell BK509.out 5).trans rfl, (blk_cell BK509.out 6).trans rfl, (blk_cell BK509.out 7).trans rfl, (blk_cell BK509.out 8).trans rfl, (blk_cell BK509.out 9).trans rfl, (blk_cell BK509.out 10).trans rfl, (blk_cell BK510.out 0).trans rfl, (blk_cell BK510.out 1).trans rfl, (blk_cell BK510.out 2).trans rfl, (blk_cell BK510.out 3).trans rfl, (blk_cell BK510.out 4).trans rfl, (blk_cell BK510.out 5).trans rfl, (blk_cell BK510.out 6).trans rfl, (blk_cell BK510.out 7).trans rfl, (blk_cell BK510.out 8).trans rfl, (blk_cell BK510.out 9).trans rfl, (blk_cell BK510.out 10).trans rfl⟩ (fun hHeld => ?_)
 clear hK K
 refine norm_ (a' := ?_) ?_ ?_
 rotate_left
 ·show Act.put _ (some 10) _ = _
  simp only [Act.put, List.setIfInBounds_toArray, List.set_cons_zero, List.set_cons_succ, i64_w, i32_w]
  rfl
 refine one_ (i := 3) (N := some 12) #[true, true, true, true, false, false] rfl rfl (by kernel_rfl) (by decide) (fun K hK => ?_)
 refine goes_ Try.func24 (by kernel_rfl) rfl #[.agg #[.int .i64 a1_0, .slice A1_1 l1_1.length c1_1, .int .i64 a1_2, .int .i64 a1_3, .int .i64 a1_4, .int .i64 a1_5, .int .i64 a1_6, .slice A1_7 l1_7.length c1_7, .int .i64 a1_8, .int .i64 a1_9, .slice A1_10 l1_10.length c1_10]] (by rfl) rfl rfl mS ?_
 with_reducible refine (foghornlaw17_few.calls k a1_0 _ _ l1_1 a1_2 a1_3 a1_4 a1_5 a1_6 _ _ l1_7 a1_8 a1_9 _ _ l1_10 t528 t529 t532 t533 t534 t535 t536 t537 t540 t541 t542 _ ?side1 ?side2 ?side3 ?side4 ?side5 ?side6 A4.out).mono ?_
 (case side1 => exact mC ((Kd.C_below HR1_1.out HB.out)))
 (case side2 => exact HC1_1.out)
 (case side3 => exact mC ((Kd.C_below HR1_7.out HB.out)))
 (case side4 => exact HC1_7.out)
 (case side5 => exact mC ((Kd.C_below HR1_10.out HB.out)))
 (case side6 => exact HC1_10.out)
 rintro e w12 ⟨v530, v538, v543, rfl, ho0, ho1, ho2, hb⟩
 refine ⟨_, rfl, ?_⟩
 have n0_ := aA (Kd.R_mono (Kd.R_told (Kd.R_told (Kd.R_old (mR HO514.out) hb) (Kd.R_base ho0)) (Kd.R_base ho1)) (fun _ h_ => h_.1))
 have n1_ := aA (Kd.R_mono (Kd.R_told (Kd.R_told (Kd.R_old (mR HO522.out) hb) (Kd.R_base ho0)) (Kd.R_base ho1)) (fun _ h_ => h_.1))
 have n2_ := aA (Kd.R_elder' (mR HO527.out) (Kd.R_base ho2) hb)
 have n3_ := aA (Kd.R_lower (Kd.R_new' (Kd.R_new' ho0 (Kd.R_lt (mR HO514.out))) (Kd.R_lt (mR HO522.out))) (below_size (mD2 GE509.out GE510.out)))
 have n4_ := aA (Kd.R_lower (Kd.R_new' (Kd.R_new' ho1 (Kd.R_lt (mR HO514.out))) (Kd.R_lt (mR HO522.out))) (below_size (mD2 GE509.out GE510.out)))
 have n5_ := aA (Kd.R_lower (Kd.R_new' ho2 (Kd.R_lt (mR HO527.out))) (below_size (mD2 GE509.out GE510.out)))
 have n6_ := aA (bB BK509.out hb)
 have n7_ := aA (bB BK510.out hb)
 have n8_ := aA (below_step (mD2 GE509.out GE510.out) hb)
 clear HO514
 clear HO522
 clear HO527
 clear BK509
 clear BK510
 clear HB
 have HO514 := n0_
 have HO522 := n1_
 have HO527 := n2_
 have HO531 := n3_
 have HO539 := n4_
 have HO544 := n5_
 have BK509 := n6_
 have BK510 := n7_
 have HB := n8_
 clear n0_ n1_ n2_ n3_ n4_ n5_ n6_ n7_ n8_
 (try clear hb)
 (try clear hb2)
 (try clear hk)
 (try clear hi)
 (try clear ho0)
 (try clear ho1)
 (try clear ho2)
 obtain ⟨Ao14, co14, eo14⟩ := Kd.R_slice HO514.out
 (first | subst eo14 | (injection eo14 with f1_ f2_ f3_; have f4_ := f1_.symm; have f5_ := f3_.symm; clear f1_ f2_ f3_; subst f4_; subst f5_))
 obtain ⟨Ao21, co21, eo21⟩ := Kd.R_slice HO522.out
 (first | subst eo21 | (injection eo21 with f1_ f2_ f3_; have f4_ := f1_.symm; have f5_ := f3_.symm; clear f1_ f2_ f3_; subst f4_; subst f5_))
 obtain ⟨Ao25, co25, eo25⟩ := Kd.R_slice HO527.out
 (first | subst eo25 | (injection eo25 with f1_ f2_ f3_; have f4_ := f1_.symm; have f5_ := f3_.symm; clear f1_ f2_ f3_; subst f4_; subst f5_))
 obtain ⟨Ao28, co28, eo28⟩ := Kd.R_slice HO531.out
 (first | subst eo28 | (injection eo28 with f1_ f2_ f3_; have f4_ := f1_.symm; have f5_ := f3_.symm; clear f1_ f2_ f3_; subst f4_; subst f5_))
 obtain ⟨Ao35, co35, eo35⟩ := Kd.R_slice HO539.out
 (first | subst eo35 | (injection eo35 with f1_ f2_ f3_; have f4_ := f1_.symm; have f5_ := f3_.symm; clear f1_ f2_ f3_; subst f4_; subst f5_))
 obtain ⟨Ao39, co39, eo39⟩ := Kd.R_slice HO544.out
 (first | subst eo39 | (injection eo39 with f1_ f2_ f3_; have f4_ := f1_.symm; have f5_ := f3_.symm; clear f1_ f2_ f3_; subst f4_; subst f5_))
 refine hK.out _ _ ⟨(blk_cell BK509.out 0).trans rfl, (blk_cell BK509.out 1).trans rfl, (blk_cell BK509.out 2).trans rfl, (blk_cell BK509.out 3).trans rfl, (blk_cell BK509.out 4).trans rfl, (blk_cell BK509.out 5).trans rfl, (blk_cell BK509.out 6).trans rfl, (blk_cell BK509.out 7).trans rfl, (blk_cell BK509.out 8).trans rfl, (blk_cell BK509.out 9).trans rfl, (blk_cell BK509.out 10).trans rfl, (blk_cell BK510.out 0).trans rfl, (blk_cell BK510.out 1).trans rfl, (blk_cell BK510.out 2).trans rfl, (blk_cell BK510.out 3).trans rfl, (blk_cell BK510.out 4).trans rfl, (blk_cell BK510.out 5).trans rfl, (blk_cell BK510.out 6).trans rfl, (blk_cell BK510.out 7).trans rfl, (blk_cell BK510.out 8).trans rfl, (blk_cell BK510.out 9).trans rfl, (blk_cell BK510.out 10).trans rfl⟩ (fun hHeld => ?_)
 clear hK K
 refine norm_ (a' := ?_) ?_ ?_
 rotate_left
 ·show Act.put _ (some 12) _ = _
  simp only [Act.put, List.setIfInBounds_toArray, List.set_cons_zero, List.set_cons_succ, i64_w, i32_w]
  rfl
 refine last_ (i := 4) (N := none) #[true, true, true, true, true, false] rfl rfl (by kernel_rfl) (by decide) (fun K hK => ?_)
 have hs13 : w12.cell? ⟨gb509, 0, none⟩ = some (.int .i64 a0_0) := (blk_cell BK509.out 0).trans rfl
 have hfs13 := blk_frozen BK509.out 0
 have hns13_1 := NB510_509.out
 have hms13_1 := NB509_510.out
 have hs15 : w12.cell? ⟨gb509, 1, none⟩ = some (.slice A0_1 l0_1.length c0_1) := (blk_cell BK509.out 1).trans rfl
 have hfs15 := blk_frozen BK509.out 1
 have hns15_1 := NB510_509.out
 have hms15_1 := NB509_510.out
 have hs16 : w12.cell? ⟨gb509, 2, none⟩ = some (.int .i64 a0_2) := (blk_cell BK509.out 2).trans rfl
 have hfs16 := blk_frozen BK509.out 2
 have hns16_1 := NB510_509.out
 have hms16_1 := NB509_510.out
 have hs17 : w12.cell? ⟨gb509, 3, none⟩ = some (.int .i64 a0_3) := (blk_cell BK509.out 3).trans rfl
 have hfs17 := blk_frozen BK509.out 3
 have hns17_1 := NB510_509.out
 have hms17_1 := NB509_510.out
 have hs18 : w12.cell? ⟨gb509, 4, none⟩ = some (.int .i64 a0_4) := (blk_cell BK509.out 4).trans rfl
 have hfs18 := blk_frozen BK509.out 4
 have hns18_1 := NB510_509.out
 have hms18_1 := NB509_510.out
 have hs19 : w12.cell? ⟨gb509, 5, none⟩ = some (.int .i64 a0_5) := (blk_cell BK509.out 5).trans rfl
 have hfs19 := blk_frozen BK509.out 5
 have hns19_1 := NB510_509.out
 have hms19_1 := NB509_510.out
 have hs20 : w12.cell? ⟨gb509, 6, none⟩ = some (.int .i64 a0_6) := (blk_cell BK509.out 6).trans rfl
 have hfs20 := blk_frozen BK509.out 6
 have hns20_1 := NB510_509.out
 have hms20_1 := NB509_510.out
 have hs22 : w12.cell? ⟨gb509, 7, none⟩ = some (.slice A0_7 l0_7.length c0_7) := (blk_cell BK509.out 7).trans rfl
 have hfs22 := blk_frozen BK509.out 7
 have hns22_1 := NB510_509.out
 have hms22_1 := NB509_510.out
 have hs23 : w12.cell? ⟨gb509, 8, none⟩ = some (.int .i64 a0_8) := (blk_cell BK509.out 8).trans rfl
 have hfs23 := blk_frozen BK509.out 8
 have hns23_1 := NB510_509.out
 have hms23_1 := NB509_510.out
 have hs24 : w12.cell? ⟨gb509, 9, none⟩ = some (.int .i64 a0_9) := (blk_cell BK509.out 9).trans rfl
 have hfs24 := blk_frozen BK509.out 9
 have hns24_1 := NB510_509.out
 have hms24_1 := NB509_510.out
 have hs26 : w12.cell? ⟨gb509, 10, none⟩ = some (.slice A0_10 l0_10.length c0_10) := (blk_cell BK509.out 10).trans rfl
 have hfs26 := blk_frozen BK509.out 10
 have hns26_1 := NB510_509.out
 have hms26_1 := NB509_510.out
 refine skip_ (w1 := ?_) (by rfl) rfl ?_ ?_
 rotate_left
 ·go_simp
  rfl
 refine hK.out _ _ ?_
 clear hK K
 refine last_ (i := 5) (N := none) #[true, true, true, true, true, true] rfl rfl (by kernel_rfl) (by decide) (fun K hK => ?_)
 have hs27 : w12.cell? ⟨gb510, 0, none⟩ = some (.int .i64 a1_0) := (blk_cell BK510.out 0).trans rfl
 have hfs27 := blk_frozen BK510.out 0
 have hns27_0 := NB509_510.out
 have hms27_0 := NB510_509.out
 have hs29 : w12.cell? ⟨gb510, 1, none⟩ = some (.slice A1_1 l1_1.length c1_1) := (blk_cell BK510.out 1).trans rfl
 have hfs29 := blk_frozen BK510.out 1
 have hns29_0 := NB509_510.out
 have hms29_0 := NB510_509.out
 have hs30 : w12.cell? ⟨gb510, 2, none⟩ = some (.int .i64 a1_2) := (blk_cell BK510.out 2).trans rfl
 have hfs30 := blk_frozen BK510.out 2
 have hns30_0 := NB509_510.out
 have hms30_0 := NB510_509.out
 have hs31 : w12.cell? ⟨gb510, 3, none⟩ = some (.int .i64 a1_3) := (blk_cell BK510.out 3).trans rfl
 have hfs31 := blk_frozen BK510.out 3
 have hns31_0 := NB509_510.out
 have hms31_0 := NB510_509.out
 have hs32 : w12.cell? ⟨gb510, 4, none⟩ = some (.int .i64 a1_4) := (blk_cell BK510.out 4).trans rfl
 have hfs32 := blk_frozen BK510.out 4
 have hns32_0 := NB509_510.out
 have hms32_0 := NB510_509.out
 have hs33 : w12.cell? ⟨gb510, 5, none⟩ = some (.int .i64 a1_5) := (blk_cell BK510.out 5).trans rfl
 have hfs33 := blk_frozen BK510.out 5
 have hns33_0 := NB509_510.out
 have hms33_0 := NB510_509.out
 have hs34 : w12.cell? ⟨gb510, 6, none⟩ = some (.int .i64 a1_6) := (blk_cell BK510.out 6).trans rfl
 have hfs34 := blk_frozen BK510.out 6
 have hns34_0 := NB509_510.out
 have hms34_0 := NB510_509.out
 have hs36 : w12.cell? ⟨gb510, 7, none⟩ = some (.slice A1_7 l1_7.length c1_7) := (blk_cell BK510.out 7).trans rfl
 have hfs36 := blk_frozen BK510.out 7
 have hns36_0 := NB509_510.out
 have hms36_0 := NB510_509.out
 have hs37 : w12.cell? ⟨gb510, 8, none⟩ = some (.int .i64 a1_8) := (blk_cell BK510.out 8).trans rfl
 have hfs37 := blk_frozen BK510.out 8
 have hns37_0 := NB509_510.out
 have hms37_0 := NB510_509.out
 have hs38 : w12.cell? ⟨gb510, 9, none⟩ = some (.int .i64 a1_9) := (blk_cell BK510.out 9).trans rfl
 have hfs38 := blk_frozen BK510.out 9
 have hns38_0 := NB509_510.out
 have hms38_0 := NB510_509.out
 have hs40 : w12.cell? ⟨gb510, 10, none⟩ = some (.slice A1_10 l1_10.length c1_10) := (blk_cell BK510.out 10).trans rfl
 have hfs40 := blk_frozen BK510.out 10
 have hns40_0 := NB509_510.out
 have hms40_0 := NB510_509.out
 refine skip_ (w1 := ?w1) ?hw ?hN ?hr ?h
 case hw => kernel_rfl
 case hN => kernel_rfl
 case hr =>
  go_simp
  rfl
 refine hK.out _ _ ?_
 clear hK K
 refine done_ (by kernel_rfl) ?_
 have hnb41 := NB509_510.out
 have hnc41 := NB510_509.out
 obtain ⟨hcz42_0, hcz42_1, hcz42_2, hcz42_3, hcz42_4, hcz42_5, hcz42_6, hcz42_7, hcz42_8, hcz42_9, hcz42_10⟩ := bC11 BK509.out
 obtain ⟨hfz42_0, hfz42_1, hfz42_2, hfz42_3, hfz42_4, hfz42_5, hfz42_6, hfz42_7, hfz42_8, hfz42_9, hfz42_10⟩ := bF11 BK509.out
 go_upto_region 4 with (first | ((with_reducible refine gate_callee (f := 25) rfl ?_); refine goesL_ (some 15) rfl rfl Try.func25 (by kernel_rfl) rfl #[.agg #[.int .i64 t511, .slice Ao14 t512.length co14, .int .i64 t515, .int .i64 t516, .int .i64 t517, .int .i64 t518, .int .i64 t519, .slice Ao21 t520.length co21, .int .i64 t523, .int .i64 t524, .slice Ao25 t525.length co25]] rfl mS ?_; (with_reducible refine (code_Put.calls t511 _ _ t512 t515 t516 t517 t518 t519 _ _ t520 t523 t524 _ _ t525 t545 t546 _ ?side1 ?side2 ?side3 ?side4 ?side5 ?side6 A5.out).mono ?_); (case side1 => refine (Kd.R_reads' (e := 41) (base := w.heap.size) (ok := fun k_ => ((some k_ ≠ (.slice Ao21 t520.length co21 : Value).ownBlock ∧ some k_ ≠ (.slice Ao28 t529.length co28 : Value).ownBlock) ∧ some k_ ≠ (.slice Ao35 t537.length co35 : Value).ownBlock)) (n := t512.length) (c := co14) ?_).2.2; exact (by (with_reducible repeat (first | apply Kd.R_alloc | apply Kd.R_drewN | apply Kd.R_drew)); exact (Kd.R_mono (Kd.R_mono (rF 10 (rF 9 (rF 8 (rF 7 (rF 6 (rF 5 (rF 4 (rF 3 (rF 2 (rF 1 (rF 0 (Kd.R_far (p := ⟨gb509, 10, none⟩) (Kd.R_far (p := ⟨gb509, 9, none⟩) (Kd.R_far (p := ⟨gb509, 8, none⟩) (Kd.R_far (p := ⟨gb509, 7, none⟩) (Kd.R_far (p := ⟨gb509, 6, none⟩) (Kd.R_far (p := ⟨gb509, 5, none⟩) (Kd.R_far (p := ⟨gb509, 4, none⟩) (Kd.R_far (p := ⟨gb509, 3, none⟩) (Kd.R_far (p := ⟨gb509, 2, none⟩) (Kd.R_far (p := ⟨gb509, 1, none⟩) (Kd.R_far (p := ⟨gb509, 0, none⟩) (Kd.R_types (Kd.R_types HO514.out BK509.out (by decide)) BK510.out (by decide)) (fun _ hk => hk.1.2) (.int .i64 t511)) (fun _ hk => hk.1.2) (.slice Ao14 t512.length co14)) (fun _ hk => hk.1.2) (.int .i64 t515)) (fun _ hk => hk.1.2) (.int .i64 t516)) (fun _ hk => hk.1.2) (.int .i64 t517)) (fun _ hk => hk.1.2) (.int .i64 t518)) (fun _ hk => hk.1.2) (.int .i64 t519)) (fun _ hk => hk.1.2) (.slice Ao21 t520.length co21)) (fun _ hk => hk.1.2) (.int .i64 t523)) (fun _ hk => hk.1.2) (.int .i64 t524)) (fun _ hk => hk.1.2) (.slice Ao25 t525.length co25))))))))))))) (fun _ h_ => h_.1)) (fun _ h_ => h_.1)))); (case side2 => exact (Kd.R_reads' HO514.out).2.1); (case side3 => refine (Kd.R_reads' (e := 41) (base := w.heap.size) (ok := fun k_ => ((some k_ ≠ (.slice Ao14 t512.length co14 : Value).ownBlock ∧ some k_ ≠ (.slice Ao28 t529.length co28 : Value).ownBlock) ∧ some k_ ≠ (.slice Ao35 t537.length co35 : Value).ownBlock)) (n := t520.length) (c := co21) ?_).2.2; exact (by (with_reducible repeat (first | apply Kd.R_alloc | apply Kd.R_drewN | apply Kd.R_drew)); exact (Kd.R_mono (Kd.R_mono (rF 10 (rF 9 (rF 8 (rF 7 (rF 6 (rF 5 (rF 4 (rF 3 (rF 2 (rF 1 (rF 0 (Kd.R_far (p := ⟨gb509, 10, none⟩) (Kd.R_far (p := ⟨gb509, 9, none⟩) (Kd.R_far (p := ⟨gb509, 8, none⟩) (Kd.R_far (p := ⟨gb509, 7, none⟩) (Kd.R_far (p := ⟨gb509, 6, none⟩) (Kd.R_far (p := ⟨gb509, 5, none⟩) (Kd.R_far (p := ⟨gb509, 4, none⟩) (Kd.R_far (p := ⟨gb509, 3, none⟩) (Kd.R_far (p := ⟨gb509, 2, none⟩) (Kd.R_far (p := ⟨gb509, 1, none⟩) (Kd.R_far (p := ⟨gb509, 0, none⟩) (Kd.R_types (Kd.R_types HO522.out BK509.out (by decide)) BK510.out (by decide)) (fun _ hk => hk.1.2) (.int .i64 t511)) (fun _ hk => hk.1.2) (.slice Ao14 t512.length co14)) (fun _ hk => hk.1.2) (.int .i64 t515)) (fun _ hk => hk.1.2) (.int .i64 t516)) (fun _ hk => hk.1.2) (.int .i64 t517)) (fun _ hk => hk.1.2) (.int .i64 t518)) (fun _ hk => hk.1.2) (.int .i64 t519)) (fun _ hk => hk.1.2) (.slice Ao21 t520.length co21)) (fun _ hk => hk.1.2) (.int .i64 t523)) (fun _ hk => hk.1.2) (.int .i64 t524)) (fun _ hk => hk.1.2) (.slice Ao25 t525.length co25))))))))))))) (fun _ h_ => h_.1)) (fun _ h_ => h_.1)))); (case side4 => exact (Kd.R_reads' HO522.out).2.1); (case side5 => refine (Kd.R_reads' (e := 35) (base := w.heap.size) (ok := fun k_ => (True ∧ some k_ ≠ (.slice Ao39 t542.length co39 : Value).ownBlock)) (n := t525.length) (c := co25) ?_).2.2; exact (by (with_reducible repeat (first | apply Kd.R_alloc | apply Kd.R_drewN | apply Kd.R_drew)); exact (Kd.R_mono (Kd.R_mono (rF 10 (rF 9 (rF 8 (rF 7 (rF 6 (rF 5 (rF 4 (rF 3 (rF 2 (rF 1 (rF 0 (Kd.R_far (p := ⟨gb509, 10, none⟩) (Kd.R_far (p := ⟨gb509, 9, none⟩) (Kd.R_far (p := ⟨gb509, 8, none⟩) (Kd.R_far (p := ⟨gb509, 7, none⟩) (Kd.R_far (p := ⟨gb509, 6, none⟩) (Kd.R_far (p := ⟨gb509, 5, none⟩) (Kd.R_far (p := ⟨gb509, 4, none⟩) (Kd.R_far (p := ⟨gb509, 3, none⟩) (Kd.R_far (p := ⟨gb509, 2, none⟩) (Kd.R_far (p := ⟨gb509, 1, none⟩) (Kd.R_far (p := ⟨gb509, 0, none⟩) (Kd.R_types (Kd.R_types HO527.out BK509.out (by decide)) BK510.out (by decide)) (fun _ hk => hk.1.2) (.int .i64 t511)) (fun _ hk => hk.1.2) (.slice Ao14 t512.length co14)) (fun _ hk => hk.1.2) (.int .i64 t515)) (fun _ hk => hk.1.2) (.int .i64 t516)) (fun _ hk => hk.1.2) (.int .i64 t517)) (fun _ hk => hk.1.2) (.int .i64 t518)) (fun _ hk => hk.1.2) (.int .i64 t519)) (fun _ hk => hk.1.2) (.slice Ao21 t520.length co21)) (fun _ hk => hk.1.2) (.int .i64 t523)) (fun _ hk => hk.1.2) (.int .i64 t524)) (fun _ hk => hk.1.2) (.slice Ao25 t525.length co25))))))))))))) (fun _ h_ => h_.1)) (fun _ h_ => h_.1)))); (case side6 => exact (Kd.R_reads' HO527.out).2.1); rintro e w43 ⟨rfl, hb⟩; refine ⟨_, rfl, ?_⟩; have n0_ := aA (Kd.R_below (by (with_reducible repeat (first | apply Kd.R_alloc | apply Kd.R_drewN | apply Kd.R_drew)); exact (Kd.R_mono (Kd.R_mono (rF 10 (rF 9 (rF 8 (rF 7 (rF 6 (rF 5 (rF 4 (rF 3 (rF 2 (rF 1 (rF 0 (Kd.R_far (p := ⟨gb509, 10, none⟩) (Kd.R_far (p := ⟨gb509, 9, none⟩) (Kd.R_far (p := ⟨gb509, 8, none⟩) (Kd.R_far (p := ⟨gb509, 7, none⟩) (Kd.R_far (p := ⟨gb509, 6, none⟩) (Kd.R_far (p := ⟨gb509, 5, none⟩) (Kd.R_far (p := ⟨gb509, 4, none⟩) (Kd.R_far (p := ⟨gb509, 3, none⟩) (Kd.R_far (p := ⟨gb509, 2, none⟩) (Kd.R_far (p := ⟨gb509, 1, none⟩) (Kd.R_far (p := ⟨gb509, 0, none⟩) (Kd.R_types (Kd.R_types HO514.out BK509.out (by decide)) BK510.out (by decide)) (fun _ hk => hk.1.2) (.int .i64 t511)) (fun _ hk => hk.1.2) (.slice Ao14 t512.length co14)) (fun _ hk => hk.1.2) (.int .i64 t515)) (fun _ hk => hk.1.2) (.int .i64 t516)) (fun _ hk => hk.1.2) (.int .i64 t517)) (fun _ hk => hk.1.2) (.int .i64 t518)) (fun _ hk => hk.1.2) (.int .i64 t519)) (fun _ hk => hk.1.2) (.slice Ao21 t520.length co21)) (fun _ hk => hk.1.2) (.int .i64 t523)) (fun _ hk => hk.1.2) (.int .i64 t524)) (fun _ hk => hk.1.2) (.slice Ao25 t525.length co25))))))))))))) (fun _ h_ => h_.1)) (fun _ h_ => h_.1))) hb); have n1_ := aA (Kd.R_below (by (with_reducible repeat (first | apply Kd.R_alloc | apply Kd.R_drewN | apply Kd.R_drew)); exact (Kd.R_mono (Kd.R_mono (rF 10 (rF 9 (rF 8 (rF 7 (rF 6 (rF 5 (rF 4 (rF 3 (rF 2 (rF 1 (rF 0 (Kd.R_far (p := ⟨gb509, 10, none⟩) (Kd.R_far (p := ⟨gb509, 9, none⟩) (Kd.R_far (p := ⟨gb509, 8, none⟩) (Kd.R_far (p := ⟨gb509, 7, none⟩) (Kd.R_far (p := ⟨gb509, 6, none⟩) (Kd.R_far (p := ⟨gb509, 5, none⟩) (Kd.R_far (p := ⟨gb509, 4, none⟩) (Kd.R_far (p := ⟨gb509, 3, none⟩) (Kd.R_far (p := ⟨gb509, 2, none⟩) (Kd.R_far (p := ⟨gb509, 1, none⟩) (Kd.R_far (p := ⟨gb509, 0, none⟩) (Kd.R_types (Kd.R_types HO522.out BK509.out (by decide)) BK510.out (by decide)) (fun _ hk => hk.1.2) (.int .i64 t511)) (fun _ hk => hk.1.2) (.slice Ao14 t512.length co14)) (fun _ hk => hk.1.2) (.int .i64 t515)) (fun _ hk => hk.1.2) (.int .i64 t516)) (fun _ hk => hk.1.2) (.int .i64 t517)) (fun _ hk => hk.1.2) (.int .i64 t518)) (fun _ hk => hk.1.2) (.int .i64 t519)) (fun _ hk => hk.1.2) (.slice Ao21 t520.length co21)) (fun _ hk => hk.1.2) (.int .i64 t523)) (fun _ hk => hk.1.2) (.int .i64 t524)) (fun _ hk => hk.1.2) (.slice Ao25 t525.length co25))))))))))))) (fun _ h_ => h_.1)) (fun _ h_ => h_.1))) hb); have n2_ := aA (Kd.R_below (by (with_reducible repeat (first | apply Kd.R_alloc | apply Kd.R_drewN | apply Kd.R_drew)); exact (Kd.R_mono (Kd.R_mono (rF 10 (rF 9 (rF 8 (rF 7 (rF 6 (rF 5 (rF 4 (rF 3 (rF 2 (rF 1 (rF 0 (Kd.R_far (p := ⟨gb509, 10, none⟩) (Kd.R_far (p := ⟨gb509, 9, none⟩) (Kd.R_far (p := ⟨gb509, 8, none⟩) (Kd.R_far (p := ⟨gb509, 7, none⟩) (Kd.R_far (p := ⟨gb509, 6, none⟩) (Kd.R_far (p := ⟨gb509, 5, none⟩) (Kd.R_far (p := ⟨gb509, 4, none⟩) (Kd.R_far (p := ⟨gb509, 3, none⟩) (Kd.R_far (p := ⟨gb509, 2, none⟩) (Kd.R_far (p := ⟨gb509, 1, none⟩) (Kd.R_far (p := ⟨gb509, 0, none⟩) (Kd.R_types (Kd.R_types HO527.out BK509.out (by decide)) BK510.out (by decide)) (fun _ hk => hk.1.2) (.int .i64 t511)) (fun _ hk => hk.1.2) (.slice Ao14 t512.length co14)) (fun _ hk => hk.1.2) (.int .i64 t515)) (fun _ hk => hk.1.2) (.int .i64 t516)) (fun _ hk => hk.1.2) (.int .i64 t517)) (fun _ hk => hk.1.2) (.int .i64 t518)) (fun _ hk => hk.1.2) (.int .i64 t519)) (fun _ hk => hk.1.2) (.slice Ao21 t520.length co21)) (fun _ hk => hk.1.2) (.int .i64 t523)) (fun _ hk => hk.1.2) (.int .i64 t524)) (fun _ hk => hk.1.2) (.slice Ao25 t525.length co25))))))))))))) (fun _ h_ => h_.1)) (fun _ h_ => h_.1))) hb); have n3_ := aA (Kd.R_below (by (with_reducible repeat (first | apply Kd.R_alloc | apply Kd.R_drewN | apply Kd.R_drew)); exact (Kd.R_mono (Kd.R_mono (rF 10 (rF 9 (rF 8 (rF 7 (rF 6 (rF 5 (rF 4 (rF 3 (rF 2 (rF 1 (rF 0 (Kd.R_far (p := ⟨gb509, 10, none⟩) (Kd.R_far (p := ⟨gb509, 9, none⟩) (Kd.R_far (p := ⟨gb509, 8, none⟩) (Kd.R_far (p := ⟨gb509, 7, none⟩) (Kd.R_far (p := ⟨gb509, 6, none⟩) (Kd.R_far (p := ⟨gb509, 5, none⟩) (Kd.R_far (p := ⟨gb509, 4, none⟩) (Kd.R_far (p := ⟨gb509, 3, none⟩) (Kd.R_far (p := ⟨gb509, 2, none⟩) (Kd.R_far (p := ⟨gb509, 1, none⟩) (Kd.R_far (p := ⟨gb509, 0, none⟩) (Kd.R_types (Kd.R_types HO531.out BK509.out (by decide)) BK510.out (by decide)) (fun _ hk => hk.1.2) (.int .i64 t511)) (fun _ hk => hk.1.2) (.slice Ao14 t512.length co14)) (fun _ hk => hk.1.2) (.int .i64 t515)) (fun _ hk => hk.1.2) (.int .i64 t516)) (fun _ hk => hk.1.2) (.int .i64 t517)) (fun _ hk => hk.1.2) (.int .i64 t518)) (fun _ hk => hk.1.2) (.int .i64 t519)) (fun _ hk => hk.1.2) (.slice Ao21 t520.length co21)) (fun _ hk => hk.1.2) (.int .i64 t523)) (fun _ hk => hk.1.2) (.int .i64 t524)) (fun _ hk => hk.1.2) (.slice Ao25 t525.length co25))))))))))))) (fun _ h_ => h_.1)) (fun _ h_ => h_.1))) hb); have n4_ := aA (Kd.R_below (by (with_reducible repeat (first | apply Kd.R_alloc | apply Kd.R_drewN | apply Kd.R_drew)); exact (Kd.R_mono (Kd.R_mono (rF 10 (rF 9 (rF 8 (rF 7 (rF 6 (rF 5 (rF 4 (rF 3 (rF 2 (rF 1 (rF 0 (Kd.R_far (p := ⟨gb509, 10, none⟩) (Kd.R_far (p := ⟨gb509, 9, none⟩) (Kd.R_far (p := ⟨gb509, 8, none⟩) (Kd.R_far (p := ⟨gb509, 7, none⟩) (Kd.R_far (p := ⟨gb509, 6, none⟩) (Kd.R_far (p := ⟨gb509, 5, none⟩) (Kd.R_far (p := ⟨gb509, 4, none⟩) (Kd.R_far (p := ⟨gb509, 3, none⟩) (Kd.R_far (p := ⟨gb509, 2, none⟩) (Kd.R_far (p := ⟨gb509, 1, none⟩) (Kd.R_far (p := ⟨gb509, 0, none⟩) (Kd.R_types (Kd.R_types HO539.out BK509.out (by decide)) BK510.out (by decide)) (fun _ hk => hk.1.2) (.int .i64 t511)) (fun _ hk => hk.1.2) (.slice Ao14 t512.length co14)) (fun _ hk => hk.1.2) (.int .i64 t515)) (fun _ hk => hk.1.2) (.int .i64 t516)) (fun _ hk => hk.1.2) (.int .i64 t517)) (fun _ hk => hk.1.2) (.int .i64 t518)) (fun _ hk => hk.1.2) (.int .i64 t519)) (fun _ hk => hk.1.2) (.slice Ao21 t520.length co21)) (fun _ hk => hk.1.2) (.int .i64 t523)) (fun _ hk => hk.1.2) (.int .i64 t524)) (fun _ hk => hk.1.2) (.slice Ao25 t525.length co25))))))))))))) (fun _ h_ => h_.1)) (fun _ h_ => h_.1))) hb); have n5_ := aA (Kd.R_below (by (with_reducible repeat (first | apply Kd.R_alloc | apply Kd.R_drewN | apply Kd.R_drew)); exact (Kd.R_mono (Kd.R_mono (rF 10 (rF 9 (rF 8 (rF 7 (rF 6 (rF 5 (rF 4 (rF 3 (rF 2 (rF 1 (rF 0 (Kd.R_far (p := ⟨gb509, 10, none⟩) (Kd.R_far (p := ⟨gb509, 9, none⟩) (Kd.R_far (p := ⟨gb509, 8, none⟩) (Kd.R_far (p := ⟨gb509, 7, none⟩) (Kd.R_far (p := ⟨gb509, 6, none⟩) (Kd.R_far (p := ⟨gb509, 5, none⟩) (Kd.R_far (p := ⟨gb509, 4, none⟩) (Kd.R_far (p := ⟨gb509, 3, none⟩) (Kd.R_far (p := ⟨gb509, 2, none⟩) (Kd.R_far (p := ⟨gb509, 1, none⟩) (Kd.R_far (p := ⟨gb509, 0, none⟩) (Kd.R_types (Kd.R_types HO544.out BK509.out (by decide)) BK510.out (by decide)) (fun _ hk => hk.1.2) (.int .i64 t511)) (fun _ hk => hk.1.2) (.slice Ao14 t512.length co14)) (fun _ hk => hk.1.2) (.int .i64 t515)) (fun _ hk => hk.1.2) (.int .i64 t516)) (fun _ hk => hk.1.2) (.int .i64 t517)) (fun _ hk => hk.1.2) (.int .i64 t518)) (fun _ hk => hk.1.2) (.int .i64 t519)) (fun _ hk => hk.1.2) (.slice Ao21 t520.length co21)) (fun _ hk => hk.1.2) (.int .i64 t523)) (fun _ hk => hk.1.2) (.int .i64 t524)) (fun _ hk => hk.1.2) (.slice Ao25 t525.length co25))))))))))))) (fun _ h_ => h_.1)) (fun _ h_ => h_.1))) hb); have n6_ := aA (blk_below (g := gb509) (o := .cells #[.int .i64 t511, .slice Ao14 t512.length co14, .int .i64 t515, .int .i64 t516, .int .i64 t517, .int .i64 t518, .int .i64 t519, .slice Ao21 t520.length co21, .int .i64 t523, .int .i64 t524, .slice Ao25 t525.length co25] 50 (0, 0)) (by (with_reducible repeat (first | refine blk_drewN ?_ _ | refine blk_drew ?_ | refine blk_alloc ?_ _)); refine blk_far ?_ NB509_510.out _; (with_reducible repeat (first | refine blk_drewN ?_ _ | refine blk_drew ?_ | refine blk_alloc ?_ _)); refine blk_far ?_ NB509_510.out _; (with_reducible repeat (first | refine blk_drewN ?_ _ | refine blk_drew ?_ | refine blk_alloc ?_ _)); refine blk_far ?_ NB509_510.out _; (with_reducible repeat (first | refine blk_drewN ?_ _ | refine blk_drew ?_ | refine blk_alloc ?_ _)); refine blk_far ?_ NB509_510.out _; (with_reducible repeat (first | refine blk_drewN ?_ _ | refine blk_drew ?_ | refine blk_alloc ?_ _)); refine blk_far ?_ NB509_510.out _; (with_reducible repeat (first | refine blk_drewN ?_ _ | refine blk_drew ?_ | refine blk_alloc ?_ _)); refine blk_far ?_ NB509_510.out _; (with_reducible repeat (first | refine blk_drewN ?_ _ | refine blk_drew ?_ | refine blk_alloc ?_ _)); refine blk_far ?_ NB509_510.out _; (with_reducible repeat (first | refine blk_drewN ?_ _ | refine blk_drew ?_ | refine blk_alloc ?_ _)); refine blk_far ?_ NB509_510.out _; (with_reducible repeat (first | refine blk_drewN ?_ _ | refine blk_drew ?_ | refine blk_alloc ?_ _)); refine blk_far ?_ NB509_510.out _; (with_reducible repeat (first | refine blk_drewN ?_ _ | refine blk_drew ?_ | refine blk_alloc ?_ _)); refine blk_far ?_ NB509_510.out _; (with_reducible repeat (first | refine blk_drewN ?_ _ | refine blk_drew ?_ | refine blk_alloc ?_ _)); refine blk_far ?_ NB509_510.out _; (with_reducible repeat (first | refine blk_drewN ?_ _ | refine blk_drew ?_ | refine blk_alloc ?_ _)); refine blk_put (cs := #[.int .i64 t511, .slice Ao14 t512.length co14, .int .i64 t515, .int .i64 t516, .int .i64 t517, .int .i64 t518, .int .i64 t519, .slice Ao21 t520.length co21, .int .i64 t523, .int .i64 t524, .slice A0_10 l0_10.length c0_10]) ?_ 10 _ rfl; (with_reducible repeat (first | refine blk_drewN ?_ _ | refine blk_drew ?_ | refine blk_alloc ?_ _)); refine blk_put (cs := #[.int .i64 t511, .slice Ao14 t512.length co14, .int .i64 t515, .int .i64 t516, .int .i64 t517, .int .i64 t518, .int .i64 t519, .slice Ao21 t520.length co21, .int .i64 t523, .int .i64 a0_9, .slice A0_10 l0_10.length c0_10]) ?_ 9 _ rfl; (with_reducible repeat (first | refine blk_drewN ?_ _ | refine blk_drew ?_ | refine blk_alloc ?_ _)); refine blk_put (cs := #[.int .i64 t511, .slice Ao14 t512.length co14, .int .i64 t515, .int .i64 t516, .int .i64 t517, .int .i64 t518, .int .i64 t519, .slice Ao21 t520.length co21, .int .i64 a0_8, .int .i64 a0_9, .slice A0_10 l0_10.length c0_10]) ?_ 8 _ rfl; (with_reducible repeat (first | refine blk_drewN ?_ _ | refine blk_drew ?_ | refine blk_alloc ?_ _)); refine blk_put (cs := #[.int .i64 t511, .slice Ao14 t512.length co14, .int .i64 t515, .int .i64 t516, .int .i64 t517, .int .i64 t518, .int .i64 t519, .slice A0_7 l0_7.length c0_7, .int .i64 a0_8, .int .i64 a0_9, .slice A0_10 l0_10.length c0_10]) ?_ 7 _ rfl; (with_reducible repeat (first | refine blk_drewN ?_ _ | refine blk_drew ?_ | refine blk_alloc ?_ _)); refine blk_put (cs := #[.int .i64 t511, .slice Ao14 t512.length co14, .int .i64 t515, .int .i64 t516, .int .i64 t517, .int .i64 t518, .int .i64 a0_6, .slice A0_7 l0_7.length c0_7, .int .i64 a0_8, .int .i64 a0_9, .slice A0_10 l0_10.length c0_10]) ?_ 6 _ rfl; (with_reducible repeat (first | refine blk_drewN ?_ _ | refine blk_drew ?_ | refine blk_alloc ?_ _)); refine blk_put (cs := #[.int .i64 t511, .slice Ao14 t512.length co14, .int .i64 t515, .int .i64 t516, .int .i64 t517, .int .i64 a0_5, .int .i64 a0_6, .slice A0_7 l0_7.length c0_7, .int .i64 a0_8, .int .i64 a0_9, .slice A0_10 l0_10.length c0_10]) ?_ 5 _ rfl; (with_reducible repeat (first | refine blk_drewN ?_ _ | refine blk_drew ?_ | refine blk_alloc ?_ _)); refine blk_put (cs := #[.int .i64 t511, .slice Ao14 t512.length co14, .int .i64 t515, .int .i64 t516, .int .i64 a0_4, .int .i64 a0_5, .int .i64 a0_6, .slice A0_7 l0_7.length c0_7, .int .i64 a0_8, .int .i64 a0_9, .slice A0_10 l0_10.length c0_10]) ?_ 4 _ rfl; (with_reducible repeat (first | refine blk_drewN ?_ _ | refine blk_drew ?_ | refine blk_alloc ?_ _)); refine blk_put (cs := #[.int .i64 t511, .slice Ao14 t512.length co14, .int .i64 t515, .int .i64 a0_3, .int .i64 a0_4, .int .i64 a0_5, .int .i64 a0_6, .slice A0_7 l0_7.length c0_7, .int .i64 a0_8, .int .i64 a0_9, .slice A0_10 l0_10.length c0_10]) ?_ 3 _ rfl; (with_reducible repeat (first | refine blk_drewN ?_ _ | refine blk_drew ?_ | refine blk_alloc ?_ _)); refine blk_put (cs := #[.int .i64 t511, .slice Ao14 t512.length co14, .int .i64 a0_2, .int .i64 a0_3, .int .i64 a0_4, .int .i64 a0_5, .int .i64 a0_6, .slice A0_7 l0_7.length c0_7, .int .i64 a0_8, .int .i64 a0_9, .slice A0_10 l0_10.length c0_10]) ?_ 2 _ rfl; (with_reducible repeat (first | refine blk_drewN ?_ _ | refine blk_drew ?_ | refine blk_alloc ?_ _)); refine blk_put (cs := #[.int .i64 t511, .slice A0_1 l0_1.length c0_1, .int .i64 a0_2, .int .i64 a0_3, .int .i64 a0_4, .int .i64 a0_5, .int .i64 a0_6, .slice A0_7 l0_7.length c0_7, .int .i64 a0_8, .int .i64 a0_9, .slice A0_10 l0_10.length c0_10]) ?_ 1 _ rfl; (with_reducible repeat (first | refine blk_drewN ?_ _ | refine blk_drew ?_ | refine blk_alloc ?_ _)); refine blk_put (cs := #[.int .i64 a0_0, .slice A0_1 l0_1.length c0_1, .int .i64 a0_2, .int .i64 a0_3, .int .i64 a0_4, .int .i64 a0_5, .int .i64 a0_6, .slice A0_7 l0_7.length c0_7, .int .i64 a0_8, .int .i64 a0_9, .slice A0_10 l0_10.length c0_10]) ?_ 0 _ rfl; (with_reducible repeat (first | refine blk_drewN ?_ _ | refine blk_drew ?_ | refine blk_alloc ?_ _)); exact BK509.out) hb); have n7_ := aA (blk_below (g := gb510) (o := .cells #[.int .i64 t528, .slice Ao28 t529.length co28, .int .i64 t532, .int .i64 t533, .int .i64 t534, .int .i64 t535, .int .i64 t536, .slice Ao35 t537.length co35, .int .i64 t540, .int .i64 t541, .slice Ao39 t542.length co39] 50 (0, 0)) (by (with_reducible repeat (first | refine blk_drewN ?_ _ | refine blk_drew ?_ | refine blk_alloc ?_ _)); refine blk_put (cs := #[.int .i64 t528, .slice Ao28 t529.length co28, .int .i64 t532, .int .i64 t533, .int .i64 t534, .int .i64 t535, .int .i64 t536, .slice Ao35 t537.length co35, .int .i64 t540, .int .i64 t541, .slice A1_10 l1_10.length c1_10]) ?_ 10 _ rfl; (with_reducible repeat (first | refine blk_drewN ?_ _ | refine blk_drew ?_ | refine blk_alloc ?_ _)); refine blk_put (cs := #[.int .i64 t528, .slice Ao28 t529.length co28, .int .i64 t532, .int .i64 t533, .int .i64 t534, .int .i64 t535, .int .i64 t536, .slice Ao35 t537.length co35, .int .i64 t540, .int .i64 a1_9, .slice A1_10 l1_10.length c1_10]) ?_ 9 _ rfl; (with_reducible repeat (first | refine blk_drewN ?_ _ | refine blk_drew ?_ | refine blk_alloc ?_ _)); refine blk_put (cs := #[.int .i64 t528, .slice Ao28 t529.length co28, .int .i64 t532, .int .i64 t533, .int .i64 t534, .int .i64 t535, .int .i64 t536, .slice Ao35 t537.length co35, .int .i64 a1_8, .int .i64 a1_9, .slice A1_10 l1_10.length c1_10]) ?_ 8 _ rfl; (with_reducible repeat (first | refine blk_drewN ?_ _ | refine blk_drew ?_ | refine blk_alloc ?_ _)); refine blk_put (cs := #[.int .i64 t528, .slice Ao28 t529.length co28, .int .i64 t532, .int .i64 t533, .int .i64 t534, .int .i64 t535, .int .i64 t536, .slice A1_7 l1_7.length c1_7, .int .i64 a1_8, .int .i64 a1_9, .slice A1_10 l1_10.length c1_10]) ?_ 7 _ rfl; (with_reducible repeat (first | refine blk_drewN ?_ _ | refine blk_drew ?_ | refine blk_alloc ?_ _)); refine blk_put (cs := #[.int .i64 t528, .slice Ao28 t529.length co28, .int .i64 t532, .int .i64 t533, .int .i64 t534, .int .i64 t535, .int .i64 a1_6, .slice A1_7 l1_7.length c1_7, .int .i64 a1_8, .int .i64 a1_9, .slice A1_10 l1_10.length c1_10]) ?_ 6 _ rfl; (with_reducible repeat (first | refine blk_drewN ?_ _ | refine blk_drew ?_ | refine blk_alloc ?_ _)); refine blk_put (cs := #[.int .i64 t528, .slice Ao28 t529.length co28, .int .i64 t532, .int .i64 t533, .int .i64 t534, .int .i64 a1_5, .int .i64 a1_6, .slice A1_7 l1_7.length c1_7, .int .i64 a1_8, .int .i64 a1_9, .slice A1_10 l1_10.length c1_10]) ?_ 5 _ rfl; (with_reducible repeat (first | refine blk_drewN ?_ _ | refine blk_drew ?_ | refine blk_alloc ?_ _)); refine blk_put (cs := #[.int .i64 t528, .slice Ao28 t529.length co28, .int .i64 t532, .int .i64 t533, .int .i64 a1_4, .int .i64 a1_5, .int .i64 a1_6, .slice A1_7 l1_7.length c1_7, .int .i64 a1_8, .int .i64 a1_9, .slice A1_10 l1_10.length c1_10]) ?_ 4 _ rfl; (with_reducible repeat (first | refine blk_drewN ?_ _ | refine blk_drew ?_ | refine blk_alloc ?_ _)); refine blk_put (cs := #[.int .i64 t528, .slice Ao28 t529.length co28, .int .i64 t532, .int .i64 a1_3, .int .i64 a1_4, .int .i64 a1_5, .int .i64 a1_6, .slice A1_7 l1_7.length c1_7, .int .i64 a1_8, .int .i64 a1_9, .slice A1_10 l1_10.length c1_10]) ?_ 3 _ rfl; (with_reducible repeat (first | refine blk_drewN ?_ _ | refine blk_drew ?_ | refine blk_alloc ?_ _)); refine blk_put (cs := #[.int .i64 t528, .slice Ao28 t529.length co28, .int .i64 a1_2, .int .i64 a1_3, .int .i64 a1_4, .int .i64 a1_5, .int .i64 a1_6, .slice A1_7 l1_7.length c1_7, .int .i64 a1_8, .int .i64 a1_9, .slice A1_10 l1_10.length c1_10]) ?_ 2 _ rfl; (with_reducible repeat (first | refine blk_drewN ?_ _ | refine blk_drew ?_ | refine blk_alloc ?_ _)); refine blk_put (cs := #[.int .i64 t528, .slice A1_1 l1_1.length c1_1, .int .i64 a1_2, .int .i64 a1_3, .int .i64 a1_4, .int .i64 a1_5, .int .i64 a1_6, .slice A1_7 l1_7.length c1_7, .int .i64 a1_8, .int .i64 a1_9, .slice A1_10 l1_10.length c1_10]) ?_ 1 _ rfl; (with_reducible repeat (first | refine blk_drewN ?_ _ | refine blk_drew ?_ | refine blk_alloc ?_ _)); refine blk_put (cs := #[.int .i64 a1_0, .slice A1_1 l1_1.length c1_1, .int .i64 a1_2, .int .i64 a1_3, .int .i64 a1_4, .int .i64 a1_5, .int .i64 a1_6, .slice A1_7 l1_7.length c1_7, .int .i64 a1_8, .int .i64 a1_9, .slice A1_10 l1_10.length c1_10]) ?_ 0 _ rfl; (with_reducible repeat (first | refine blk_drewN ?_ _ | refine blk_drew ?_ | refine blk_alloc ?_ _)); refine blk_far ?_ NB510_509.out _; (with_reducible repeat (first | refine blk_drewN ?_ _ | refine blk_drew ?_ | refine blk_alloc ?_ _)); refine blk_far ?_ NB510_509.out _; (with_reducible repeat (first | refine blk_drewN ?_ _ | refine blk_drew ?_ | refine blk_alloc ?_ _)); refine blk_far ?_ NB510_509.out _; (with_reducible repeat (first | refine blk_drewN ?_ _ | refine blk_drew ?_ | refine blk_alloc ?_ _)); refine blk_far ?_ NB510_509.out _; (with_reducible repeat (first | refine blk_drewN ?_ _ | refine blk_drew ?_ | refine blk_alloc ?_ _)); refine blk_far ?_ NB510_509.out _; (with_reducible repeat (first | refine blk_drewN ?_ _ | refine blk_drew ?_ | refine blk_alloc ?_ _)); refine blk_far ?_ NB510_509.out _; (with_reducible repeat (first | refine blk_drewN ?_ _ | refine blk_drew ?_ | refine blk_alloc ?_ _)); refine blk_far ?_ NB510_509.out _; (with_reducible repeat (first | refine blk_drewN ?_ _ | refine blk_drew ?_ | refine blk_alloc ?_ _)); refine blk_far ?_ NB510_509.out _; (with_reducible repeat (first | refine blk_drewN ?_ _ | refine blk_drew ?_ | refine blk_alloc ?_ _)); refine blk_far ?_ NB510_509.out _; (with_reducible repeat (first | refine blk_drewN ?_ _ | refine blk_drew ?_ | refine blk_alloc ?_ _)); refine blk_far ?_ NB510_509.out _; (with_reducible repeat (first | refine blk_drewN ?_ _ | refine blk_drew ?_ | refine blk_alloc ?_ _)); refine blk_far ?_ NB510_509.out _; (with_reducible repeat (first | refine blk_drewN ?_ _ | refine blk_drew ?_ | refine blk_alloc ?_ _)); exact BK510.out) hb); have n8_ := aA (below_step (mD2 GE509.out GE510.out) hb); clear HO514 HO522 HO527 HO531 HO539 HO544 BK509 BK510 HB; have HO514 := n0_; have HO522 := n1_; have HO527 := n2_; have HO531 := n3_; have HO539 := n4_; have HO544 := n5_; have BK509 := n6_; have BK510 := n7_; have HB := n8_; clear n0_ n1_ n2_ n3_ n4_ n5_ n6_ n7_ n8_; (try clear hb); (try clear hb2); (try clear hk); (try clear hi); obtain ⟨hcz44_0, hcz44_1, hcz44_2, hcz44_3, hcz44_4, hcz44_5, hcz44_6, hcz44_7, hcz44_8, hcz44_9, hcz44_10⟩ := bC11 BK510.out; obtain ⟨hfz44_0, hfz44_1, hfz44_2, hfz44_3, hfz44_4, hfz44_5, hfz44_6, hfz44_7, hfz44_8, hfz44_9, hfz44_10⟩ := bF11 BK510.out) | ((with_reducible refine gate_callee (f := 25) rfl ?_); refine goesL_ (some 20) rfl rfl Try.func25 (by kernel_rfl) rfl #[.agg #[.int .i64 t528, .slice Ao28 t529.length co28, .int .i64 t532, .int .i64 t533, .int .i64 t534, .int .i64 t535, .int .i64 t536, .slice Ao35 t537.length co35, .int .i64 t540, .int .i64 t541, .slice Ao39 t542.length co39]] rfl mS ?_; (with_reducible refine (code_Put.calls t528 _ _ t529 t532 t533 t534 t535 t536 _ _ t537 t540 t541 _ _ t542 t547 t548 _ ?side1 ?side2 ?side3 ?side4 ?side5 ?side6 A6.out).mono ?_); (case side1 => exact mC ((Kd.R_reads' HO531.out).2.2)); (case side2 => exact (Kd.R_reads' HO531.out).2.1); (case side3 => exact mC ((Kd.R_reads' HO539.out).2.2)); (case side4 => exact (Kd.R_reads' HO539.out).2.1); (case side5 => exact mC ((Kd.R_reads' HO544.out).2.2)); (case side6 => exact (Kd.R_reads' HO544.out).2.1); rintro e w45 ⟨rfl, hb⟩; refine ⟨_, rfl, ?_⟩; have n0_ := aA (Kd.R_below (mR HO514.out) hb); have n1_ := aA (Kd.R_below (mR HO522.out) hb); have n2_ := aA (Kd.R_below (mR HO527.out) hb); have n3_ := aA (Kd.R_below (mR HO531.out) hb); have n4_ := aA (Kd.R_below (mR HO539.out) hb); have n5_ := aA (Kd.R_below (mR HO544.out) hb); have n6_ := aA (bB BK509.out hb); have n7_ := aA (bB BK510.out hb); have n8_ := aA (below_step (mD2 GE509.out GE510.out) hb); clear HO514 HO522 HO527 HO531 HO539 HO544 BK509 BK510 HB; have HO514 := n0_; have HO522 := n1_; have HO527 := n2_; have HO531 := n3_; have HO539 := n4_; have HO544 := n5_; have BK509 := n6_; have BK510 := n7_; have HB := n8_; clear n0_ n1_ n2_ n3_ n4_ n5_ n6_ n7_ n8_; (try clear hb); (try clear hb2); (try clear hk); (try clear hi)))
 (try simp only [Act.put, List.setIfInBounds_toArray, List.set_cons_zero, List.set_cons_succ])
 go_cut [28] (fun v28 wc => ∃ (kq : Nat) (x28_6 : Bool), v28 = .bool x28_6 ∧ Aside0 (foghornlaw17_CodeApart.j0 kq t545 t546 t547 t548 x28_6 t511 t512 t515 t516 t517 t518 t519 t520 t523 t524 t525 t528 t529 t532 t533 t534 t535 t536 t537 t540 t541 t542 = some r) ∧ Aside0 (kq ≤ k) ∧ Aside0 (Kd.R k41 41 wc w.heap.size (fun k_ => some k_ ≠ ((.slice Ao21 t520.length co21) : Value).ownBlock ∧ some k_ ≠ ((.slice Ao28 t529.length co28) : Value).ownBlock ∧ some k_ ≠ ((.slice Ao35 t537.length co35) : Value).ownBlock) (.slice Ao14 t512.length co14) t512) ∧ Aside0 (Kd.R k41 41 wc w.heap.size (fun k_ => some k_ ≠ ((.slice Ao14 t512.length co14) : Value).ownBlock ∧ some k_ ≠ ((.slice Ao28 t529.length co28) : Value).ownBlock ∧ some k_ ≠ ((.slice Ao35 t537.length co35) : Value).ownBlock) (.slice Ao21 t520.length co21) t520) ∧ Aside0 (Kd.R k35 35 wc w.heap.size (fun k_ => some k_ ≠ ((.slice Ao39 t542.length co39) : Value).ownBlock) (.slice Ao25 t525.length co25) t525) ∧ Aside0 (Kd.R k41 41 wc w.heap.size (fun k_ => some k_ ≠ ((.slice Ao14 t512.length co14) : Value).ownBlock ∧ some k_ ≠ ((.slice Ao21 t520.length co21) : Value).ownBlock ∧ some k_ ≠ ((.slice Ao35 t537.length co35) : Value).ownBlock) (.slice Ao28 t529.length co28) t529) ∧ Aside0 (Kd.R k41 41 wc w.heap.size (fun k_ => some k_ ≠ ((.slice Ao14 t512.length co14) : Value).ownBlock ∧ some k_ ≠ ((.slice Ao21 t520.length co21) : Value).ownBlock ∧ some k_ ≠ ((.slice Ao28 t529.length co28) : Value).ownBlock) (.slice Ao35 t537.length co35) t537) ∧ Aside0 (Kd.R k35 35 wc w.heap.size (fun k_ => some k_ ≠ ((.slice Ao25 t525.length co25) : Value).ownBlock) (.slice Ao39 t542.length co39) t542) ∧ Aside0 (wc.heap[gb509]? = some (.cells #[.int .i64 t511, (.slice Ao14 t512.length co14), .int .i64 t515, .int .i64 t516, .int .i64 t517, .int .i64 t518, .int .i64 t519, (.slice Ao21 t520.length co21), .int .i64 t523, .int .i64 t524, (.slice Ao25 t525.length co25)] 50 (0, 0))) ∧ Aside0 (wc.heap[gb510]? = some (.cells #[.int .i64 t528, (.slice Ao28 t529.length co28), .int .i64 t532, .int .i64 t533, .int .i64 t534, .int .i64 t535, .int .i64 t536, (.slice Ao35 t537.length co35), .int .i64 t540, .int .i64 t541, (.slice Ao39 t542.length co39)] 50 (0, 0))) ∧ Aside0 (Below w.heap.size w wc))
 case first =>
  have H := HC7.out
  clear HC7
  by_cases c46 : t546 = 0
  ·rw [if_pos c46] at H
   have c46b0 : (t546 == 0) = true := beq_iff_eq.mpr c46
   have c46b1 : (t546 != 0) = false := bne_eq_false_iff_eq.mpr c46
   clear c46
   (first | rw [c46b0] | (simp only [i64_w, i32_w]; rw [c46b0]) | skip)
   have H' := aA H
   clear H
   go_wp2
   go_meet
   case rel => exact ⟨_, ((t548 != 0)), (by first | rfl | (simp; done) | (simp [*]; done)), H', ⟨by first | omega | exact Nat.le_refl _⟩, ⟨by (with_reducible repeat (first | apply Kd.R_alloc | apply Kd.R_drewN | apply Kd.R_drew)); exact Kd.R_mono HO514.out (fun _ hk => ⟨hk.1.1, ⟨hk.1.2, hk.2⟩⟩)⟩, ⟨by (with_reducible repeat (first | apply Kd.R_alloc | apply Kd.R_drewN | apply Kd.R_drew)); exact Kd.R_mono HO522.out (fun _ hk => ⟨hk.1.1, ⟨hk.1.2, hk.2⟩⟩)⟩, ⟨by (with_reducible repeat (first | apply Kd.R_alloc | apply Kd.R_drewN | apply Kd.R_drew)); exact Kd.R_mono HO527.out (fun _ hk => hk.2)⟩, ⟨by (with_reducible repeat (first | apply Kd.R_alloc | apply Kd.R_drewN | apply Kd.R_drew)); exact Kd.R_mono HO531.out (fun _ hk => ⟨hk.1.2, ⟨hk.2, hk.1.1⟩⟩)⟩, ⟨by (with_reducible repeat (first | apply Kd.R_alloc | apply Kd.R_drewN | apply Kd.R_drew)); exact Kd.R_mono HO539.out (fun _ hk => ⟨hk.1.2, ⟨hk.2, hk.1.1⟩⟩)⟩, ⟨by (with_reducible repeat (first | apply Kd.R_alloc | apply Kd.R_drewN | apply Kd.R_drew)); exact Kd.R_mono HO544.out (fun _ hk => hk.2)⟩, ⟨by (with_reducible repeat (first | refine blk_drewN ?_ _ | refine blk_drew ?_ | refine blk_alloc ?_ _)); exact BK509.out⟩, ⟨by (with_reducible repeat (first | refine blk_drewN ?_ _ | refine blk_drew ?_ | refine blk_alloc ?_ _)); exact BK510.out⟩, ⟨by repeat (first | (with_reducible first | exact HB.out | apply below_alloc | apply pw_below_drewN | apply below_drew1 | refine below_set ?_ GE509.out | refine below_set ?_ GE510.out) | exact HB.out)⟩⟩
  ·rw [if_neg c46] at H
   have c46b0 : (t546 == 0) = false := beq_eq_false_iff_ne.mpr c46
   have c46b1 : (t546 != 0) = true := bne_iff_ne.mpr c46
   (first | rw [c46b0] | (simp only [i64_w, i32_w]; rw [c46b0]) | skip)
   have H' := aA H
   clear H
   go_wp2
   go_meet
   case rel => exact ⟨_, (true), (by first | rfl | (simp; done) | (simp [*]; done)), H', ⟨by first | omega | exact Nat.le_refl _⟩, ⟨by (with_reducible repeat (first | apply Kd.R_alloc | apply Kd.R_drewN | apply Kd.R_drew)); exact Kd.R_mono HO514.out (fun _ hk => ⟨hk.1.1, ⟨hk.1.2, hk.2⟩⟩)⟩, ⟨by (with_reducible repeat (first | apply Kd.R_alloc | apply Kd.R_drewN | apply Kd.R_drew)); exact Kd.R_mono HO522.out (fun _ hk => ⟨hk.1.1, ⟨hk.1.2, hk.2⟩⟩)⟩, ⟨by (with_reducible repeat (first | apply Kd.R_alloc | apply Kd.R_drewN | apply Kd.R_drew)); exact Kd.R_mono HO527.out (fun _ hk => hk.2)⟩, ⟨by (with_reducible repeat (first | apply Kd.R_alloc | apply Kd.R_drewN | apply Kd.R_drew)); exact Kd.R_mono HO531.out (fun _ hk => ⟨hk.1.2, ⟨hk.2, hk.1.1⟩⟩)⟩, ⟨by (with_reducible repeat (first | apply Kd.R_alloc | apply Kd.R_drewN | apply Kd.R_drew)); exact Kd.R_mono HO539.out (fun _ hk => ⟨hk.1.2, ⟨hk.2, hk.1.1⟩⟩)⟩, ⟨by (with_reducible repeat (first | apply Kd.R_alloc | apply Kd.R_drewN | apply Kd.R_drew)); exact Kd.R_mono HO544.out (fun _ hk => hk.2)⟩, ⟨by (with_reducible repeat (first | refine blk_drewN ?_ _ | refine blk_drew ?_ | refine blk_alloc ?_ _)); exact BK509.out⟩, ⟨by (with_reducible repeat (first | refine blk_drewN ?_ _ | refine blk_drew ?_ | refine blk_alloc ?_ _)); exact BK510.out⟩, ⟨by repeat (first | (with_reducible first | exact HB.out | apply below_alloc | apply pw_below_drewN | apply below_drew1 | refine below_set ?_ GE509.out | refine below_set ?_ GE510.out) | exact HB.out)⟩⟩
 case rest =>
  clear HC7
  try clear c1
  try clear c2
  try clear p2
  try clear c4
  try clear c9
  try clear c24
  try clear c25
  try clear c41
  try clear c46
  try clear c46b0
  try clear c46b1
  try clear hcz42_0
  try clear hcz42_1
  try clear hcz42_10
  try clear hcz42_2
  try clear hcz42_3
  try clear hcz42_4
  try clear hcz42_5
  try clear hcz42_6
  try clear hcz42_7
  try clear hcz42_8
  try clear hcz42_9
  try clear hcz44_0
  try clear hcz44_1
  try clear hcz44_10
  try clear hcz44_2
  try clear hcz44_3
  try clear hcz44_4
  try clear hcz44_5
  try clear hcz44_6
  try clear hcz44_7
  try clear hcz44_8
  try clear hcz44_9
  try clear hfz42_0
  try clear hfz42_1
  try clear hfz42_10
  try clear hfz42_2
  try clear hfz42_3
  try clear hfz42_4
  try clear hfz42_5
  try clear hfz42_6
  try clear hfz42_7
  try clear hfz42_8
  try clear hfz42_9
  try clear hfz44_0
  try clear hfz44_1
  try clear hfz44_10
  try clear hfz44_2
  try clear hfz44_3
  try clear hfz44_4
  try clear hfz44_5
  try clear hfz44_6
  try clear hfz44_7
  try clear hfz44_8
  try clear hfz44_9
  obtain ⟨kq, x28_6, rfl, HA, HJ6, HO_510001, HO_510007, HO_510010, HO_511001, HO_511007, HO_511010, BK509, BK510, HB⟩ := hcut
  cases kq with
  | zero => exact absurd HA.out (by simp [foghornlaw17_CodeApart.j0])
  | succ kj6 =>
   have H := HA.out
   clear HA
   simp only [foghornlaw17_CodeApart.j0] at H
   by_cases c47 : x28_6 = true
   ·subst c47
    have H1 : ((foghornlaw17_alive.f).bind fun t549 => (if t549 = true then (if t546 = 0 then (if t548 = 0 then (some true) else (some (t547.toList == ([] : List UInt8)))) else (if t545.toList = ([] : List UInt8) then (if t548 = 0 then (some true) else (some (t547.toList == ([] : List UInt8)))) else (some false))) else (some false))) = some r := by rw [if_pos rfl] at H; exact H
    clear H
    have H := H1
    clear H1
    replace H := Option.bind_eq_some_iff.mp H
    obtain ⟨t549, A480, H⟩ := H
    have A48 := aA A480
    clear A480
    by_cases c49 : t549 = true
    ·subst c49
     have H1 : (if t546 = 0 then (if t548 = 0 then (some true) else (some (t547.toList == ([] : List UInt8)))) else (if t545.toList = ([] : List UInt8) then (if t548 = 0 then (some true) else (some (t547.toList == ([] : List UInt8)))) else (some false))) = some r := by rw [if_pos rfl] at H; exact H
     clear H
     have H := H1
     clear H1
     by_cases c50 : t546 = 0
     ·rw [if_pos c50] at H
      have c50b0 : (t546 == 0) = true := beq_iff_eq.mpr c50
      have c50b1 : (t546 != 0) = false := bne_eq_false_iff_eq.mpr c50
      clear c50
      by_cases c51 : t548 = 0
      ·rw [if_pos c51] at H
       have c51b0 : (t548 == 0) = true := beq_iff_eq.mpr c51
       have c51b1 : (t548 != 0) = false := bne_eq_false_iff_eq.mpr c51
       clear c51
       obtain rfl := Option.some.inj H
       go_wp2_with (first | ((with_reducible refine gate_callee (f := 28) rfl ?_); refine goesL_ (some 29) rfl rfl Try.func28 (by kernel_rfl) rfl #[] rfl mS ?_; (with_reducible refine (foghornlaw17_alive.calls  true _ A48.out).mono ?_); rintro e w52 ⟨rfl, hb⟩; refine ⟨_, rfl, ?_⟩; have n0_ := aA (Kd.R_below (mR HO_510001.out) hb); have n1_ := aA (Kd.R_below (mR HO_510007.out) hb); have n2_ := aA (Kd.R_below (mR HO_510010.out) hb); have n3_ := aA (Kd.R_below (mR HO_511001.out) hb); have n4_ := aA (Kd.R_below (mR HO_511007.out) hb); have n5_ := aA (Kd.R_below (mR HO_511010.out) hb); have n6_ := aA (bB BK509.out hb); have n7_ := aA (bB BK510.out hb); have n8_ := aA (below_step (mD2 GE509.out GE510.out) hb); clear HO_510001 HO_510007 HO_510010 HO_511001 HO_511007 HO_511010 BK509 BK510 HB; have HO_510001 := n0_; have HO_510007 := n1_; have HO_510010 := n2_; have HO_511001 := n3_; have HO_511007 := n4_; have HO_511010 := n5_; have BK509 := n6_; have BK510 := n7_; have HB := n8_; clear n0_ n1_ n2_ n3_ n4_ n5_ n6_ n7_ n8_; (try clear hb); (try clear hb2); (try clear hk); (try clear hi)))
       go_ret
       exact ⟨by first | rfl | (simp [errW_none, errW_some] <;> rfl) | (simp [*, errW_none, errW_some] <;> rfl), by repeat (first | (with_reducible first | exact HB.out | apply below_alloc | apply pw_below_drewN | apply below_drew1 | refine below_set ?_ GE509.out | refine below_set ?_ GE510.out) | exact HB.out)⟩
      ·rw [if_neg c51] at H
       have c51b0 : (t548 == 0) = false := beq_eq_false_iff_ne.mpr c51
       have c51b1 : (t548 != 0) = true := bne_iff_ne.mpr c51
       obtain rfl := Option.some.inj H
       go_wp2_with (first | ((with_reducible refine gate_callee (f := 28) rfl ?_); refine goesL_ (some 29) rfl rfl Try.func28 (by kernel_rfl) rfl #[] rfl mS ?_; (with_reducible refine (foghornlaw17_alive.calls  true _ A48.out).mono ?_); rintro e w53 ⟨rfl, hb⟩; refine ⟨_, rfl, ?_⟩; have n0_ := aA (Kd.R_below (mR HO_510001.out) hb); have n1_ := aA (Kd.R_below (mR HO_510007.out) hb); have n2_ := aA (Kd.R_below (mR HO_510010.out) hb); have n3_ := aA (Kd.R_below (mR HO_511001.out) hb); have n4_ := aA (Kd.R_below (mR HO_511007.out) hb); have n5_ := aA (Kd.R_below (mR HO_511010.out) hb); have n6_ := aA (bB BK509.out hb); have n7_ := aA (bB BK510.out hb); have n8_ := aA (below_step (mD2 GE509.out GE510.out) hb); clear HO_510001 HO_510007 HO_510010 HO_511001 HO_511007 HO_511010 BK509 BK510 HB; have HO_510001 := n0_; have HO_510007 := n1_; have HO_510010 := n2_; have HO_511001 := n3_; have HO_511007 := n4_; have HO_511010 := n5_; have BK509 := n6_; have BK510 := n7_; have HB := n8_; clear n0_ n1_ n2_ n3_ n4_ n5_ n6_ n7_ n8_; (try clear hb); (try clear hb2); (try clear hk); (try clear hi)))
       go_ret
       exact ⟨by first | rfl | (simp [errW_none, errW_some] <;> rfl) | (simp [*, errW_none, errW_some] <;> rfl), by repeat (first | (with_reducible first | exact HB.out | apply below_alloc | apply pw_below_drewN | apply below_drew1 | refine below_set ?_ GE509.out | refine below_set ?_ GE510.out) | exact HB.out)⟩
     ·rw [if_neg c50] at H
      have c50b0 : (t546 == 0) = false := beq_eq_false_iff_ne.mpr c50
      have c50b1 : (t546 != 0) = true := bne_iff_ne.mpr c50
      by_cases c54 : t545.toList = ([] : List UInt8)
      ·rw [if_pos c54] at H
       have c54b0 : (t545.toList == ([] : List UInt8)) = true := beq_iff_eq.mpr c54
       have c54b1 : (t545.toList != ([] : List UInt8)) = false := bne_eq_false_iff_eq.mpr c54
       clear c54
       by_cases c55 : t548 = 0
       ·rw [if_pos c55] at H
        have c55b0 : (t548 == 0) = true := beq_iff_eq.mpr c55
        have c55b1 : (t548 != 0) = false := bne_eq_false_iff_eq.mpr c55
        clear c55
        obtain rfl := Option.some.inj H
        go_wp2_with (first | ((with_reducible refine gate_callee (f := 28) rfl ?_); refine goesL_ (some 29) rfl rfl Try.func28 (by kernel_rfl) rfl #[] rfl mS ?_; (with_reducible refine (foghornlaw17_alive.calls  true _ A48.out).mono ?_); rintro e w56 ⟨rfl, hb⟩; refine ⟨_, rfl, ?_⟩; have n0_ := aA (Kd.R_below (mR HO_510001.out) hb); have n1_ := aA (Kd.R_below (mR HO_510007.out) hb); have n2_ := aA (Kd.R_below (mR HO_510010.out) hb); have n3_ := aA (Kd.R_below (mR HO_511001.out) hb); have n4_ := aA (Kd.R_below (mR HO_511007.out) hb); have n5_ := aA (Kd.R_below (mR HO_511010.out) hb); have n6_ := aA (bB BK509.out hb); have n7_ := aA (bB BK510.out hb); have n8_ := aA (below_step (mD2 GE509.out GE510.out) hb); clear HO_510001 HO_510007 HO_510010 HO_511001 HO_511007 HO_511010 BK509 BK510 HB; have HO_510001 := n0_; have HO_510007 := n1_; have HO_510010 := n2_; have HO_511001 := n3_; have HO_511007 := n4_; have HO_511010 := n5_; have BK509 := n6_; have BK510 := n7_; have HB := n8_; clear n0_ n1_ n2_ n3_ n4_ n5_ n6_ n7_ n8_; (try clear hb); (try clear hb2); (try clear hk); (try clear hi)))
        go_ret
        exact ⟨by first | rfl | (simp [errW_none, errW_some] <;> rfl) | (simp [*, errW_none, errW_some] <;> rfl), by repeat (first | (with_reducible first | exact HB.out | apply below_alloc | apply pw_below_drewN | apply below_drew1 | refine below_set ?_ GE509.out | refine below_set ?_ GE510.out) | exact HB.out)⟩
       ·rw [if_neg c55] at H
        have c55b0 : (t548 == 0) = false := beq_eq_false_iff_ne.mpr c55
        have c55b1 : (t548 != 0) = true := bne_iff_ne.mpr c55
        obtain rfl := Option.some.inj H
        go_wp2_with (first | ((with_reducible refine gate_callee (f := 28) rfl ?_); refine goesL_ (some 29) rfl rfl Try.func28 (by kernel_rfl) rfl #[] rfl mS ?_; (with_reducible refine (foghornlaw17_alive.calls  true _ A48.out).mono ?_); rintro e w57 ⟨rfl, hb⟩; refine ⟨_, rfl, ?_⟩; have n0_ := aA (Kd.R_below (mR HO_510001.out) hb); have n1_ := aA (Kd.R_below (mR HO_510007.out) hb); have n2_ := aA (Kd.R_below (mR HO_510010.out) hb); have n3_ := aA (Kd.R_below (mR HO_511001.out) hb); have n4_ := aA (Kd.R_below (mR HO_511007.out) hb); have n5_ := aA (Kd.R_below (mR HO_511010.out) hb); have n6_ := aA (bB BK509.out hb); have n7_ := aA (bB BK510.out hb); have n8_ := aA (below_step (mD2 GE509.out GE510.out) hb); clear HO_510001 HO_510007 HO_510010 HO_511001 HO_511007 HO_511010 BK509 BK510 HB; have HO_510001 := n0_; have HO_510007 := n1_; have HO_510010 := n2_; have HO_511001 := n3_; have HO_511007 := n4_; have HO_511010 := n5_; have BK509 := n6_; have BK510 := n7_; have HB := n8_; clear n0_ n1_ n2_ n3_ n4_ n5_ n6_ n7_ n8_; (try clear hb); (try clear hb2); (try clear hk); (try clear hi)))
        go_ret
        exact ⟨by first | rfl | (simp [errW_none, errW_some] <;> rfl) | (simp [*, errW_none, errW_some] <;> rfl), by repeat (first | (with_reducible first | exact HB.out | apply below_alloc | apply pw_below_drewN | apply below_drew1 | refine below_set ?_ GE509.out | refine below_set ?_ GE510.out) | exact HB.out)⟩
      ·rw [if_neg c54] at H
       have c54b0 : (t545.toList == ([] : List UInt8)) = false := beq_eq_false_iff_ne.mpr c54
       have c54b1 : (t545.toList != ([] : List UInt8)) = true := bne_iff_ne.mpr c54
       obtain rfl := Option.some.inj H
       go_wp2_with (first | ((with_reducible refine gate_callee (f := 28) rfl ?_); refine goesL_ (some 29) rfl rfl Try.func28 (by kernel_rfl) rfl #[] rfl mS ?_; (with_reducible refine (foghornlaw17_alive.calls  true _ A48.out).mono ?_); rintro e w58 ⟨rfl, hb⟩; refine ⟨_, rfl, ?_⟩; have n0_ := aA (Kd.R_below (mR HO_510001.out) hb); have n1_ := aA (Kd.R_below (mR HO_510007.out) hb); have n2_ := aA (Kd.R_below (mR HO_510010.out) hb); have n3_ := aA (Kd.R_below (mR HO_511001.out) hb); have n4_ := aA (Kd.R_below (mR HO_511007.out) hb); have n5_ := aA (Kd.R_below (mR HO_511010.out) hb); have n6_ := aA (bB BK509.out hb); have n7_ := aA (bB BK510.out hb); have n8_ := aA (below_step (mD2 GE509.out GE510.out) hb); clear HO_510001 HO_510007 HO_510010 HO_511001 HO_511007 HO_511010 BK509 BK510 HB; have HO_510001 := n0_; have HO_510007 := n1_; have HO_510010 := n2_; have HO_511001 := n3_; have HO_511007 := n4_; have HO_511010 := n5_; have BK509 := n6_; have BK510 := n7_; have HB := n8_; clear n0_ n1_ n2_ n3_ n4_ n5_ n6_ n7_ n8_; (try clear hb); (try clear hb2); (try clear hk); (try clear hi)))
       go_ret
       exact ⟨by first | rfl | (simp [errW_none, errW_some] <;> rfl) | (simp [*, errW_none, errW_some] <;> rfl), by repeat (first | (with_reducible first | exact HB.out | apply below_alloc | apply pw_below_drewN | apply below_drew1 | refine below_set ?_ GE509.out | refine below_set ?_ GE510.out) | exact HB.out)⟩
    ·replace c49 := Bool.eq_false_iff.mpr c49
     subst c49
     have H1 : (some false) = some r := by rw [if_neg (show ¬ (false = true) by decide)] at H; exact H
     clear H
     have H := H1
     clear H1
     obtain rfl := Option.some.inj H
     go_wp2_with (first | ((with_reducible refine gate_callee (f := 28) rfl ?_); refine goesL_ (some 29) rfl rfl Try.func28 (by kernel_rfl) rfl #[] rfl mS ?_; (with_reducible refine (foghornlaw17_alive.calls  false _ A48.out).mono ?_); rintro e w59 ⟨rfl, hb⟩; refine ⟨_, rfl, ?_⟩; have n0_ := aA (Kd.R_below (mR HO_510001.out) hb); have n1_ := aA (Kd.R_below (mR HO_510007.out) hb); have n2_ := aA (Kd.R_below (mR HO_510010.out) hb); have n3_ := aA (Kd.R_below (mR HO_511001.out) hb); have n4_ := aA (Kd.R_below (mR HO_511007.out) hb); have n5_ := aA (Kd.R_below (mR HO_511010.out) hb); have n6_ := aA (bB BK509.out hb); have n7_ := aA (bB BK510.out hb); have n8_ := aA (below_step (mD2 GE509.out GE510.out) hb); clear HO_510001 HO_510007 HO_510010 HO_511001 HO_511007 HO_511010 BK509 BK510 HB; have HO_510001 := n0_; have HO_510007 := n1_; have HO_510010 := n2_; have HO_511001 := n3_; have HO_511007 := n4_; have HO_511010 := n5_; have BK509 := n6_; have BK510 := n7_; have HB := n8_; clear n0_ n1_ n2_ n3_ n4_ n5_ n6_ n7_ n8_; (try clear hb); (try clear hb2); (try clear hk); (try clear hi)))
     go_ret
     exact ⟨by first | rfl | (simp [errW_none, errW_some] <;> rfl) | (simp [*, errW_none, errW_some] <;> rfl), by repeat (first | (with_reducible first | exact HB.out | apply below_alloc | apply pw_below_drewN | apply below_drew1 | refine below_set ?_ GE509.out | refine below_set ?_ GE510.out) | exact HB.out)⟩
   ·replace c47 := Bool.eq_false_iff.mpr c47
    subst c47
    have H1 : ((foghornlaw17_alive.f).bind fun t550 => (if t550 = true then ((foghornref17_Same.f kj6 t511 t512 t515 t516 t517 t518 t519 t520 t523 t524 t525 t528 t529 t532 t533 t534 t535 t536 t537 t540 t541 t542).bind fun t551 => (some ((t545.toList == t547.toList) == t551))) else (some false))) = some r := by rw [if_neg (show ¬ (false = true) by decide)] at H; exact H
    clear H
    have H := H1
    clear H1
    replace H := Option.bind_eq_some_iff.mp H
    obtain ⟨t550, A600, H⟩ := H
    have A60 := aA A600
    clear A600
    by_cases c61 : t550 = true
    ·subst c61
     have H1 : ((foghornref17_Same.f kj6 t511 t512 t515 t516 t517 t518 t519 t520 t523 t524 t525 t528 t529 t532 t533 t534 t535 t536 t537 t540 t541 t542).bind fun t551 => (some ((t545.toList == t547.toList) == t551))) = some r := by rw [if_pos rfl] at H; exact H
     clear H
     have H := H1
     clear H1
     replace H := Option.bind_eq_some_iff.mp H
     obtain ⟨t551, A620, H⟩ := H
     have A62 := aA A620
     clear A620
     obtain rfl := Option.some.inj H
     go_wp2_with (first | ((with_reducible refine gate_callee (f := 28) rfl ?_); refine goesL_ (some 46) rfl rfl Try.func28 (by kernel_rfl) rfl #[] rfl mS ?_; (with_reducible refine (foghornlaw17_alive.calls  true _ A60.out).mono ?_); rintro e w63 ⟨rfl, hb⟩; refine ⟨_, rfl, ?_⟩; have n0_ := aA (Kd.R_below (mR HO_510001.out) hb); have n1_ := aA (Kd.R_below (mR HO_510007.out) hb); have n2_ := aA (Kd.R_below (mR HO_510010.out) hb); have n3_ := aA (Kd.R_below (mR HO_511001.out) hb); have n4_ := aA (Kd.R_below (mR HO_511007.out) hb); have n5_ := aA (Kd.R_below (mR HO_511010.out) hb); have n6_ := aA (bB BK509.out hb); have n7_ := aA (bB BK510.out hb); have n8_ := aA (below_step (mD2 GE509.out GE510.out) hb); clear HO_510001 HO_510007 HO_510010 HO_511001 HO_511007 HO_511010 BK509 BK510 HB; have HO_510001 := n0_; have HO_510007 := n1_; have HO_510010 := n2_; have HO_511001 := n3_; have HO_511007 := n4_; have HO_511010 := n5_; have BK509 := n6_; have BK510 := n7_; have HB := n8_; clear n0_ n1_ n2_ n3_ n4_ n5_ n6_ n7_ n8_; (try clear hb); (try clear hb2); (try clear hk); (try clear hi); have hnb64 := NB509_510.out; have hnc64 := NB510_509.out; obtain ⟨hcz65_0, hcz65_1, hcz65_2, hcz65_3, hcz65_4, hcz65_5, hcz65_6, hcz65_7, hcz65_8, hcz65_9, hcz65_10⟩ := bC11 BK509.out; obtain ⟨hfz65_0, hfz65_1, hfz65_2, hfz65_3, hfz65_4, hfz65_5, hfz65_6, hfz65_7, hfz65_8, hfz65_9, hfz65_10⟩ := bF11 BK509.out; obtain ⟨hcz66_0, hcz66_1, hcz66_2, hcz66_3, hcz66_4, hcz66_5, hcz66_6, hcz66_7, hcz66_8, hcz66_9, hcz66_10⟩ := bC11 BK510.out; obtain ⟨hfz66_0, hfz66_1, hfz66_2, hfz66_3, hfz66_4, hfz66_5, hfz66_6, hfz66_7, hfz66_8, hfz66_9, hfz66_10⟩ := bF11 BK510.out) | (go_at_call 32; (with_reducible refine (foghornref17_Same.calls kj6 t511 _ _ t512 t515 t516 t517 t518 t519 _ _ t520 t523 t524 _ _ t525 t528 _ _ t529 t532 t533 t534 t535 t536 _ _ t537 t540 t541 _ _ t542 t551 _ ?side1 ?side2 ?side3 ?side4 ?side5 ?side6 ?side7 ?side8 ?side9 ?side10 ?side11 ?side12 A62.out).mono ?_); (case side1 => exact mC ((Kd.R_reads' HO_510001.out).2.2)); (case side2 => exact (Kd.R_reads' HO_510001.out).2.1); (case side3 => exact mC ((Kd.R_reads' HO_510007.out).2.2)); (case side4 => exact (Kd.R_reads' HO_510007.out).2.1); (case side5 => exact mC ((Kd.R_reads' HO_510010.out).2.2)); (case side6 => exact (Kd.R_reads' HO_510010.out).2.1); (case side7 => exact mC ((Kd.R_reads' HO_511001.out).2.2)); (case side8 => exact (Kd.R_reads' HO_511001.out).2.1); (case side9 => exact mC ((Kd.R_reads' HO_511007.out).2.2)); (case side10 => exact (Kd.R_reads' HO_511007.out).2.1); (case side11 => exact mC ((Kd.R_reads' HO_511010.out).2.2)); (case side12 => exact (Kd.R_reads' HO_511010.out).2.1); rintro e w67 ⟨rfl, hb⟩; have n0_ := aA (Kd.R_below (mR HO_510001.out) hb); have n1_ := aA (Kd.R_below (mR HO_510007.out) hb); have n2_ := aA (Kd.R_below (mR HO_510010.out) hb); have n3_ := aA (Kd.R_below (mR HO_511001.out) hb); have n4_ := aA (Kd.R_below (mR HO_511007.out) hb); have n5_ := aA (Kd.R_below (mR HO_511010.out) hb); have n6_ := aA (bB BK509.out hb); have n7_ := aA (bB BK510.out hb); have n8_ := aA (below_step (mD2 GE509.out GE510.out) hb); clear HO_510001 HO_510007 HO_510010 HO_511001 HO_511007 HO_511010 BK509 BK510 HB; have HO_510001 := n0_; have HO_510007 := n1_; have HO_510010 := n2_; have HO_511001 := n3_; have HO_511007 := n4_; have HO_511010 := n5_; have BK509 := n6_; have BK510 := n7_; have HB := n8_; clear n0_ n1_ n2_ n3_ n4_ n5_ n6_ n7_ n8_; (try clear hb); (try clear hb2); (try clear hk); (try clear hi)))
     go_ret
     exact ⟨by first | rfl | (simp [errW_none, errW_some] <;> rfl) | (simp [*, errW_none, errW_some] <;> rfl), by repeat (first | (with_reducible first | exact HB.out | apply below_alloc | apply pw_below_drewN | apply below_drew1 | refine below_set ?_ GE509.out | refine below_set ?_ GE510.out) | exact HB.out)⟩
    ·replace c61 := Bool.eq_false_iff.mpr c61
     subst c61
     have H1 : (some false) = some r := by rw [if_neg (show ¬ (false = true) by decide)] at H; exact H
     clear H
     have H := H1
     clear H1
     obtain rfl := Option.some.inj H
     go_wp2_with (first | ((with_reducible refine gate_callee (f := 28) rfl ?_); refine goesL_ (some 46) rfl rfl Try.func28 (by kernel_rfl) rfl #[] rfl mS ?_; (with_reducible refine (foghornlaw17_alive.calls  false _ A60.out).mono ?_); rintro e w68 ⟨rfl, hb⟩; refine ⟨_, rfl, ?_⟩; have n0_ := aA (Kd.R_below (mR HO_510001.out) hb); have n1_ := aA (Kd.R_below (mR HO_510007.out) hb); have n2_ := aA (Kd.R_below (mR HO_510010.out) hb); have n3_ := aA (Kd.R_below (mR HO_511001.out) hb); have n4_ := aA (Kd.R_below (mR HO_511007.out) hb); have n5_ := aA (Kd.R_below (mR HO_511010.out) hb); have n6_ := aA (bB BK509.out hb); have n7_ := aA (bB BK510.out hb); have n8_ := aA (below_step (mD2 GE509.out GE510.out) hb); clear HO_510001 HO_510007 HO_510010 HO_511001 HO_511007 HO_511010 BK509 BK510 HB; have HO_510001 := n0_; have HO_510007 := n1_; have HO_510010 := n2_; have HO_511001 := n3_; have HO_511007 := n4_; have HO_511010 := n5_; have BK509 := n6_; have BK510 := n7_; have HB := n8_; clear n0_ n1_ n2_ n3_ n4_ n5_ n6_ n7_ n8_; (try clear hb); (try clear hb2); (try clear hk); (try clear hi)))
     go_ret
     exact ⟨by first | rfl | (simp [errW_none, errW_some] <;> rfl) | (simp [*, errW_none, errW_some] <;> rfl), by repeat (first | (with_reducible first | exact HB.out | apply below_alloc | apply pw_below_drewN | apply below_drew1 | refine below_set ?_ GE509.out | refine below_set ?_ GE510.out) | exact HB.out)⟩
end Go.Proofs.YtndgollcganhmaaQ.P
namespace Go.Proofs.YtndgollcganhmaaQ.P
open Go.RowKit Go.Proofs.YtndgollcganhmaaW.PrintWords Go.Proofs.YtndgollcganhmaaW.PrintLast Go.Proofs.YtndgollcganhmaaW.PrintMore
attribute [local go_sem] max2_int min2_int max_two min_two max_three min_three max_four min_four
def foghornref17_labels.T5 : Bool × List (List Nat × List Nat) := (true, [([], []), ([], []), ([1], [1]), ([2], [2]), ([0, 3], [0, 3]), ([], []), ([5], [5]), ([6, 3], [6]), ([4, 7], [4, 7]), ([8, 7, 0, 1, 2, 3, 4, 5, 6, 7, 8], [0, 8])])
def foghornref17_labels.B5 : List Nat := [0, 0, 2, 6, 15, 0, 32, 110, 255, 511]
theorem foghornref17_labels.tab5 : rtab .any (opsOf Try.f58 5) = foghornref17_labels.T5 := by kernel_rfl
theorem foghornref17_labels.bits5 : waitsOk foghornref17_labels.T5.2 foghornref17_labels.B5 = true := by kernel_rfl
end Go.Proofs.YtndgollcganhmaaQ.P
namespace Go.Proofs.YtndgollcganhmaaQ.P
open Go.RowKit Go.Proofs.YtndgollcganhmaaW.PrintWords Go.Proofs.YtndgollcganhmaaW.PrintLast Go.Proofs.YtndgollcganhmaaW.PrintMore
attribute [local go_sem] max2_int min2_int max_two min_two max_three min_three max_four min_four
def foghornref17_Put.T5 : Bool × List (List Nat × List Nat) := (true, [([], []), ([], []), ([1], [1]), ([2, 0], [2]), ([0, 3], [0, 3]), ([], []), ([5], [5]), ([6, 3], [6]), ([4, 7], [4, 7]), ([], []), ([9], [9]), ([10, 7], [10]), ([8, 11], [8, 11]), ([], []), ([13], [13]), ([14, 11], [14]), ([12, 15], [12, 15]), ([], []), ([17], [17]), ([18, 15], [18]), ([16, 19], [16, 19]), ([], []), ([21], [21]), ([22, 19], [22]), ([20, 23], [20, 23]), ([24, 23, 0, 1, 2, 3, 4, 5, 6, 7, 8, 9, 10, 11, 12, 13, 14, 15, 16, 17, 18, 19, 20, 21, 22, 23, 24], [24])])
def foghornref17_Put.B5 : List Nat := [0, 0, 2, 7, 15, 0, 32, 111, 255, 0, 512, 1775, 4095, 0, 8192, 28399, 65535, 0, 131072, 454383, 1048575, 0, 2097152, 7270127, 16777215, 33554431]
theorem foghornref17_Put.tab5 : rtab .any (opsOf Try.f29 5) = foghornref17_Put.T5 := by kernel_rfl
theorem foghornref17_Put.bits5 : waitsOk foghornref17_Put.T5.2 foghornref17_Put.B5 = true := by kernel_rfl
end Go.Proofs.YtndgollcganhmaaQ.P
namespace Go.Proofs.Ytndgollcganhmaa
open Go.RowKit Go.Proofs.YtndgollcganhmaaW.PrintWords Go.Proofs.YtndgollcganhmaaW.PrintMore
theorem w64 {x : Int} (h0 : -9223372036854775808 ≤ x) (h1 : x ≤ 9223372036854775807) : wrap64 x = x := by unfold wrap64; omega
theorem w64s {i : Nat} (h : i < 9223372036854775807) : wrap64 ((i : Int) + 1) = ((i + 1 : Nat) : Int) := by rw [w64 (by omega) (by omega)]; omega
theorem getD_cast {α : Type} {z : α} {xs : List α} {i : Nat} (h : i < xs.length) : xs.getD (i : Int).toNat z = xs[i] := by
  rw [List.getD_eq_getElem?_getD, Int.toNat_natCast, List.getElem?_eq_getElem h]
  rfl
theorem drop_cons {α : Type} {xs : List α} {i : Nat} (h : i < xs.length) : xs.drop i = xs[i] :: xs.drop (i + 1) := List.drop_eq_getElem_cons h
theorem drop_end {α : Type} {xs : List α} {i : Nat} (h : xs.length ≤ i) : xs.drop i = [] := List.drop_eq_nil_of_le h
theorem mn_eq (a b : Int) : mn a b = min a b := by unfold mn; omega
def cutB (n : Nat) (x : ByteArray) : ByteArray := x.extract 0 n
theorem cutB_size (n : Nat) (x : ByteArray) : (cutB n x).size = min n x.size := by
  unfold cutB
  rw [ByteArray.size_extract]
  omega
theorem cutB_mn (n : Nat) (m : Int) (x : ByteArray) (hm : m = n) : x.extract 0 (mn (x.size : Int) m).toNat = cutB n x := by
  subst hm
  unfold cutB
  rw [mn_eq]
  apply ByteArray.ext
  rw [ByteArray.data_extract, ByteArray.data_extract]
  rcases Nat.le_total x.size n with h | h
  · rw [show (min (x.size : Int) n).toNat = x.size by omega]
    rw [Array.extract_eq_self_of_le (show x.data.size ≤ x.size from Nat.le_refl _), Array.extract_eq_self_of_le (show x.data.size ≤ n from h)]
  · rw [show (min (x.size : Int) n).toNat = n by omega]
theorem take_mn {α : Type} (n : Nat) (m : Int) (xs : List α) (hm : m = n) : xs.take (mn (xs.length : Int) m).toNat = xs.take n := by
  subst hm
  rw [mn_eq]
  rcases Nat.le_total xs.length n with h | h
  · rw [List.take_of_length_le (by omega), List.take_of_length_le h]
  · rw [show (min (xs.length : Int) n).toNat = n by omega]
end Go.Proofs.Ytndgollcganhmaa
namespace Go.Proofs.YtndgollcganhmaaQ.P
open Go.RowKit Go.Proofs.YtndgollcganhmaaW.PrintWords Go.Proofs.Ytndgollcganhmaa
def numsB (rt pl tr : Int) : Bool := decide (0 ≤ rt) && decide (rt < 4) && decide (0 ≤ pl) && decide (pl < 4) && decide (0 ≤ tr) && decide (tr ≤ 99)
def dutyB (r : Rc) : Bool := numsB r.rt r.pl r.tr && labsB r.l1 && tickB r.due && decide (1 ≤ r.st) && decide (r.st ≤ 3)
def noDutyB (r : Rc) : Bool := decide (r.l1 = []) && decide (r.rt = 0) && decide (r.pl = 0) && decide (r.tr = 0) && decide (r.due = 0) && decide (r.st = 0)
def noHushB (r : Rc) : Bool := decide (r.fr = 0) && decide (r.tt = 0) && decide (r.l10 = [])
def Rc.okB (r : Rc) : Bool :=
  if r.k = 1 then dutyB r && decide (r.l7 = []) && noHushB r else if r.k = 2 then labsB r.l7 && noDutyB r && noHushB r else if r.k = 3 then hushB r.fr r.tt r.l10 && noDutyB r && decide (r.l7 = []) else false
def Rc.sz (r : Rc) : Prop := LabsOk r.l1 ∧ LabsOk r.l7 ∧ MatsOk r.l10
theorem labsOkB_of {l : List Lab} (h : LabsOk l) : labsOkB (l.map ofLab) = true := by
  simp only [labsOkB, List.all_eq_true, List.mem_map]
  rintro x ⟨y, hy, rfl⟩
  have := h y hy
  simp only [labOkB, ofLab, Bool.and_eq_true, decide_eq_true_eq]
  exact ⟨decide_eq_true this.1, decide_eq_true this.2⟩
theorem matsOkB_of {l : List Mat} (h : MatsOk l) : matsOkB (l.map ofMat) = true := by
  simp only [matsOkB, List.all_eq_true, List.mem_map]
  rintro x ⟨y, hy, rfl⟩
  have := h y hy
  simp only [matOkB, ofMat, Bool.and_eq_true, decide_eq_true_eq]
  exact ⟨decide_eq_true this.1, decide_eq_true this.2⟩
theorem labRight_f {l : List Lab} (h : LabsOk l) : label_Right.f (l.map ofLab) = some (labsB l) := by
  unfold label_Right.f
  rw [if_pos (labsOkB_of h), labs_to_of]
theorem isHush_f {f t : Int} {l : List Mat} (h : MatsOk l) : wire_isHush.f f t (l.map ofMat) = some (hushB f t l) := by
  unfold wire_isHush.f
  rw [if_pos (matsOkB_of h)]
  congr 2
  simp [Function.comp_def, to_of_mat]
theorem noDuty_f (r : Rc) : code_noDuty.f (r.l1.map ofLab) r.rt r.pl r.tr r.due r.st = some (noDutyB r) := by
  unfold code_noDuty.f noDutyB
  have h0 : (((r.l1.map ofLab).length : Int) = 0) = (r.l1 = []) := by simp
  simp only [h0]
  by_cases h1 : r.l1 = [] <;> by_cases h2 : r.rt = 0 <;> by_cases h3 : r.pl = 0 <;> by_cases h4 : r.tr = 0 <;> by_cases h5 : r.due = 0 <;> simp [h1, h2, h3, h4, h5]
  all_goals rw [Bool.eq_iff_iff]; simp
theorem noHush_f (r : Rc) : code_noHush.f r.fr r.tt (r.l10.map ofMat) = some (noHushB r) := by
  unfold code_noHush.f noHushB
  have h0 : (((r.l10.map ofMat).length : Int) == 0) = decide (r.l10 = []) := by rw [Bool.eq_iff_iff]; simp
  simp only [h0]
  by_cases h1 : r.fr = 0 <;> by_cases h2 : r.tt = 0 <;> simp [h1, h2]
theorem tick_f (t : Int) : tick_Right.f t = some (tickB t) := by
  unfold tick_Right.f tickB
  by_cases h : 0 ≤ t <;> simp [h]
theorem isDuty_f {r : Rc} (h : LabsOk r.l1) : code_isDuty.f (r.l1.map ofLab) r.rt r.pl r.tr r.due r.st = some (dutyB r) := by
  unfold code_isDuty.f dutyB numsB
  simp only [labRight_f h, tick_f, Option.bind_some, ge_iff_le]
  by_cases h1 : 0 ≤ r.rt <;> by_cases h2 : r.rt < 4 <;> by_cases h3 : 0 ≤ r.pl <;> by_cases h4 : r.pl < 4 <;> by_cases h5 : 0 ≤ r.tr <;> by_cases h6 : r.tr ≤ 99 <;> simp [h1, h2, h3, h4, h5, h6]
  cases labsB r.l1 <;> cases tickB r.due <;> by_cases h7 : 1 ≤ r.st <;> simp [h7]
theorem right_f {r : Rc} (h : r.sz) : r.right = some r.okB := by
  obtain ⟨h1, h2, h3⟩ := h
  have hw : wire_Right.f 2 [] r.fr r.tt (r.l10.map ofMat) = some (hushB r.fr r.tt r.l10) := by
    unfold wire_Right.f
    simp [isHush_f h3]
  have h7 : (((r.l7.map ofLab).length : Int) = 0) = (r.l7 = []) := by simp
  have h8 : (((r.l7.map ofLab).length : Int) == 0) = decide (r.l7 = []) := by rw [Bool.eq_iff_iff]; simp
  unfold Rc.right code_Right.f Rc.okB
  simp only [isDuty_f h1, noHush_f, noDuty_f, labRight_f h2, hw, Option.bind_some, h7, h8]
  by_cases e1 : r.k = 1
  · simp only [e1, if_true]
    cases dutyB r <;> by_cases e : r.l7 = [] <;> simp [e]
  · by_cases e2 : r.k = 2
    · simp only [e2, if_true]
      cases labsB r.l7 <;> cases noDutyB r <;> simp
    · by_cases e3 : r.k = 3
      · simp only [e3, if_true]
        cases hushB r.fr r.tt r.l10 <;> cases noDutyB r <;> simp
      · simp [e1, e2, e3]
theorem labsB_few {l : List Lab} (h : labsB l = true) : l.length ≤ 3 ∧ 1 ≤ l.length ∧ ∀ x ∈ l, x.name.size ≤ 8 ∧ x.value.size ≤ 8 := by
  simp only [labsB, eachB, Bool.and_eq_true, decide_eq_true_eq, Bool.not_eq_true', List.any_eq_false] at h
  refine ⟨h.2.1.2, h.2.1.1, fun x hx => ?_⟩
  have := h.2.2 x hx
  simp only [labB, nameB, valB, Bool.not_eq_true', Bool.not_eq_false, Bool.and_eq_true, decide_eq_true_eq] at this
  exact ⟨this.1.2, this.2.2⟩
theorem labsB_fewL {l : List Lab} (h : labsB l = true) : fewL l = true := by
  obtain ⟨h1, _, h2⟩ := labsB_few h
  simp only [fewL, Bool.and_eq_true, decide_eq_true_eq, List.all_eq_true]
  exact ⟨by omega, fun x hx => by have := h2 x hx; omega⟩
theorem hushB_few {f t : Int} {l : List Mat} (h : hushB f t l = true) : tickB f = true ∧ tickB t = true ∧ f < t ∧ 1 ≤ l.length ∧ l.length ≤ 4 ∧ ∀ x ∈ l, matB x = true := by
  simp only [hushB, Bool.and_eq_true, decide_eq_true_eq, Bool.not_eq_true', List.any_eq_false] at h
  exact ⟨h.1.1.1.1.1, h.1.1.1.1.2, h.1.1.1.2, h.1.1.2, h.1.2, fun x hx => by simpa using h.2 x hx⟩
theorem matB_few {x : Mat} (h : matB x = true) : 0 ≤ x.kind ∧ x.kind ≤ 3 ∧ x.name.size ≤ 8 ∧ x.value.size ≤ 8 := by
  simp only [matB, nameB, valB, Bool.and_eq_true, decide_eq_true_eq] at h
  exact ⟨h.1.1.1.1, h.1.1.1.2, h.1.1.2.2, h.1.2.2⟩
theorem hushB_fewM {f t : Int} {l : List Mat} (h : hushB f t l = true) : fewM l = true := by
  obtain ⟨_, _, _, _, h1, h2⟩ := hushB_few h
  simp only [fewM, Bool.and_eq_true, decide_eq_true_eq, List.all_eq_true]
  exact ⟨by omega, fun x hx => by have := matB_few (h2 x hx); omega⟩
def Rc.bytes (r : Rc) : List UInt8 := putW r.k r.l1 r.rt r.pl r.tr r.due r.st r.l7 r.fr r.tt r.l10
def Rc.put (r : Rc) : Option (ByteArray × Int) := code_Put.f r.k (r.l1.map ofLab) r.rt r.pl r.tr r.due r.st (r.l7.map ofLab) r.fr r.tt (r.l10.map ofMat)
theorem mats_to_of (xs : List Mat) : (xs.map ofMat).map toMat = xs := by simp [Function.comp_def, to_of_mat]
theorem put_ok {r : Rc} (h : r.sz) (ho : r.okB = true) : r.put = some (⟨r.bytes.toArray⟩, 0) := by
  have hr := right_f h
  unfold Rc.right at hr
  unfold Rc.put code_Put.f
  rw [hr, ho]
  simp only [Option.bind_some, if_true]
  have hp : code_put.f r.k (r.l1.map ofLab) r.rt r.pl r.tr r.due r.st (r.l7.map ofLab) r.fr r.tt (r.l10.map ofMat) = some ⟨r.bytes.toArray⟩ := by
    unfold code_put.f
    simp only [labs_to_of, mats_to_of]
    rw [if_pos]
    · rfl
    · unfold Rc.okB at ho
      by_cases e1 : r.k = 1
      · rw [if_pos e1] at ho ⊢
        simp only [dutyB, Bool.and_eq_true] at ho ⊢
        exact ⟨labsB_fewL ho.1.1.1.1.1.2, ho.1.1.1.1.2⟩
      · rw [if_neg e1] at ho ⊢
        by_cases e2 : r.k = 2
        · rw [if_pos e2] at ho ⊢
          simp only [Bool.and_eq_true] at ho
          exact labsB_fewL ho.1.1
        · rw [if_neg e2] at ho ⊢
          by_cases e3 : r.k = 3
          · rw [if_pos e3] at ho
            simp only [Bool.and_eq_true] at ho ⊢
            exact ⟨hushB_fewM ho.1.1, (hushB_few ho.1.1).1, (hushB_few ho.1.1).2.1⟩
          · rw [if_neg e3] at ho
            cases ho
  rw [hp]
  rfl
theorem put_no {r : Rc} (h : r.sz) (ho : r.okB = false) : r.put = some (⟨#[]⟩, 1) := by
  have hr := right_f h
  unfold Rc.right at hr
  unfold Rc.put code_Put.f
  rw [hr, ho]
  rfl
end Go.Proofs.YtndgollcganhmaaQ.P
namespace Go.Proofs.Ytndgollcganhmaa
open Go.RowKit
theorem u8_tn (x : Int) : (u8 x).toNat = (x % 256).toNat := by
  unfold u8
  rw [UInt8.toNat_ofNat']
  omega
theorem u8_nat {n : Nat} (h : n < 256) : (u8 (n : Int)).toNat = n := by
  rw [u8_tn]
  omega
theorem numF_u8 {n : Nat} (h : n < 256) (t : List UInt8) (b : Bool) : numF (u8 (n : Int) :: t, b) = (n, (t, b)) := by
  simp only [numF, u8_nat h]
theorem numF_u8i {n : Int} (h0 : 0 ≤ n) (h : n < 256) (t : List UInt8) (b : Bool) : numF (u8 n :: t, b) = (n.toNat, (t, b)) := by
  obtain ⟨m, rfl⟩ := Int.eq_ofNat_of_zero_le h0
  rw [numF_u8 (by omega)]
  simp
theorem takeF_app (x t : List UInt8) (b : Bool) : takeF x.length (x ++ t, b) = (x, (t, b)) := by
  unfold takeF
  rw [if_neg (by simp)]
  simp
theorem textF_app {s : ByteArray} (h : s.size < 256) (t : List UInt8) (b : Bool) : textF (textB s ++ t, b) = (s.data.toList, (t, b)) := by
  unfold textF textB
  rw [List.cons_append, numF_u8 h]
  rw [show s.size = s.data.toList.length from (len_data s).symm, takeF_app]
theorem timeF_app {t : Int} (h0 : 0 ≤ t) (h1 : t ≤ 1099511627776) (r : List UInt8) (b : Bool) : timeF 6 0 (sixB t ++ r, b) = (t.toNat, (r, b)) := by
  obtain ⟨m, rfl⟩ := Int.eq_ofNat_of_zero_le h0
  simp only [sixB, List.cons_append, List.nil_append, timeF, numF, u8_tn]
  refine Prod.ext ?_ rfl
  show _ = m
  simp only
  omega
theorem labF_app {x : Lab} (h1 : x.name.size < 256) (h2 : x.value.size < 256) (t : List UInt8) (b : Bool) : labF (labT2 x ++ t, b) = (x, (t, b)) := by
  unfold labF labT2
  rw [List.append_assoc, textF_app h1, textF_app h2]
  simp only [tx_of]
theorem labsF_app : ∀ (xs acc : List Lab) (t : List UInt8), (∀ x ∈ xs, x.name.size < 256 ∧ x.value.size < 256) → labsF xs.length acc (xs.flatMap labT2 ++ t, false) = (acc ++ xs, (t, false))
  | [], acc, t, _ => by simp [labsF]
  | x :: xs, acc, t, h => by
    have hx := h x (by simp)
    rw [List.length_cons, labsF, if_neg (by simp), List.flatMap_cons, List.append_assoc, labF_app hx.1 hx.2, labsF_app xs _ t fun y hy => h y (by simp [hy])]
    simp
theorem matF_app {m : Mat} (h0 : 0 ≤ m.kind) (h3 : m.kind < 256) (h1 : m.name.size < 256) (h2 : m.value.size < 256) (t : List UInt8) (b : Bool) : matF (matT2 m ++ t, b) = (m, (t, b)) := by
  unfold matF matT2
  rw [List.cons_append, List.append_assoc, numF_u8i h0 h3, textF_app h1, textF_app h2]
  simp only [tx_of]
  rw [Int.toNat_of_nonneg h0]
theorem matsF_app : ∀ (xs acc : List Mat) (t : List UInt8), (∀ x ∈ xs, 0 ≤ x.kind ∧ x.kind < 256 ∧ x.name.size < 256 ∧ x.value.size < 256) → matsF xs.length acc (xs.flatMap matT2 ++ t, false) = (acc ++ xs, (t, false))
  | [], acc, t, _ => by simp [matsF]
  | x :: xs, acc, t, h => by
    have hx := h x (by simp)
    rw [List.length_cons, matsF, if_neg (by simp), List.flatMap_cons, List.append_assoc, matF_app hx.1 hx.2.1 hx.2.2.1 hx.2.2.2, matsF_app xs _ t fun y hy => h y (by simp [hy])]
    simp
end Go.Proofs.Ytndgollcganhmaa
namespace Go.Proofs.YtndgollcganhmaaQ.P
open Go.RowKit Go.Proofs.YtndgollcganhmaaW.PrintWords Go.Proofs.YtndgollcganhmaaW.PrintLast Go.Proofs.YtndgollcganhmaaW.PrintMore
attribute [local go_sem] max2_int min2_int max_two min_two max_three min_three max_four min_four
def foghornlaw10_few.T5 : Bool × List (List Nat × List Nat) := (true, [([], []), ([], []), ([1], [1]), ([], []), ([3], [3]), ([4], [4]), ([5], [5]), ([2, 6], [2, 6]), ([], []), ([8], [8]), ([], []), ([10], [10]), ([11], [11]), ([12], [12]), ([9, 13], [9, 13]), ([7, 14], [7, 14]), ([15], [15]), ([0, 16], [0, 16]), ([17, 17, 0, 1, 2, 3, 4, 5, 6, 7, 8, 9, 10, 11, 12, 13, 14, 15, 16, 17], [0, 17])])
def foghornlaw10_few.B5 : List Nat := [0, 0, 2, 0, 8, 24, 56, 126, 0, 256, 0, 1024, 3072, 7168, 16128, 32766, 65534, 131071, 262143]
theorem foghornlaw10_few.tab5 : rtab .any (opsOf Try.f10 5) = foghornlaw10_few.T5 := by kernel_rfl
theorem foghornlaw10_few.bits5 : waitsOk foghornlaw10_few.T5.2 foghornlaw10_few.B5 = true := by kernel_rfl
end Go.Proofs.YtndgollcganhmaaQ.P
namespace Go.Proofs.YtndgollcganhmaaQ.P
open Go.RowKit Go.Proofs.YtndgollcganhmaaW.PrintWords Go.Proofs.YtndgollcganhmaaW.PrintLast Go.Proofs.YtndgollcganhmaaW.PrintMore
attribute [local go_sem] max2_int min2_int max_two min_two max_three min_three max_four min_four
def foghornlaw10_asked.T5 : Bool × List (List Nat × List Nat) := (true, [([], []), ([], []), ([1], [1]), ([], []), ([3], [3]), ([], []), ([5], [5]), ([6], [6]), ([7], [7]), ([4, 8], [4, 8]), ([], []), ([10], [10]), ([], []), ([12], [12]), ([13], [13]), ([14], [14]), ([11, 15], [11, 15]), ([2, 9, 16], [2, 9, 16]), ([17], [17]), ([0, 18], [0, 18]), ([19, 19, 0, 1, 2, 3, 4, 5, 6, 7, 8, 9, 10, 11, 12, 13, 14, 15, 16, 17, 18, 19], [0, 19])])
def foghornlaw10_asked.B5 : List Nat := [0, 0, 2, 0, 8, 0, 32, 96, 224, 504, 0, 1024, 0, 4096, 12288, 28672, 64512, 131070, 262142, 524287, 1048575]
theorem foghornlaw10_asked.tab5 : rtab .any (opsOf Try.f11 5) = foghornlaw10_asked.T5 := by kernel_rfl
theorem foghornlaw10_asked.bits5 : waitsOk foghornlaw10_asked.T5.2 foghornlaw10_asked.B5 = true := by kernel_rfl
end Go.Proofs.YtndgollcganhmaaQ.P
namespace Go.Proofs.Ytndgollcganhmaa
open Go.RowKit
attribute [local go_sem high] ext_size ext_cell ext_frozen alloc_cell alloc_frozen
def cut12 (x : ByteArray) : ByteArray := x.extract 0 12
def cutL (x : Lab) : Lab := ⟨cut12 x.name, cut12 x.value⟩
def fewL (xs : List Lab) : List Lab := (xs.take 6).map cutL
def cutM (x : Mat) : Mat := ⟨x.kind, cut12 x.name, cut12 x.value⟩
def fewM (xs : List Mat) : List Mat := (xs.take 6).map cutM
end Go.Proofs.Ytndgollcganhmaa
namespace Go.Proofs.YtndgollcganhmaaQ.P
open Go.RowKit Go.Proofs.YtndgollcganhmaaW.PrintWords Go.Proofs.YtndgollcganhmaaW.PrintLast Go.Proofs.YtndgollcganhmaaW.PrintMore Go.Proofs.Ytndgollcganhmaa
theorem rdL {xs : List S41} {i : Nat} (h : i < xs.length) : rd_T41 xs (i : Int) = xs[i] := getD_cast h
theorem rdM {xs : List S35} {i : Nat} (h : i < xs.length) : rd_T35 xs (i : Int) = xs[i] := getD_cast h
def cutLS (x : S41) : S41 := ⟨cutB 12 x.f0, cutB 12 x.f1⟩
def cutMS (x : S35) : S35 := ⟨x.f0, cutB 12 x.f1, cutB 12 x.f2⟩
theorem bytes_list {a b : ByteArray} : (a.toList = b.toList) ↔ a = b := ⟨fun h => bytes_of_eq (by rw [h]; simp), fun h => by rw [h]⟩
end Go.Proofs.YtndgollcganhmaaQ.P
namespace Go.Proofs.YtndgollcganhmaaQ.P
open Go.RowKit Go.Proofs.YtndgollcganhmaaW.PrintWords Go.Proofs.Ytndgollcganhmaa
theorem asked_l (xs ys : List Mat) (hl : xs.length = ys.length) (hb : xs.length < 1000000) (d : Nat) : ∀ (k i : Nat), i + d = xs.length → d < k →
    foghornref10_Asked.l0 k (xs.map ofMat) (ys.map ofMat) ((xs.map ofMat).length : Int) i = some (decide (xs.drop i = ys.drop i)) := by
  induction d with
  | zero =>
    intro k i h hk
    obtain ⟨k, rfl⟩ : ∃ m, k = m + 1 := ⟨k - 1, by omega⟩
    simp only [foghornref10_Asked.l0]
    rw [if_neg (by simp; omega), drop_end (by omega), drop_end (by omega)]
    simp
  | succ d ih =>
    intro k i h hk
    obtain ⟨k, rfl⟩ : ∃ m, k = m + 1 := ⟨k - 1, by omega⟩
    have hi : i < (xs.map ofMat).length := by simp; omega
    have hj : i < (ys.map ofMat).length := by simp; omega
    have hi' : i < xs.length := by omega
    have hj' : i < ys.length := by omega
    simp only [foghornref10_Asked.l0]
    rw [if_pos (by omega), if_pos (by omega), if_pos (by omega), if_pos (by omega), rdM hi, rdM hj, List.getElem_map, List.getElem_map, w64s (by omega), ih k (i + 1) (by omega) (by omega), drop_cons hi', drop_cons hj']
    generalize xs[i] = x
    generalize ys[i] = y
    obtain ⟨a, b, c⟩ := x
    obtain ⟨a', b', c'⟩ := y
    simp only [ofMat]
    by_cases h1 : a = a'
    · by_cases h2 : b = b'
      · by_cases h3 : c = c'
        · subst h1 h2 h3
          simp
        · have : ¬ c.toList = c'.toList := fun h => h3 (bytes_list.1 h)
          simp [h1, h2, h3, this]
      · have : ¬ b.toList = b'.toList := fun h => h2 (bytes_list.1 h)
        simp [h1, h2, this]
    · simp [h1]
theorem asked_f (xs ys : List Mat) (hb : xs.length < 1000000) {k : Nat} (hk : xs.length < k) : foghornref10_Asked.f k (xs.map ofMat) (ys.map ofMat) = some (decide (xs = ys)) := by
  unfold foghornref10_Asked.f
  by_cases h : xs.length = ys.length
  · rw [if_pos (by simp [h]), show (0 : Int) = ((0 : Nat) : Int) from rfl, asked_l xs ys h hb xs.length k 0 (by omega) (by omega)]
    simp
  · rw [if_neg (by simp; omega)]
    have : xs ≠ ys := fun e => h (by rw [e])
    simp [this]
theorem hushes_f (f t f' t' : Int) (xs ys : List Mat) (hb : xs.length < 1000000) {k : Nat} (hk : xs.length < k) : foghornref12_Hushes.f k f t (xs.map ofMat) f' t' (ys.map ofMat) = some (decide (f = f') && decide (t = t') && decide (xs = ys)) := by
  unfold foghornref12_Hushes.f
  rw [asked_f xs ys hb hk]
  by_cases h1 : f = f' <;> by_cases h2 : t = t' <;> simp [h1, h2]
theorem refSameL_f (a b : List Lab) : foghornref10_Same.f (a.map ofLab) (b.map ofLab) = some (decide (a = b)) := by
  unfold foghornref10_Same.f
  rw [labs_to_of, labs_to_of]
theorem dutySame_f (a b : List Lab) (a1 a2 a3 a4 a5 b1 b2 b3 b4 b5 : Int) : foghornref16_Same.f (a.map ofLab) a1 a2 a3 a4 a5 (b.map ofLab) b1 b2 b3 b4 b5 = some (decide (a = b) && (decide (a1 = b1) && (decide (a2 = b2) && (decide (a3 = b3) && (decide (a4 = b4) && decide (a5 = b5)))))) := by
  unfold foghornref16_Same.f
  rw [refSameL_f]
  by_cases h0 : a = b <;> by_cases h1 : a1 = b1 <;> by_cases h2 : a2 = b2 <;> by_cases h3 : a3 = b3 <;> by_cases h4 : a4 = b4 <;> simp [h0, h1, h2, h3, h4]
  rw [Bool.eq_iff_iff]
  simp
instance : DecidableEq Rc := fun a b =>
  decidable_of_iff (a.k = b.k ∧ a.l1 = b.l1 ∧ a.rt = b.rt ∧ a.pl = b.pl ∧ a.tr = b.tr ∧ a.due = b.due ∧ a.st = b.st ∧ a.l7 = b.l7 ∧ a.fr = b.fr ∧ a.tt = b.tt ∧ a.l10 = b.l10)
    ⟨fun h => by cases a; cases b; simpa using h, fun h => by subst h; simp⟩
theorem same_f (a b : Rc) (hb : a.l10.length < 1000000) {k : Nat} (hk : a.l10.length < k) : foghornref17_Same.f k a.k (a.l1.map ofLab) a.rt a.pl a.tr a.due a.st (a.l7.map ofLab) a.fr a.tt (a.l10.map ofMat) b.k (b.l1.map ofLab) b.rt b.pl b.tr b.due b.st (b.l7.map ofLab) b.fr b.tt (b.l10.map ofMat) = some (decide (a = b)) := by
  unfold foghornref17_Same.f
  rw [dutySame_f, refSameL_f, hushes_f _ _ _ _ _ _ hb hk]
  obtain ⟨ak, a1, a2, a3, a4, a5, a6, a7, a8, a9, a10⟩ := a
  obtain ⟨bk, b1, b2, b3, b4, b5, b6, b7, b8, b9, b10⟩ := b
  simp only [Rc.mk.injEq]
  by_cases h0 : ak = bk <;> by_cases h1 : a1 = b1 <;> by_cases h2 : a2 = b2 <;> by_cases h3 : a3 = b3 <;> by_cases h4 : a4 = b4 <;> by_cases h5 : a5 = b5 <;> by_cases h6 : a6 = b6 <;> by_cases h7 : a7 = b7 <;> simp [h0, h1, h2, h3, h4, h5, h6, h7, Bool.and_assoc]
end Go.Proofs.YtndgollcganhmaaQ.P
namespace Go.Proofs.YtndgollcganhmaaQ.P
open Go.RowKit Go.Proofs.YtndgollcganhmaaW.PrintWords Go.Proofs.Ytndgollcganhmaa
abbrev bl (s : ByteArray) : List UInt8 := s.data.toList
theorem okB_cases {r : Rc} (h : r.okB = true) :
    (r.k = 1 ∧ dutyB r = true ∧ r = ⟨1, r.l1, r.rt, r.pl, r.tr, r.due, r.st, [], 0, 0, []⟩) ∨
    (r.k = 2 ∧ labsB r.l7 = true ∧ r = ⟨2, [], 0, 0, 0, 0, 0, r.l7, 0, 0, []⟩) ∨
    (r.k = 3 ∧ hushB r.fr r.tt r.l10 = true ∧ r = ⟨3, [], 0, 0, 0, 0, 0, [], r.fr, r.tt, r.l10⟩) := by
  unfold Rc.okB at h
  obtain ⟨k, l1, a2, a3, a4, a5, a6, l7, a8, a9, l10⟩ := r
  simp only [noHushB, noDutyB] at h
  by_cases e1 : k = 1
  · rw [if_pos e1] at h
    simp only [Bool.and_eq_true, decide_eq_true_eq] at h
    left
    have hd := h.1.1
    obtain ⟨⟨_, h2⟩, h3⟩ := h
    subst e1
    refine ⟨rfl, hd, ?_⟩
    simp [h2, h3]
  · rw [if_neg e1] at h
    by_cases e2 : k = 2
    · rw [if_pos e2] at h
      simp only [Bool.and_eq_true, decide_eq_true_eq] at h
      right
      left
      simp [e2, h]
    · rw [if_neg e2] at h
      by_cases e3 : k = 3
      · rw [if_pos e3] at h
        simp only [Bool.and_eq_true, decide_eq_true_eq] at h
        right
        right
        simp [e3, h]
      · rw [if_neg e3] at h
        cases h
theorem labsOk_of {l : List Lab} (h : labsB l = true) : LabsOk l := fun x hx => by
  have := (labsB_few h).2.2 x hx
  unfold maxLen
  omega
theorem sz_of {r : Rc} (h : r.okB = true) : r.sz := by
  rcases okB_cases h with ⟨hk, hd, hr⟩ | ⟨hk, hd, hr⟩ | ⟨hk, hd, hr⟩
  · rw [hr]
    refine ⟨labsOk_of ?_, (fun x hx => by cases hx), (fun x hx => by cases hx)⟩
    simp only [dutyB, Bool.and_eq_true] at hd
    exact hd.1.1.1.2
  · rw [hr]
    exact ⟨(fun x hx => by cases hx), labsOk_of hd, (fun x hx => by cases hx)⟩
  · rw [hr]
    refine ⟨(fun x hx => by cases hx), (fun x hx => by cases hx), fun x hx => ?_⟩
    have := matB_few ((hushB_few hd).2.2.2.2.2 x hx)
    unfold maxLen
    omega
theorem numsB_of {a b c : Int} (h : numsB a b c = true) : 0 ≤ a ∧ a < 4 ∧ 0 ≤ b ∧ b < 4 ∧ 0 ≤ c ∧ c ≤ 99 := by
  simp only [numsB, Bool.and_eq_true, decide_eq_true_eq] at h
  omega
theorem dutyB_of {r : Rc} (h : dutyB r = true) : (0 ≤ r.rt ∧ r.rt < 4 ∧ 0 ≤ r.pl ∧ r.pl < 4 ∧ 0 ≤ r.tr ∧ r.tr ≤ 99) ∧ labsB r.l1 = true ∧ tickB r.due = true ∧ 1 ≤ r.st ∧ r.st ≤ 3 := by
  simp only [dutyB, Bool.and_eq_true, decide_eq_true_eq] at h
  exact ⟨numsB_of h.1.1.1.1, h.1.1.1.2, h.1.1.2, h.1.2, h.2⟩
theorem bytes_one {r : Rc} (h : r.k = 1) : r.bytes = Go.Proofs.Ytndgollcganhmaa.u8 1 :: Go.Proofs.Ytndgollcganhmaa.u8 r.rt :: Go.Proofs.Ytndgollcganhmaa.u8 r.pl :: Go.Proofs.Ytndgollcganhmaa.u8 r.tr :: Go.Proofs.Ytndgollcganhmaa.u8 r.st :: (sixB r.due ++ labsW r.l1) := by
  unfold Rc.bytes putW
  rw [if_pos h]
  rfl
theorem bytes_two {r : Rc} (h : r.k = 2) : r.bytes = Go.Proofs.Ytndgollcganhmaa.u8 2 :: labsW r.l7 := by
  unfold Rc.bytes putW
  rw [if_neg (by omega), if_pos h]
  rfl
theorem bytes_three {r : Rc} (h : r.k = 3) : r.bytes = Go.Proofs.Ytndgollcganhmaa.u8 3 :: (sixB r.fr ++ (sixB r.tt ++ matsW r.l10)) := by
  unfold Rc.bytes putW
  rw [if_neg (by omega), if_neg (by omega), h]
  rfl
end Go.Proofs.YtndgollcganhmaaQ.P
