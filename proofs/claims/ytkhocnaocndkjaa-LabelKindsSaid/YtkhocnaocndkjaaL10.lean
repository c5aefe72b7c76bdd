/- Helpers of the statements of layer 10: few, asked. -/
import Derived.Test.YtkhocnaocndkjaaC10v
import Derived.Deep.RegionHeld3
set_option linter.unusedVariables false
set_option linter.unusedSimpArgs false
namespace Go.Proofs.Ytkhocnaocndkjaa
open Go.RowKit
attribute [local go_sem high] ext_size ext_cell ext_frozen alloc_cell alloc_frozen
def cut12 (x : ByteArray) : ByteArray := x.extract 0 12
theorem cut12_min (x : ByteArray) (m : Nat) (h : m = min x.size 12) : x.extract 0 m = cut12 x := by
  unfold cut12
  rcases Nat.lt_or_ge x.size 12 with c | c
  · rw [show m = x.size by omega, ext0_all x 12 (by omega), ext0_all x x.size (Nat.le_refl _)]
  · rw [show m = 12 by omega]
def cutL (x : Lab) : Lab := ⟨cut12 x.name, cut12 x.value⟩
def fewL (xs : List Lab) : List Lab := (xs.take 6).map cutL
theorem fewL_step (xs : List Lab) (k : Nat) (hk : k < xs.length) : labsC ((xs.take k).map cutL) ++ labC (cutL xs[k]) = labsC ((xs.take (k + 1)).map cutL) := by
  rw [List.take_succ_eq_append_getElem hk, List.map_append]
  unfold labsC
  rw [List.flatMap_append]
  simp
def LabsTo (w : World) (xs : List Lab) (e : Ending) (w' : World) : Prop := ∃ v, e = .returned v ∧ SlAt w' v 2 xs.length (labsC xs) ∧ FreshV w.heap.size v ∧ Below w.heap.size w w'
set_option maxRecDepth 100000 in
set_option maxHeartbeats 1000000 in
theorem few10_any (v : Value) (xs : List Lab) (w : World) (hS : SlAt w v 2 xs.length (labsC xs)) (hL : LabsOk xs) :
    Calls Try.prog 19 #[v] w (LabsTo w (fewL xs)) := by
  obtain ⟨a, c, rfl, hnc, hcm⟩ := hS.form
  obtain ⟨m, hm⟩ : ∃ m, m = min xs.length 6 := ⟨_, rfl⟩
  have hm1 : m ≤ xs.length := by omega
  have hfl : fewL xs = (xs.take m).map cutL := by
    unfold fewL
    rw [hm, List.take_eq_take_min]
    congr 1
    rw [Nat.min_comm]
  rw [hfl]
  clear hfl
  have HS := Lib.hid hS
  have HL := Lib.hid hL
  have hmin : min (xs.length : Int) 6 = (m : Int) := by omega
  have hm6 : m ≤ 6 := by omega
  unfold maxLen at hcm
  clear hS hL hm
  go_enter Try.func19, Try.ntmps19
  go_wp2
  clear hmin
  go_loopw [3, 12] (fun v i wr => ∃ (k : Nat), k ≤ m ∧ i = .int .i64 k ∧ Hid (wr.ownsRow w.heap.size 59 2 v k (labsC ((xs.take k).map cutL))) ∧ Below w.heap.size w wr) (fun _ i _ => m - (intOf i).toNat)
  case atStart => exact ⟨0, Nat.zero_le _, rfl, World.ownsRow_nil _ _ _ _, Below.refl _ _⟩
  case round =>
    obtain ⟨k, hk, rfl, HO, hbel⟩ := hrel
    by_cases hlt : k < m
    · obtain ⟨b, o, rfl, hbl, hcell⟩ := HS.out.at (by omega)
      have g0 := labs_get xs k (by omega)
      have k0 : w.cell? ⟨b, o + k * 2, none⟩ = some (.string xs[k].name) := hcell _ _ g0.1
      have k1 : w.cell? ⟨b, o + k * 2 + 1, none⟩ = some (.string xs[k].value) := by rw [Nat.add_assoc]; exact hcell _ _ g0.2
      have hok := HL.out xs[k] (List.getElem_mem _)
      have hst := fewL_step xs k (by omega)
      obtain ⟨x, hx⟩ : ∃ x, x = xs[k] := ⟨_, rfl⟩
      rw [← hx] at k0 k1 hok hst
      obtain ⟨f0, f1⟩ := x
      simp only at k0 k1 hok
      obtain ⟨h0, h1⟩ := hok
      unfold maxLen at h0 h1
      obtain ⟨m0, hm0'⟩ : ∃ m, m = min f0.size 12 := ⟨_, rfl⟩
      have c0 := cut12_min f0 m0 hm0'
      have q0 : min (f0.size : Int) 12 = (m0 : Int) := by omega
      have p0 : (m0 : Int) ≤ (f0.size : Int) := by omega
      have HC0 := Lib.hid c0
      obtain ⟨m1, hm1'⟩ : ∃ m, m = min f1.size 12 := ⟨_, rfl⟩
      have c1 := cut12_min f1 m1 hm1'
      have q1 : min (f1.size : Int) 12 = (m1 : Int) := by omega
      have p1 : (m1 : Int) ≤ (f1.size : Int) := by omega
      have HC1 := Lib.hid c1
      have HST := Lib.hid hst
      have HI := Lib.hid infoLab
      obtain ⟨xr, rfl⟩ := ext_of hbel
      clear hcell g0 hx hst hbel hm0' c0 hm1' c1
      go_wp2
      go_region_held3 (fun W => W.cell? ⟨w.heap.size + more xr, 0, none⟩ = some (.string f0) ∧ W.cell? ⟨w.heap.size + more xr, 1, none⟩ = some (.string f1))
        ((refine ⟨?_, ?_⟩ <;> ((try simp only [drew_cell, drew_size, ext_cell, ext_size, alloc_cell, size_alloc]); (repeat (first | rw [if_pos (by omega)] | rw [if_neg (by omega)])); first | rfl | assumption)))
        ((refine st_app1 (W := ((ext w xr).alloc (.cells #[.string f0, .string f1] 59)).drew) rfl (.tmp 16) (.tmp 32) 22 (by rfl) (.agg #[.string ⟨#[]⟩, .string ⟨#[]⟩]) 32 Try.underlying22 HI.out rfl (by omega) (by omega) [.string (f0.extract 0 m0), .string (f1.extract 0 m1)] (by rfl) (by simp only [drew_size, size_alloc, ext_size]; rfl) rfl (by intro q hq; simp at hq; rcases hq with rfl | rfl <;> rfl) (by exact HO.out.alloc _) (by simp only [drew_size, size_alloc, ext_size]; omega) (by omega) ?_; intro g1 cap1 w1 HO1 hB1 hlt1 hg1; have hb1 := bel_row (show Below w.heap.size w ((ext w xr).alloc (.cells #[.string f0, .string f1] 59)).drew from (by repeat (first | exact Below.refl _ _ | apply bal | apply bext | apply bdr | apply bdrN | (refine bst ?_ _ (by simp only [ext_size, size_alloc, size_set]; omega))))) (by simp only [drew_size, size_alloc, ext_size]; omega) (HO.out.alloc (.cells #[.string f0, .string f1] 59)) (Nat.le_refl _) hg1; have r0 := (hg1.cell_far ⟨w.heap.size + more xr, 0, none⟩ (by simp only [drew_size, size_alloc, ext_size]; omega) (by intro e; have h2 : (w.heap.size + more xr) < (ext w xr).heap.size := (HO.out.lt _ e.symm).2; rw [ext_size] at h2; omega)).trans (show ((ext w xr).alloc (.cells #[.string f0, .string f1] 59)).drew.cell? ⟨w.heap.size + more xr, 0, none⟩ = some (.string f0) by rw [drew_cell, alloc_cell, ext_size, if_neg (Nat.lt_irrefl _), if_pos rfl]; rfl); have r1 := (hg1.cell_far ⟨w.heap.size + more xr, 1, none⟩ (by simp only [drew_size, size_alloc, ext_size]; omega) (by intro e; have h2 : (w.heap.size + more xr) < (ext w xr).heap.size := (HO.out.lt _ e.symm).2; rw [ext_size] at h2; omega)).trans (show ((ext w xr).alloc (.cells #[.string f0, .string f1] 59)).drew.cell? ⟨w.heap.size + more xr, 1, none⟩ = some (.string f1) by rw [drew_cell, alloc_cell, ext_size, if_neg (Nat.lt_irrefl _), if_pos rfl]; rfl)))
      all_goals
        go_wp2
        have HO2 := HO1.out
        rw [HC0.out, HC1.out] at HO2
        have h9 := HST.out
        rw [show labC (cutL ⟨f0, f1⟩) = [.string (cut12 f0), .string (cut12 f1)] from rfl] at h9
        rw [h9] at HO2
        exact ⟨⟨k + 1, by omega, by go_num, HO2, hb1⟩, by simp [intOf]; omega⟩
    · obtain rfl : k = m := by omega
      have h := SlAt.of_own HO.out (by unfold maxLen; omega)
      have hfr := FreshV.of_own HO.out
      obtain ⟨a2, c2, hv, _, _⟩ := h.form
      subst hv
      have H := Lib.hid h
      have hlen : ((xs.take k).map cutL).length = k := by rw [List.length_map, List.length_take]; omega
      have HLEN := Lib.hid hlen
      clear h hlen
      go_wp2
      go_ret
      refine ⟨_, rfl, ?_, hfr, hbel⟩
      rw [HLEN.out]
      exact H.out
theorem infoMat : (Try.prog.info? 53).map (fun i => (i.zero, i.size, i.bytes)) = some (some (.agg #[.int .i64 0, .string ⟨#[]⟩, .string ⟨#[]⟩]), 3, 40) := by kernel_rfl
def cutM (x : Mat) : Mat := ⟨x.kind, cut12 x.name, cut12 x.value⟩
def fewM (xs : List Mat) : List Mat := (xs.take 6).map cutM
theorem fewM_step (xs : List Mat) (k : Nat) (hk : k < xs.length) : matsC ((xs.take k).map cutM) ++ matC (cutM xs[k]) = matsC ((xs.take (k + 1)).map cutM) := by
  rw [List.take_succ_eq_append_getElem hk, List.map_append]
  unfold matsC
  rw [List.flatMap_append]
  simp
def MatsTo (w : World) (xs : List Mat) (e : Ending) (w' : World) : Prop := ∃ v, e = .returned v ∧ SlAt w' v 3 xs.length (matsC xs) ∧ FreshV w.heap.size v ∧ Below w.heap.size w w'
set_option maxRecDepth 100000 in
set_option maxHeartbeats 1000000 in
theorem asked10_any (v : Value) (xs : List Mat) (w : World) (hS : SlAt w v 3 xs.length (matsC xs)) (hL : MatsOk xs) :
    Calls Try.prog 20 #[v] w (MatsTo w (fewM xs)) := by
  obtain ⟨a, c, rfl, hnc, hcm⟩ := hS.form
  obtain ⟨m, hm⟩ : ∃ m, m = min xs.length 6 := ⟨_, rfl⟩
  have hm1 : m ≤ xs.length := by omega
  have hfl : fewM xs = (xs.take m).map cutM := by
    unfold fewM
    rw [hm, List.take_eq_take_min]
    congr 1
    rw [Nat.min_comm]
  rw [hfl]
  clear hfl
  have HS := Lib.hid hS
  have HL := Lib.hid hL
  have hmin : min (xs.length : Int) 6 = (m : Int) := by omega
  have hm6 : m ≤ 6 := by omega
  unfold maxLen at hcm
  clear hS hL hm
  go_enter Try.func20, Try.ntmps20
  go_wp2
  clear hmin
  go_loopw [3, 12] (fun v i wr => ∃ (k : Nat), k ≤ m ∧ i = .int .i64 k ∧ Hid (wr.ownsRow w.heap.size 53 3 v k (matsC ((xs.take k).map cutM))) ∧ Below w.heap.size w wr) (fun _ i _ => m - (intOf i).toNat)
  case atStart => exact ⟨0, Nat.zero_le _, rfl, World.ownsRow_nil _ _ _ _, Below.refl _ _⟩
  case round =>
    obtain ⟨k, hk, rfl, HO, hbel⟩ := hrel
    by_cases hlt : k < m
    · obtain ⟨b, o, rfl, hbl, hcell⟩ := HS.out.at (by omega)
      have g0 := mats_get xs k (by omega)
      have k0 : w.cell? ⟨b, o + k * 3, none⟩ = some (.int .i64 xs[k].kind) := hcell _ _ g0.1
      have k1 : w.cell? ⟨b, o + k * 3 + 1, none⟩ = some (.string xs[k].name) := by rw [Nat.add_assoc]; exact hcell _ _ g0.2.1
      have k2 : w.cell? ⟨b, o + k * 3 + 2, none⟩ = some (.string xs[k].value) := by rw [Nat.add_assoc]; exact hcell _ _ g0.2.2
      have hok := HL.out xs[k] (List.getElem_mem _)
      have hst := fewM_step xs k (by omega)
      obtain ⟨x, hx⟩ : ∃ x, x = xs[k] := ⟨_, rfl⟩
      rw [← hx] at k0 k1 k2 hok hst
      obtain ⟨f0, f1, f2⟩ := x
      simp only at k0 k1 k2 hok
      obtain ⟨h1, h2⟩ := hok
      unfold maxLen at h1 h2
      obtain ⟨m1, hm1'⟩ : ∃ m, m = min f1.size 12 := ⟨_, rfl⟩
      have c1 := cut12_min f1 m1 hm1'
      have q1 : min (f1.size : Int) 12 = (m1 : Int) := by omega
      have p1 : (m1 : Int) ≤ (f1.size : Int) := by omega
      have HC1 := Lib.hid c1
      obtain ⟨m2, hm2'⟩ : ∃ m, m = min f2.size 12 := ⟨_, rfl⟩
      have c2 := cut12_min f2 m2 hm2'
      have q2 : min (f2.size : Int) 12 = (m2 : Int) := by omega
      have p2 : (m2 : Int) ≤ (f2.size : Int) := by omega
      have HC2 := Lib.hid c2
      have HST := Lib.hid hst
      have HI := Lib.hid infoMat
      obtain ⟨xr, rfl⟩ := ext_of hbel
      clear hcell g0 hx hst hbel hm1' c1 hm2' c2
      go_wp2
      go_region_held3 (fun W => W.cell? ⟨w.heap.size + more xr, 0, none⟩ = some (.int .i64 f0) ∧ W.cell? ⟨w.heap.size + more xr, 1, none⟩ = some (.string f1) ∧ W.cell? ⟨w.heap.size + more xr, 2, none⟩ = some (.string f2))
        ((refine ⟨?_, ?_, ?_⟩ <;> ((try simp only [drew_cell, drew_size, ext_cell, ext_size, alloc_cell, size_alloc]); (repeat (first | rw [if_pos (by omega)] | rw [if_neg (by omega)])); first | rfl | assumption)))
        ((refine st_app1 (W := ((ext w xr).alloc (.cells #[.int .i64 f0, .string f1, .string f2] 53)).drew) rfl (.tmp 16) (.tmp 34) 25 (by rfl) (.agg #[.int .i64 0, .string ⟨#[]⟩, .string ⟨#[]⟩]) 40 Try.underlying25 HI.out rfl (by omega) (by omega) [.int .i64 f0, .string (f1.extract 0 m1), .string (f2.extract 0 m2)] (by rfl) (by simp only [drew_size, size_alloc, ext_size]; rfl) rfl (by intro q hq; simp at hq; rcases hq with rfl | rfl | rfl <;> rfl) (by exact HO.out.alloc _) (by simp only [drew_size, size_alloc, ext_size]; omega) (by omega) ?_; intro g1 cap1 w1 HO1 hB1 hlt1 hg1; have hb1 := bel_row (show Below w.heap.size w ((ext w xr).alloc (.cells #[.int .i64 f0, .string f1, .string f2] 53)).drew from (by repeat (first | exact Below.refl _ _ | apply bal | apply bext | apply bdr | apply bdrN | (refine bst ?_ _ (by simp only [ext_size, size_alloc, size_set]; omega))))) (by simp only [drew_size, size_alloc, ext_size]; omega) (HO.out.alloc (.cells #[.int .i64 f0, .string f1, .string f2] 53)) (Nat.le_refl _) hg1; have r0 := (hg1.cell_far ⟨w.heap.size + more xr, 0, none⟩ (by simp only [drew_size, size_alloc, ext_size]; omega) (by intro e; have h2 : (w.heap.size + more xr) < (ext w xr).heap.size := (HO.out.lt _ e.symm).2; rw [ext_size] at h2; omega)).trans (show ((ext w xr).alloc (.cells #[.int .i64 f0, .string f1, .string f2] 53)).drew.cell? ⟨w.heap.size + more xr, 0, none⟩ = some (.int .i64 f0) by rw [drew_cell, alloc_cell, ext_size, if_neg (Nat.lt_irrefl _), if_pos rfl]; rfl); have r1 := (hg1.cell_far ⟨w.heap.size + more xr, 1, none⟩ (by simp only [drew_size, size_alloc, ext_size]; omega) (by intro e; have h2 : (w.heap.size + more xr) < (ext w xr).heap.size := (HO.out.lt _ e.symm).2; rw [ext_size] at h2; omega)).trans (show ((ext w xr).alloc (.cells #[.int .i64 f0, .string f1, .string f2] 53)).drew.cell? ⟨w.heap.size + more xr, 1, none⟩ = some (.string f1) by rw [drew_cell, alloc_cell, ext_size, if_neg (Nat.lt_irrefl _), if_pos rfl]; rfl); have r2 := (hg1.cell_far ⟨w.heap.size + more xr, 2, none⟩ (by simp only [drew_size, size_alloc, ext_size]; omega) (by intro e; have h2 : (w.heap.size + more xr) < (ext w xr).heap.size := (HO.out.lt _ e.symm).2; rw [ext_size] at h2; omega)).trans (show ((ext w xr).alloc (.cells #[.int .i64 f0, .string f1, .string f2] 53)).drew.cell? ⟨w.heap.size + more xr, 2, none⟩ = some (.string f2) by rw [drew_cell, alloc_cell, ext_size, if_neg (Nat.lt_irrefl _), if_pos rfl]; rfl)))
      all_goals
        go_wp2
        have HO2 := HO1.out
        rw [HC1.out, HC2.out] at HO2
        have h9 := HST.out
        rw [show matC (cutM ⟨f0, f1, f2⟩) = [.int .i64 f0, .string (cut12 f1), .string (cut12 f2)] from rfl] at h9
        rw [h9] at HO2
        exact ⟨⟨k + 1, by omega, by go_num, HO2, hb1⟩, by simp [intOf]; omega⟩
    · obtain rfl : k = m := by omega
      have h := SlAt.of_own HO.out (by unfold maxLen; omega)
      have hfr := FreshV.of_own HO.out
      obtain ⟨a2, c2, hv, _, _⟩ := h.form
      subst hv
      have H := Lib.hid h
      have hlen : ((xs.take k).map cutM).length = k := by rw [List.length_map, List.length_take]; omega
      have HLEN := Lib.hid hlen
      clear h hlen
      go_wp2
      go_ret
      refine ⟨_, rfl, ?_, hfr, hbel⟩
      rw [HLEN.out]
      exact H.out
end Go.Proofs.Ytkhocnaocndkjaa
