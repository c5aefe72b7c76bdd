/- The walk of LabelKinds. -/
import Derived.Test.YtkhocnaocndkjaaL10k
import Derived.Deep.DeepCutAuto
set_option linter.unusedVariables false
set_option linter.unusedSimpArgs false
namespace Go.Proofs.Ytkhocnaocndkjaa
open Go.RowKit
attribute [local go_sem high] ext_size ext_cell ext_frozen alloc_cell alloc_frozen
attribute [local go_sem] lt_more lt_suc drew_size drew_cell
theorem slat_take {W : World} {a : Option Addr} {c sz n k : Nat} {cells : List Value} (h : SlAt W (.slice a n c) sz n cells) (hk : k ≤ n) : SlAt W (.slice a k c) sz k (cells.take (k * sz)) := by
  obtain ⟨hl, a', c', hv, h1, h2, h3⟩ := h
  injection hv with e1 e2 e3
  subst e1 e3
  refine ⟨?_, a, c, rfl, by omega, h2, ?_⟩
  · rw [List.length_take, hl, Nat.min_eq_left (Nat.mul_le_mul_right _ hk)]
  · rcases h3 with h3 | ⟨b, o, ha, hb, hc⟩
    · exact .inl (by omega)
    · refine .inr ⟨b, o, ha, hb, fun j u hu => hc j u ?_⟩
      rw [List.getElem?_take] at hu
      split at hu
      · exact hu
      · cases hu
theorem mats_take (ms : List Mat) (k : Nat) (hk : k ≤ ms.length) : (matsC ms).take (k * 3) = matsC (ms.take k) := by
  have h : matsC ms = matsC (ms.take k) ++ matsC (ms.drop k) := by
    unfold matsC
    rw [← List.flatMap_append, List.take_append_drop]
  rw [h, List.take_left']
  unfold matsC
  rw [flat_len (en := matC) (sz := 3) (fun _ => rfl), List.length_take, Nat.min_eq_left hk]
set_option maxRecDepth 100000 in
set_option maxHeartbeats 4000000 in
theorem labelKinds_core (v u : Value) (ls xs : List Lab) (ns ms : List Mat) (n0 n v0 va : ByteArray) (w : World) (hS : SlAt w v 2 ls.length (labsC ls)) (hM : SlAt w u 3 ns.length (matsC ns)) (hl : LabsOk ls) (hm : MatsOk ns) (hn0 : n0.size ≤ maxLen) (hv0 : v0.size ≤ maxLen)
    (HX : Hid (xs = fewL ls)) (HMM : Hid (ms = fewM ns)) (HN : Hid (n = cut12 n0)) (HV : Hid (va = cut12 v0)) (hxl : LabsOk xs) (hml : MatsOk ms) (hns : n.size ≤ maxLen) (hvs : va.size ≤ maxLen) (h6 : ms.length ≤ 6) :
    Calls Try.prog 9 #[v, .string n0, .string v0, u] w fun e w' => e = .returned (.bool true) ∧ Below w.heap.size w w' := by
  obtain ⟨a, c, rfl, hnc, hcm⟩ := hS.form
  obtain ⟨a2, c2, rfl, hnc2, hcm2⟩ := hM.form
  have HF := Lib.hid fun W (h : SlAt W (Value.slice a ls.length c) 2 ls.length (labsC ls)) => few10_any _ ls W h hl
  rw [← HX.out] at HF
  have HG := Lib.hid fun W (h : SlAt W (Value.slice a2 ns.length c2) 3 ns.length (matsC ns)) => asked10_any _ ns W h hm
  rw [← HMM.out] at HG
  have HS := Lib.hid hS
  have HM := Lib.hid hM
  have HXL := Lib.hid hxl
  have HML := Lib.hid hml
  have HNS := Lib.hid hns
  have HVS := Lib.hid hvs
  unfold maxLen at hn0 hv0
  clear hS hM hl hm hxl hml hns hvs
  go_enter Try.func9, Try.ntmps9
  go_wp2_with fail
  refine (HF.out _ (HS.out.stay (by repeat (first | exact Below.refl _ _ | apply bal | apply bext | apply bdr | apply bdrN | (refine bst ?_ _ (by simp only [ext_size, size_alloc, size_set]; omega)))))).mono ?_
  rintro e w' ⟨v10, rfl, hs10, hf10, hb10⟩
  obtain ⟨a10, c10, rfl, hn10, hm10⟩ := hs10.form
  have HS10 := Lib.hid hs10
  obtain ⟨x10, rfl⟩ := ext_of hb10
  clear hs10 hb10
  go_wp2_with fail
  refine (HG.out _ (HM.out.stay (by repeat (first | exact Below.refl _ _ | apply bal | apply bext | apply bdr | apply bdrN | (refine bst ?_ _ (by simp only [ext_size, size_alloc, size_set]; omega)))))).mono ?_
  rintro e w' ⟨v11, rfl, hs11, hf11, hb11⟩
  obtain ⟨a11, c11, rfl, hn11, hm11⟩ := hs11.form
  have HS11 := Lib.hid hs11
  obtain ⟨x11, rfl⟩ := ext_of hb11
  clear hs11 hb11
  go_upto_region 2 with fail
  refine name_world (fun W5 hW5 => ?_)
  have z5 : W5.heap.size = w.heap.size + 1 + 1 + more x10 + more x11 := by rw [hW5]; simp only [ext_size, size_alloc, size_set]
  have e4 : W5.cell? ⟨w.heap.size, 0, none⟩ = some (.slice a10 xs.length c10) := (by rw [hW5]; simp only [set_cell, ext_cell, alloc_cell, ext_size, size_alloc, size_set, World.cell?_drewN, drew_cell, drew_size]; (repeat (first | rw [if_pos trivial] | rw [if_pos (by omega)] | rw [if_neg (by omega)])); first | rfl | assumption)
  have e5 : W5.cell? ⟨w.heap.size + 1, 0, none⟩ = some (.string n0) := (by rw [hW5]; simp only [set_cell, ext_cell, alloc_cell, ext_size, size_alloc, size_set, World.cell?_drewN, drew_cell, drew_size]; (repeat (first | rw [if_pos trivial] | rw [if_pos (by omega)] | rw [if_neg (by omega)])); first | rfl | assumption)
  have HSX := Lib.hid (show SlAt W5 (.slice a10 xs.length c10) 2 xs.length (labsC xs) by
    rw [hW5]
    exact (HS10.out.stay (bext (Below.refl _ _) _)).store (fun b hb => by have := hf10 b hb; simp only [size_alloc] at this; show b ≠ w.heap.size; omega) _)
  have HSM := Lib.hid (show SlAt W5 (.slice a11 ms.length c11) 3 ms.length (matsC ms) by
    rw [hW5]
    exact HS11.out.store (fun b hb => by have := hf11 b hb; simp only [ext_size, size_alloc] at this; show b ≠ w.heap.size; omega) _)
  have HFX := Lib.hid (show FreshV (w.heap.size + 2) (.slice a10 xs.length c10) from hf10.mono (by simp only [size_alloc]; omega))
  have HFM := Lib.hid (show FreshV (w.heap.size + 2) (.slice a11 ms.length c11) from hf11.mono (by simp only [ext_size, size_alloc]; omega))
  have HB5 := Lib.hid (show Below w.heap.size w W5 by rw [hW5]; exact (by repeat (first | exact Below.refl _ _ | apply bal | apply bext | apply bdr | apply bdrN | (refine bst ?_ _ (by simp only [ext_size, size_alloc, size_set]; omega)))))
  have z4 : w.heap.size + 1 < W5.heap.size := by omega
  have f5 : W5.frozen? ⟨w.heap.size + 1, 0, none⟩ = false := by
    rw [hW5]
    simp only [set_frozen, ext_frozen, ext_size, alloc_frozen, size_alloc]
    (repeat (first | rw [if_pos trivial] | rw [if_pos (by omega)] | rw [if_neg (by omega)]))
  clear hW5 z5 HF HG HS HM HS10 HS11 hf10 hf11
  go_cut [2] (fun s2 wx => s2 = .string va ∧ wx.cell? ⟨w.heap.size, 0, none⟩ = some (.slice a10 xs.length c10) ∧ wx.cell? ⟨w.heap.size + 1, 0, none⟩ = some (.string n) ∧ Hid (SlAt wx (.slice a10 xs.length c10) 2 xs.length (labsC xs)) ∧ Hid (SlAt wx (.slice a11 ms.length c11) 3 ms.length (matsC ms)) ∧ Below w.heap.size w wx ∧ w.heap.size + 1 < wx.heap.size)
  case first =>
    obtain ⟨m1, hm1'⟩ : ∃ m, m = min n0.size 12 := ⟨_, rfl⟩
    obtain ⟨m2, hm2'⟩ : ∃ m, m = min v0.size 12 := ⟨_, rfl⟩
    have c1 := cut12_min n0 m1 hm1'
    have c2 := cut12_min v0 m2 hm2'
    have q1 : min (n0.size : Int) 12 = (m1 : Int) := by omega
    have q2 : min (v0.size : Int) 12 = (m2 : Int) := by omega
    have q3 : (m1 : Int) ≤ (n0.size : Int) := by omega
    have q4 : (m2 : Int) ≤ (v0.size : Int) := by omega
    rw [← HN.out] at c1
    rw [← HV.out] at c2
    have HC1 := Lib.hid c1
    have HC2 := Lib.hid c2
    clear c1 c2 hm1' hm2'
    go_region
    all_goals
      go_wp2_with fail
      go_meet
      refine ⟨by rw [HC2.out], ?_, ?_, ?_, ?_, ?_, ?_⟩
      · simp only [drew_cell, set_cell]
        rw [if_neg (by omega)]
        exact e4
      · simp only [drew_cell, set_cell]
        rw [if_pos trivial, if_pos trivial, e5, HC1.out]
        rfl
      · exact Lib.hid ((HSX.out.store (fun b hb => by have := HFX.out b hb; show b ≠ w.heap.size + 1; omega) _).stay (Below.refl _ _).drew)
      · exact Lib.hid ((HSM.out.store (fun b hb => by have := HFM.out b hb; show b ≠ w.heap.size + 1; omega) _).stay (Below.refl _ _).drew)
      · exact (bset HB5.out (Nat.le_succ _) _).drew
      · simp only [drew_size, size_set]
        exact z4
  case rest =>
  obtain ⟨rfl, k4, k5, HSX2, HSM2, hb, zz⟩ := hcut
  have HB := Lib.hid hb
  obtain ⟨W6, rfl⟩ : ∃ W6 : World, W6 = wc := ⟨_, rfl⟩
  have z0 : w.heap.size < W6.heap.size := by omega
  clear HSX HSM HFX HFM HB5 e4 e5 f5 z4 hb
  have HONE := Lib.hid fun k q (hq : q.size ≤ maxLen) W (hW : Below W6.heap.size W6 W) => one_any k n q (w.heap.size + 1) w.heap.size (.slice a10 xs.length c10) xs W (HSX2.out.stay hW) HXL.out HNS.out hq ((hW.cell (p := ⟨w.heap.size + 1, 0, none⟩) zz).trans k5) ((hW.cell (p := ⟨w.heap.size, 0, none⟩) z0).trans k4) (Nat.lt_of_lt_of_le zz hW.size) (Nat.lt_of_lt_of_le z0 hW.size)
  have hcs : (allE [⟨0, n, va⟩] xs = 1 ∧ allE [⟨1, n, va⟩] xs = 1 ∧ allE [⟨2, n, va⟩] xs = 1) ∨ (allE [⟨0, n, va⟩] xs = 0 ∧ allE [⟨1, n, va⟩] xs = 0 ∧ allE [⟨2, n, va⟩] xs = 0 ∧ allE [⟨3, n, ⟨#[]⟩⟩] xs = 0) := by
    obtain ⟨b0, b1, b2, b3⟩ := matB_kinds n va
    rw [allE_one, allE_one, allE_one, allE_one, b0, b1, b2, b3]
    cases labsB xs <;> cases nameB n <;> cases valB va <;> simp
  obtain ⟨E0, hE0⟩ : ∃ E, E = allE [⟨0, n, va⟩] xs := ⟨_, rfl⟩
  obtain ⟨E1, hE1⟩ : ∃ E, E = allE [⟨1, n, va⟩] xs := ⟨_, rfl⟩
  obtain ⟨E2, hE2⟩ : ∃ E, E = allE [⟨2, n, va⟩] xs := ⟨_, rfl⟩
  obtain ⟨E3, hE3⟩ : ∃ E, E = allE [⟨3, n, ⟨#[]⟩⟩] xs := ⟨_, rfl⟩
  have r0 : allR [⟨0, n, va⟩] xs = (decide (E0 = 0) && matchB ⟨0, n, va⟩ xs) := by unfold allR; rw [allB_one, hE0]
  have r1 : allR [⟨1, n, va⟩] xs = (decide (E1 = 0) && !matchB ⟨0, n, va⟩ xs) := by unfold allR; rw [allB_one, hE1, match_not]
  have r2 : allR [⟨2, n, va⟩] xs = (decide (E2 = 0) && matchB ⟨2, n, va⟩ xs) := by unfold allR; rw [allB_one, hE2]
  have r3 : allR [⟨3, n, ⟨#[]⟩⟩] xs = (decide (E3 = 0) && matchB ⟨3, n, ⟨#[]⟩⟩ xs) := by unfold allR; rw [allB_one, hE3]
  have H0 := Lib.hid (HONE.out 0 va HVS.out)
  have H1 := Lib.hid (HONE.out 1 va HVS.out)
  have H2 := Lib.hid (HONE.out 2 va HVS.out)
  have H3 := Lib.hid (HONE.out 3 ⟨#[]⟩ (by decide))
  rw [r0, ← hE0] at H0
  rw [r1, ← hE1] at H1
  rw [r2, ← hE2] at H2
  rw [r3, ← hE3] at H3
  rw [← hE0, ← hE1, ← hE2, ← hE3] at hcs
  have hb2 := match_begins n va xs
  have hb3 := match_has n va ⟨#[]⟩ xs
  obtain ⟨p0, hp0⟩ : ∃ p, p = matchB ⟨0, n, va⟩ xs := ⟨_, rfl⟩
  obtain ⟨p2, hp2⟩ : ∃ p, p = matchB ⟨2, n, va⟩ xs := ⟨_, rfl⟩
  obtain ⟨p3, hp3⟩ : ∃ p, p = matchB ⟨3, n, ⟨#[]⟩⟩ xs := ⟨_, rfl⟩
  rw [← hp0] at H0 H1 hb2
  rw [← hp2] at H2 hb2 hb3
  rw [← hp3] at H3 hb3
  have HALV := Lib.hid alive10_any
  clear r0 r1 r2 r3 hE0 hE1 hE2 hp0 hp2 hp3 HONE
  rcases hcs with ⟨rfl, rfl, rfl⟩ | ⟨rfl, rfl, rfl, rfl⟩
  · have hE : E3 = 0 ∨ E3 = 1 := by rw [hE3]; unfold allE; split <;> simp
    clear hE3 hb2 hb3
    rcases hE with rfl | rfl
    all_goals
      go_wp2_with fail
      refine (H0.out _ (by repeat (first | exact Below.refl _ _ | apply bal | apply bext | apply bdr | apply bdrN | (refine bst ?_ _ (by simp only [ext_size, size_alloc, size_set]; omega))))).mono ?_
      rintro e w' ⟨rfl, hb⟩
      obtain ⟨y0, rfl⟩ := ext_of hb
      clear hb
      go_wp2_with fail
      refine (H1.out _ (by repeat (first | exact Below.refl _ _ | apply bal | apply bext | apply bdr | apply bdrN | (refine bst ?_ _ (by simp only [ext_size, size_alloc, size_set]; omega))))).mono ?_
      rintro e w' ⟨rfl, hb⟩
      obtain ⟨y1, rfl⟩ := ext_of hb
      clear hb
      go_wp2_with fail
      refine (H2.out _ (by repeat (first | exact Below.refl _ _ | apply bal | apply bext | apply bdr | apply bdrN | (refine bst ?_ _ (by simp only [ext_size, size_alloc, size_set]; omega))))).mono ?_
      rintro e w' ⟨rfl, hb⟩
      obtain ⟨y2, rfl⟩ := ext_of hb
      clear hb
      go_wp2_with fail
      refine (H3.out _ (by repeat (first | exact Below.refl _ _ | apply bal | apply bext | apply bdr | apply bdrN | (refine bst ?_ _ (by simp only [ext_size, size_alloc, size_set]; omega))))).mono ?_
      rintro e w' ⟨rfl, hb⟩
      obtain ⟨y3, rfl⟩ := ext_of hb
      clear hb
      go_wp2_with fail
      refine (HALV.out _).mono ?_
      rintro e w' ⟨rfl, hb⟩
      obtain ⟨y4, rfl⟩ := ext_of hb
      clear hb
      go_wp2_with fail
      all_goals
        go_ret
        exact ⟨ret_bool (by first | rfl | simp), HB.out.trans (bels (Below.refl _ _) (by omega) (by repeat (first | exact Below.refl _ _ | apply bal | apply bext | apply bdr | apply bdrN | (refine bst ?_ _ (by simp only [ext_size, size_alloc, size_set]; omega)))))⟩
  · clear hE3
    go_wp2_with fail
    refine (H0.out _ (by repeat (first | exact Below.refl _ _ | apply bal | apply bext | apply bdr | apply bdrN | (refine bst ?_ _ (by simp only [ext_size, size_alloc, size_set]; omega))))).mono ?_
    rintro e w' ⟨rfl, hb⟩
    obtain ⟨y0, rfl⟩ := ext_of hb
    clear hb
    go_wp2_with fail
    refine (H1.out _ (by repeat (first | exact Below.refl _ _ | apply bal | apply bext | apply bdr | apply bdrN | (refine bst ?_ _ (by simp only [ext_size, size_alloc, size_set]; omega))))).mono ?_
    rintro e w' ⟨rfl, hb⟩
    obtain ⟨y1, rfl⟩ := ext_of hb
    clear hb
    go_wp2_with fail
    refine (H2.out _ (by repeat (first | exact Below.refl _ _ | apply bal | apply bext | apply bdr | apply bdrN | (refine bst ?_ _ (by simp only [ext_size, size_alloc, size_set]; omega))))).mono ?_
    rintro e w' ⟨rfl, hb⟩
    obtain ⟨y2, rfl⟩ := ext_of hb
    clear hb
    go_wp2_with fail
    refine (H3.out _ (by repeat (first | exact Below.refl _ _ | apply bal | apply bext | apply bdr | apply bdrN | (refine bst ?_ _ (by simp only [ext_size, size_alloc, size_set]; omega))))).mono ?_
    rintro e w' ⟨rfl, hb⟩
    obtain ⟨y3, rfl⟩ := ext_of hb
    clear hb
    go_upto_region 10 with fail
    go_cut [132] (fun s wx => s = .bool false ∧ Grew W6 wx)
    case first =>
      cases p0 <;> cases p2 <;> cases p3
      all_goals first
        | (cases hb2 rfl; done)
        | (cases hb3 rfl; done)
        | skip
      all_goals
        clear hb2 hb3
        go_wp2_with fail
        refine (HALV.out _).mono ?_
        rintro e w' ⟨rfl, hb⟩
        obtain ⟨y4, rfl⟩ := ext_of hb
        clear hb
        go_wp2_with fail
        go_meet
        exact ⟨rfl, Grew.of_bel (by repeat (first | exact Below.refl _ _ | apply bal | apply bext | apply bdr | apply bdrN | (refine bst ?_ _ (by simp only [ext_size, size_alloc, size_set]; omega))))⟩
    case rest =>
    obtain ⟨rfl, y5, rfl⟩ := hcut
    clear H0 H1 H2 H3 hb2 hb3 HALV
    have HA := Lib.hid fun z W (h : SlAt W z 3 ms.length (matsC ms)) (h' : SlAt W (Value.slice a10 xs.length c10) 2 xs.length (labsC xs)) => labAll_any z _ ms xs W h h' HML.out HXL.out
    obtain ⟨E, hE⟩ : ∃ E, E = allE ms xs := ⟨_, rfl⟩
    obtain ⟨B, hB⟩ : ∃ B, B = (decide (allE ms xs = 0) && allB ms xs) := ⟨_, rfl⟩
    rw [← hB, ← hE] at HA
    by_cases he : E = 0
    case neg =>
      have hB' : B = false := by rw [hB, ← hE]; simp [he]
      have hne : (E != 0) = true := by simpa using he
      subst hB'
      clear hE hB he
      go_wp2_with fail
      refine (HA.out _ _ (HSM2.out.stay (by repeat (first | exact Below.refl _ _ | apply bal | apply bext | apply bdr | apply bdrN | (refine bst ?_ _ (by simp only [ext_size, size_alloc, size_set]; omega))))) (HSX2.out.stay (by repeat (first | exact Below.refl _ _ | apply bal | apply bext | apply bdr | apply bdrN | (refine bst ?_ _ (by simp only [ext_size, size_alloc, size_set]; omega)))))).mono ?_
      rintro e w' ⟨rfl, hb⟩
      obtain ⟨y6, rfl⟩ := ext_of hb
      clear hb
      go_wp2_with fail
      go_ret
      exact ⟨ret_bool (by first | rfl | simp), HB.out.trans (bels (Below.refl _ _) (by omega) (by repeat (first | exact Below.refl _ _ | apply bal | apply bext | apply bdr | apply bdrN | (refine bst ?_ _ (by simp only [ext_size, size_alloc, size_set]; omega)))))⟩
    case pos =>
      subst he
      have hB' : B = allB ms xs := by rw [hB, ← hE]; simp
      have HBB := Lib.hid hB'
      have HEE := Lib.hid hE.symm
      clear hE hB hB'
      have hml2 := HSM2.out.le
      unfold maxLen at hml2
      go_wp2_with fail
      refine (HA.out _ _ (HSM2.out.stay (by repeat (first | exact Below.refl _ _ | apply bal | apply bext | apply bdr | apply bdrN | (refine bst ?_ _ (by simp only [ext_size, size_alloc, size_set]; omega))))) (HSX2.out.stay (by repeat (first | exact Below.refl _ _ | apply bal | apply bext | apply bdr | apply bdrN | (refine bst ?_ _ (by simp only [ext_size, size_alloc, size_set]; omega)))))).mono ?_
      rintro e w' ⟨rfl, hb⟩
      obtain ⟨y6, rfl⟩ := ext_of hb
      clear hb
      go_wp2
      go_loopw [20, 145] (fun t i wr => ∃ k : Nat, k ≤ ms.length ∧ i = .int .i64 k ∧ (∃ q : Bool, t = .bool q ∧ Hid (q = allB (ms.take k) xs)) ∧ Below W6.heap.size W6 wr) (fun _ i _ => ms.length - (intOf i).toNat)
      case atStart => exact ⟨0, Nat.zero_le _, rfl, ⟨_, rfl, Lib.hid rfl⟩, (by repeat (first | exact Below.refl _ _ | apply bal | apply bext | apply bdr | apply bdrN | (refine bst ?_ _ (by simp only [ext_size, size_alloc, size_set]; omega))))⟩
      case round =>
        obtain ⟨k, hk, rfl, ⟨q, rfl, HQ⟩, hbel⟩ := hrel
        obtain ⟨xr, rfl⟩ := ext_of hbel
        clear hbel
        by_cases hlt : k < ms.length
        · obtain ⟨b, o, rfl, hbl, hcell⟩ := HSM2.out.at (by omega)
          have g0 := mats_get ms k hlt
          have j0 : W6.cell? ⟨b, o + k * 3, none⟩ = some (.int .i64 ms[k].kind) := hcell _ _ g0.1
          have j1 : W6.cell? ⟨b, o + k * 3 + 1, none⟩ = some (.string ms[k].name) := by rw [Nat.add_assoc]; exact hcell _ _ g0.2.1
          have j2 : W6.cell? ⟨b, o + k * 3 + 2, none⟩ = some (.string ms[k].value) := by rw [Nat.add_assoc]; exact hcell _ _ g0.2.2
          obtain ⟨t1, t2⟩ := allE_take HEE.out k hlt
          have hst := allB_take ms xs k hlt
          have hok := HML.out ms[k] (List.getElem_mem hlt)
          obtain ⟨x, hx⟩ : ∃ x, x = ms[k] := ⟨_, rfl⟩
          rw [← hx] at j0 j1 j2 t2 hst hok
          have H1 := Lib.hid fun z W (h : SlAt W z 3 1 (matsC [x])) (h' : SlAt W (Value.slice a10 xs.length c10) 2 xs.length (labsC xs)) => labAll_any z _ [x] xs W h h' (fun y hy => by rw [List.mem_singleton.1 hy]; exact hok) HXL.out
          rw [t2, allB_one] at H1
          have hkl : (ms.take k).length = k := by rw [List.length_take]; omega
          have H2 := Lib.hid fun z W (h : SlAt W z 3 (ms.take k).length (matsC (ms.take k))) (h' : SlAt W (Value.slice a10 xs.length c10) 2 xs.length (labsC xs)) => labAll_any z _ (ms.take k) xs W h h' (fun y hy => HML.out y (List.mem_of_mem_take hy)) HXL.out
          rw [t1, hkl, ← HQ.out] at H2
          rw [← HQ.out] at hst
          obtain ⟨p, hp⟩ : ∃ p, p = matchB x xs := ⟨_, rfl⟩
          rw [← hp] at H1 hst
          have HST := Lib.hid hst
          obtain ⟨kd, n1, u1⟩ := x
          have i1 : (k : Int) ≤ (ms.length : Int) := by omega
          simp only at j0 j1 j2
          clear hcell g0 t1 t2 hst hok hx hp hkl
          go_wp2_with fail
          refine (H1.out _ _ (slat_lit _ (by simp only [ext_size, size_alloc]) rfl rfl (by decide)) (HSX2.out.stay (by repeat (first | exact Below.refl _ _ | apply bal | apply bext | apply bdr | apply bdrN | (refine bst ?_ _ (by simp only [ext_size, size_alloc, size_set]; omega)))))).mono ?_
          rintro e w' ⟨rfl, hb⟩
          obtain ⟨y7, rfl⟩ := ext_of hb
          clear hb
          go_wp2_with fail
          refine wp_region_ext (by kernel_rfl) (by kernel_rfl) ?_
          repeat (go_big_quiet_step ((first | (go_at_call 22; exact Calls.grew (H2.out _ _ ((by rw [← mats_take ms k hk]; exact slat_take HSM2.out hk : SlAt W6 (.slice (some ⟨b, o, none⟩) k c11) 3 k (matsC (ms.take k))).stay (by repeat (first | exact Below.refl _ _ | apply bal | apply bext | apply bdr | apply bdrN | (refine bst ?_ _ (by simp only [ext_size, size_alloc, size_set]; omega))))) (HSX2.out.stay (by repeat (first | exact Below.refl _ _ | apply bal | apply bext | apply bdr | apply bdrN | (refine bst ?_ _ (by simp only [ext_size, size_alloc, size_set]; omega))))))))))
          refine wpQuiet_nil ?_
          intro _ hw'
          obtain ⟨y8, rfl⟩ := hw'
          go_wp2_with fail
          all_goals
            exact ⟨⟨k + 1, by omega, by go_num, ⟨_, rfl, Lib.hid (by rw [HST.out]; simp [*])⟩, (by repeat (first | exact Below.refl _ _ | apply bal | apply bext | apply bdr | apply bdrN | (refine bst ?_ _ (by simp only [ext_size, size_alloc, size_set]; omega))))⟩, by simp [intOf]; omega⟩
        · obtain rfl : k = ms.length := by omega
          have hq : q = B := by rw [HQ.out, HBB.out, List.take_length]
          subst hq
          go_wp2_with fail
          go_ret
          exact ⟨ret_bool (by first | rfl | simp), HB.out.trans (bels (Below.refl _ _) (by omega) (by repeat (first | exact Below.refl _ _ | apply bal | apply bext | apply bdr | apply bdrN | (refine bst ?_ _ (by simp only [ext_size, size_alloc, size_set]; omega)))))⟩
theorem cut12_size (x : ByteArray) : (cut12 x).size ≤ maxLen := by
  unfold cut12 maxLen
  rw [ByteArray.size_extract]
  omega
theorem LabelKinds_walk (v0 : Value) (a0 : List Lab) (a1 a2 : ByteArray) (v3 : Value) (a3 : List Mat) (w : World) (h0 : SlAt w v0 2 a0.length (labsC a0) ∧ LabsOk a0) (h1 : a1.size ≤ maxLen) (h2 : a2.size ≤ maxLen) (h3 : SlAt w v3 3 a3.length (matsC a3) ∧ MatsOk a3) :
    Calls Try.prog 9 #[v0, .string a1, .string a2, v3] w fun e w' => e = .returned (.bool true) ∧ Below w.heap.size w w' := by
  refine labelKinds_core v0 v3 a0 _ a3 _ a1 _ a2 _ w h0.1 h3.1 h0.2 h3.2 h1 h2 (Lib.hid rfl) (Lib.hid rfl) (Lib.hid rfl) (Lib.hid rfl) ?_ ?_ (cut12_size _) (cut12_size _) ?_
  · intro x hx
    obtain ⟨y, _, rfl⟩ := List.mem_map.1 hx
    exact ⟨cut12_size _, cut12_size _⟩
  · intro x hx
    obtain ⟨y, _, rfl⟩ := List.mem_map.1 hx
    exact ⟨cut12_size _, cut12_size _⟩
  · unfold fewM
    rw [List.length_map, List.length_take]
    omega
end Go.Proofs.Ytkhocnaocndkjaa
