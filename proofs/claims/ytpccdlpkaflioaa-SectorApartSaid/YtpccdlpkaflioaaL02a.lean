/- The walk of SectorTells. -/
import Derived.Test.YtpccdlpkaflioaaL02
import Derived.Test.YtpccdlpkaflioaaC02d
import Derived.Deep.DeepCutAuto
import Derived.Test.YtpccdlpkaflioaaM08
set_option linter.unusedVariables false
set_option linter.unusedSimpArgs false
namespace Go.Proofs.Ytpccdlpkaflioaa
open Go.RowKit
attribute [local go_sem high] ext_size ext_cell ext_frozen alloc_cell alloc_frozen
attribute [local go_sem] lt_more
/-- Block g holds this disk. -/
def DiskIn (w : World) (g : Nat) (xs : List ByteArray) : Prop := ∃ a c, w.heap[g]? = some (.cells #[.slice a xs.length c] 45 (0, 0)) ∧ SlAt w (.slice a xs.length c) 1 xs.length (strs xs)
def DiskAt (w : World) (g : Nat) (a : Option Addr) (n c : Nat) (xs : List ByteArray) : Prop := w.heap[g]? = some (.cells #[.slice a n c] 45 (0, 0)) ∧ SlAt w (.slice a n c) 1 xs.length (strs xs)
theorem DiskAt.stay {w w' : World} {g : Nat} {a : Option Addr} {n c : Nat} {xs : List ByteArray} (h : DiskAt w g a n c xs) (hb : Below w.heap.size w w') : DiskAt w' g a n c xs := ⟨blk_call hb h.1, h.2.stay hb⟩
theorem DiskAt.cell {w : World} {g : Nat} {a : Option Addr} {n c : Nat} {xs : List ByteArray} (h : DiskAt w g a n c xs) : w.cell? ⟨g, 0, none⟩ = some (.slice a n c) := blk_cell h.1 rfl
theorem DiskIn.stay {w w' : World} {g : Nat} {xs : List ByteArray} (h : DiskIn w g xs) (hb : Below w.heap.size w w') : DiskIn w' g xs := by
  obtain ⟨a, c, h1, h2⟩ := h
  exact ⟨a, c, blk_call hb h1, h2.stay hb⟩
theorem refSame_true (v u : Value) (xs ys : List ByteArray) (w : World) (hS : SlAt w v 1 xs.length (strs xs)) (hT : SlAt w u 1 ys.length (strs ys)) (h : xs = ys) :
    Calls Try.prog 37 #[.agg #[v], .agg #[u]] w fun e w' => e = .returned (.bool true) ∧ Below w.heap.size w w' := by
  have := refSame_any v u xs ys w hS hT
  rwa [decide_eq_true h] at this
theorem refNew_int (n : Int) (xs : List ByteArray) (hx : Hid (xs = newL n)) (h : 10 ≤ n ∧ n ≤ 130) (w : World) : Calls Try.prog 38 #[.int .i64 n] w (DiskTo w xs) := by
  obtain ⟨k, rfl⟩ := Int.eq_ofNat_of_zero_le (show 0 ≤ n by omega)
  refine refNew_to k xs ?_ (by omega) w
  refine Lib.hid ?_
  rw [hx.out]
  unfold newL
  rw [if_pos h, Int.toNat_natCast]
theorem sector_cases (D : List ByteArray) (i : Int) (t : ByteArray) (k : Int) :
    (rightD D = false ∧ mayD D i = 1 ∧ tearE D i t 128 = 1 ∧ tearE D i t k = 1 ∧ readD D i = ⟨#[]⟩ ∧ tearL D i t 128 = [] ∧ tearL D i t k = []) ∨
    (rightD D = true ∧ hasD D i = false ∧ mayD D i = 3 ∧ tearE D i t 128 = 3 ∧ tearE D i t k = 3 ∧ readD D i = ⟨#[]⟩ ∧ tearL D i t 128 = [] ∧ tearL D i t k = []) ∨
    (rightD D = true ∧ hasD D i = true ∧ mayD D i = 0 ∧ ∃ j : Nat, i = j ∧ ∃ h : j < D.length, readD D i = D[j] ∧
      ((t.size ≠ 128 ∧ tearE D i t 128 = 2 ∧ tearE D i t k = 2 ∧ tearL D i t 128 = [] ∧ tearL D i t k = []) ∨
       (t.size = 128 ∧ tearE D i t 128 = 0 ∧ tearL D i t 128 = D.set j (over D[j] t 128) ∧
         (((k < 0 ∨ 128 < k) ∧ tearE D i t k = 1 ∧ tearL D i t k = []) ∨ ∃ m : Nat, k = m ∧ m ≤ 128 ∧ tearE D i t k = 0 ∧ tearL D i t k = D.set j (over D[j] t m))))) := by
  have hbad : ∀ (e : Int), mayD D i = e → e ≠ 0 → tearE D i t 128 = e ∧ tearE D i t k = e ∧ readD D i = ⟨#[]⟩ ∧ tearL D i t 128 = [] ∧ tearL D i t k = [] := by
    intro e he hne
    have a1 : tearE D i t 128 = e := by unfold tearE; rw [if_pos (by rw [he]; exact hne), he]
    have a2 : tearE D i t k = e := by unfold tearE; rw [if_pos (by rw [he]; exact hne), he]
    refine ⟨a1, a2, ?_, ?_, ?_⟩
    · unfold readD; rw [if_neg (by rw [he]; exact hne)]
    · unfold tearL; rw [if_neg (by rw [a1]; exact hne)]
    · unfold tearL; rw [if_neg (by rw [a2]; exact hne)]
  cases hr : rightD D with
  | false =>
    have hm : mayD D i = 1 := by unfold mayD; rw [if_pos hr]
    obtain ⟨q1, q2, q3, q4, q5⟩ := hbad 1 hm (by decide)
    exact .inl ⟨rfl, hm, q1, q2, q3, q4, q5⟩
  | true =>
    by_cases hh : 0 ≤ i ∧ i < D.length
    · have hm : mayD D i = 0 := by unfold mayD; rw [if_neg (by simp [hr]), if_pos hh]
      obtain ⟨j, rfl⟩ := Int.eq_ofNat_of_zero_le hh.1
      have hj : j < D.length := by omega
      have hg : D.getD j ByteArray.empty = D[j] := by rw [List.getD_eq_getElem?_getD, List.getElem?_eq_getElem hj]; rfl
      refine .inr (.inr ⟨rfl, by unfold hasD; simp; omega, hm, j, rfl, hj, ?_, ?_⟩)
      · unfold readD; rw [if_pos hm, Int.toNat_natCast, hg]
      · have e1 : ∀ q : Int, tearE D j t q = if t.size ≠ 128 then 2 else if q < 0 ∨ 128 < q then 1 else 0 := fun q => by unfold tearE; rw [if_neg (by simp [hm])]
        by_cases ht : t.size = 128
        · have e2 : ∀ q : Int, tearE D j t q = if q < 0 ∨ 128 < q then 1 else 0 := fun q => by rw [e1, if_neg (by simp [ht])]
          have e3 : tearE D j t 128 = 0 := by rw [e2, if_neg (by omega)]
          refine .inr ⟨ht, e3, ?_, ?_⟩
          · unfold tearL; rw [if_pos e3, Int.toNat_natCast, hg]; rfl
          · by_cases hk : k < 0 ∨ 128 < k
            · have e4 : tearE D j t k = 1 := by rw [e2, if_pos hk]
              exact .inl ⟨hk, e4, by unfold tearL; rw [if_neg (by rw [e4]; decide)]⟩
            · obtain ⟨m, rfl⟩ := Int.eq_ofNat_of_zero_le (show 0 ≤ k by omega)
              have e4 : tearE D j t m = 0 := by rw [e2, if_neg hk]
              exact .inr ⟨m, rfl, by omega, e4, by unfold tearL; rw [if_pos e4, Int.toNat_natCast, hg, Int.toNat_natCast]⟩
        · have e2 : ∀ q : Int, tearE D j t q = 2 := fun q => by rw [e1, if_pos ht]
          refine .inl ⟨ht, e2 _, e2 _, ?_, ?_⟩
          · unfold tearL; rw [if_neg (by rw [e2]; decide)]
          · unfold tearL; rw [if_neg (by rw [e2]; decide)]
    · have hm : mayD D i = 3 := by unfold mayD; rw [if_neg (by simp [hr]), if_neg hh]
      obtain ⟨q1, q2, q3, q4, q5⟩ := hbad 3 hm (by decide)
      exact .inr (.inl ⟨rfl, by unfold hasD; simp; omega, hm, q1, q2, q3, q4, q5⟩)
set_option maxRecDepth 100000 in
set_option maxHeartbeats 8000000 in
theorem sectorTells_core (n i k : Int) (v : Value) (xs D : List ByteArray) (text t : ByteArray) (w : World) (hS : SlAt w v 1 xs.length (strs xs)) (htm : text.size ≤ maxLen)
    (HD : Hid (fewD xs = D)) (HT : Hid (t = text.extract 0 130)) :
    Calls Try.prog 8 #[.int .i64 n, .agg #[v], .int .i64 i, .string text, .int .i64 k] w fun e w' => e = .returned (.bool true) ∧ Below w.heap.size w w' := by
  obtain ⟨a, c, rfl, hnc, hcm⟩ := hS.form
  have HF := Lib.hid fun W (h : SlAt W (Value.slice a xs.length c) 1 xs.length (strs xs)) => few02_any _ xs W h
  rw [HD.out] at HF
  have HS := Lib.hid hS
  clear hS
  unfold maxLen at htm
  go_enter Try.func8, Try.ntmps8
  go_upto_region 1 with fail
  go_cut [3] (fun s3 wx => s3 = .string t ∧ Hid (DiskIn wx w.heap.size D) ∧ Below w.heap.size w wx ∧ w.heap.size < wx.heap.size)
  case first => as_aux_lemma =>
    rcases Nat.lt_or_ge 130 text.size with c1 | c1
    · have hmn : min (text.size : Int) 130 = 130 := by omega
      have hmn2 : (130 : Int) ≤ text.size := by omega
      go_region_law (go_simp; go_at_call 29; refine (HF.out _ ((HS.out.alloc _).stay (Below.refl _ _).drew)).mono ?_; rintro e w2 ⟨v2, rfl, hs2, hf2, hb2⟩; obtain ⟨a2, c2, rfl, hn2, hm2⟩ := hs2.form; have HS2 := Lib.hid hs2; clear hs2; have K2 := Lib.hid (blk_call hb2 (show (w.alloc (.cells #[.slice a xs.length c] 45)).drew.heap[w.heap.size]? = some _ from blk_new w _)); have e2 := blk_cell K2.out (j := 0) rfl; have f2 := blk_free K2.out 0)
      all_goals
        go_wp2_with fail
        go_meet
        refine ⟨by rw [HT.out], ⟨a2, c2, blk_set K2.out 0 _, HS2.out.store (fun b hb => by have := hf2 b hb; simp at this; show b ≠ w.heap.size; omega) _⟩, bset (bel (w1 := (w.alloc (.cells #[.slice a xs.length c] 45)).drew) (bal (Below.refl _ _) _).drew hb2) (Nat.le_refl _) _, ?_⟩
        have := hb2.size
        simp at this ⊢
        omega
    · have hmn : min (text.size : Int) 130 = text.size := by omega
      have htt : t = text := by rw [HT.out]; exact ext0_all _ _ c1
      have HTT := Lib.hid htt
      clear htt
      go_region_law (go_simp; go_at_call 29; refine (HF.out _ ((HS.out.alloc _).stay (Below.refl _ _).drew)).mono ?_; rintro e w2 ⟨v2, rfl, hs2, hf2, hb2⟩; obtain ⟨a2, c2, rfl, hn2, hm2⟩ := hs2.form; have HS2 := Lib.hid hs2; clear hs2; have K2 := Lib.hid (blk_call hb2 (show (w.alloc (.cells #[.slice a xs.length c] 45)).drew.heap[w.heap.size]? = some _ from blk_new w _)); have e2 := blk_cell K2.out (j := 0) rfl; have f2 := blk_free K2.out 0)
      all_goals
        go_wp2_with fail
        go_meet
        refine ⟨by rw [HTT.out], ⟨a2, c2, blk_set K2.out 0 _, HS2.out.store (fun b hb => by have := hf2 b hb; simp at this; show b ≠ w.heap.size; omega) _⟩, bset (bel (w1 := (w.alloc (.cells #[.slice a xs.length c] 45)).drew) (bal (Below.refl _ _) _).drew hb2) (Nat.le_refl _) _, ?_⟩
        have := hb2.size
        simp at this ⊢
        omega
  case rest =>
    obtain ⟨rfl, HD0, hb0, hz0⟩ := hcut
    obtain ⟨a0, c0, k0, hs0⟩ := HD0.out
    obtain ⟨w0, rfl⟩ : ∃ w0 : World, w0 = wc := ⟨_, rfl⟩
    have K0 := Lib.hid k0
    have HS0 := Lib.hid hs0
    have e0 := blk_cell k0 (j := 0) rfl
    clear k0 hs0 HD0 HF HS
    obtain ⟨m0, m1⟩ : D.length ≤ c0 ∧ c0 ≤ maxLen := by
      obtain ⟨_, _, hh, h1, h2⟩ := HS0.out.form
      injection hh with q1 q2 q3
      subst q3
      exact ⟨h1, h2⟩
    obtain ⟨A, hA⟩ : ∃ A, A = newL n := ⟨_, rfl⟩
    obtain ⟨eA, heA⟩ : ∃ e, e = newE n := ⟨_, rfl⟩
    obtain ⟨B, hB⟩ : ∃ B, B = tearL D i t 128 := ⟨_, rfl⟩
    obtain ⟨eB, heB⟩ : ∃ e, e = tearE D i t 128 := ⟨_, rfl⟩
    obtain ⟨C, hC⟩ : ∃ C, C = tearL D i t k := ⟨_, rfl⟩
    obtain ⟨eC, heC⟩ : ∃ e, e = tearE D i t k := ⟨_, rfl⟩
    obtain ⟨s, hs⟩ : ∃ s, s = readD D i := ⟨_, rfl⟩
    obtain ⟨m, hm⟩ : ∃ m, m = mayD D i := ⟨_, rfl⟩
    have HNEW := Lib.hid fun W => new_any n W
    have HRD := Lib.hid fun W (h : SlAt W (Value.slice a0 D.length c0) 1 D.length (strs D)) => read_any _ D i W h
    have HWR := Lib.hid fun W (h : SlAt W (Value.slice a0 D.length c0) 1 D.length (strs D)) => write_any _ D i t W h
    have HTR := Lib.hid fun W (h : SlAt W (Value.slice a0 D.length c0) 1 D.length (strs D)) => tear_any _ D i t k W h
    rw [← hA, ← heA] at HNEW
    rw [← hs, ← hm] at HRD
    rw [← hB, ← heB] at HWR
    rw [← hC, ← heC] at HTR
    have QA := Lib.hid hA
    have QeA := Lib.hid heA
    have QB := Lib.hid hB
    have QeB := Lib.hid heB
    have QC := Lib.hid hC
    have QeC := Lib.hid heC
    have Qs := Lib.hid hs
    have Qm := Lib.hid hm
    clear hA heA hB heB hC heC hs hm
    go_upto_region 7 with (first
      | (go_at_call 30; refine (HNEW.out _).mono ?_; rintro e w1 ⟨v1, rfl, hs1, hf1, hb1⟩; obtain ⟨a1, c1, rfl, hn1, hm1⟩ := hs1.form; have HS1 := Lib.hid hs1; clear hs1; obtain ⟨x1, rfl⟩ := ext_of hb1; clear hb1)
      | (go_at_call 31; refine (HRD.out _ (HS0.out.stay (by repeat (first | exact Below.refl _ _ | apply bal | apply bext | apply bdr | apply bdrN | (refine bst ?_ _ (by simp only [ext_size, size_alloc, size_set]; omega)))))).mono ?_; rintro e w2 ⟨rfl, hb2⟩; obtain ⟨x2, rfl⟩ := ext_of hb2; clear hb2)
      | (go_at_call 32; refine (HWR.out _ (HS0.out.stay (by repeat (first | exact Below.refl _ _ | apply bal | apply bext | apply bdr | apply bdrN | (refine bst ?_ _ (by simp only [ext_size, size_alloc, size_set]; omega)))))).mono ?_; rintro e w3 ⟨v3, rfl, hs3, hf3, hb3⟩; obtain ⟨a3, c3, rfl, hn3, hm3⟩ := hs3.form; have HS3 := Lib.hid hs3; clear hs3; obtain ⟨x3, rfl⟩ := ext_of hb3; clear hb3)
      | (go_at_call 33; refine (HTR.out _ (HS0.out.stay (by repeat (first | exact Below.refl _ _ | apply bal | apply bext | apply bdr | apply bdrN | (refine bst ?_ _ (by simp only [ext_size, size_alloc, size_set]; omega)))))).mono ?_; rintro e w4 ⟨v4, rfl, hs4, hf4, hb4⟩; obtain ⟨a4, c4, rfl, hn4, hm4⟩ := hs4.form; have HS4 := Lib.hid hs4; clear hs4; obtain ⟨x4, rfl⟩ := ext_of hb4; clear hb4))
    refine name_world (fun W5 hW5 => ?_)
    have z5 : W5.heap.size = w0.heap.size + more x1 + 1 + more x2 + more x3 + 1 + more x4 + 1 + 1 := by rw [hW5]; simp only [ext_size, size_alloc]
    have e6 : W5.cell? ⟨w.heap.size, 0, none⟩ = some (.slice a0 D.length c0) := (by rw [hW5]; simp only [ext_cell, alloc_cell, ext_size, size_alloc, World.cell?_drewN, drew_cell, drew_size]; (repeat (first | rw [if_pos (by omega)] | rw [if_neg (by omega)])); exact e0)
    have e11 : W5.cell? ⟨w0.heap.size + more x1, 0, none⟩ = some (.slice a1 A.length c1) := (by rw [hW5]; simp only [ext_cell, alloc_cell, ext_size, size_alloc, World.cell?_drewN, drew_cell, drew_size]; (repeat (first | rw [if_pos (by omega)] | rw [if_neg (by omega)])); rfl)
    have e15 : W5.cell? ⟨w0.heap.size + more x1 + 1 + more x2 + more x3, 0, none⟩ = some (.slice a3 B.length c3) := (by rw [hW5]; simp only [ext_cell, alloc_cell, ext_size, size_alloc, World.cell?_drewN, drew_cell, drew_size]; (repeat (first | rw [if_pos (by omega)] | rw [if_neg (by omega)])); rfl)
    have e17 : W5.cell? ⟨w0.heap.size + more x1 + 1 + more x2 + more x3 + 1 + more x4, 0, none⟩ = some (.slice a4 C.length c4) := (by rw [hW5]; simp only [ext_cell, alloc_cell, ext_size, size_alloc, World.cell?_drewN, drew_cell, drew_size]; (repeat (first | rw [if_pos (by omega)] | rw [if_neg (by omega)])); rfl)
    have e19 : W5.cell? ⟨w0.heap.size + more x1 + 1 + more x2 + more x3 + 1 + more x4 + 1, 0, none⟩ = some (.slice none 0 0) := (by rw [hW5]; simp only [ext_cell, alloc_cell, ext_size, size_alloc, World.cell?_drewN, drew_cell, drew_size]; (repeat (first | rw [if_pos (by omega)] | rw [if_neg (by omega)])); rfl)
    have HS60 := Lib.hid (show SlAt W5 (.slice a0 D.length c0) 1 D.length (strs D) by rw [hW5]; exact HS0.out.stay (by repeat (first | exact Below.refl _ _ | apply bal | apply bext | apply bdr | apply bdrN | (refine bst ?_ _ (by simp only [ext_size, size_alloc, size_set]; omega)))))
    have HS61 := Lib.hid (show SlAt W5 (.slice a1 A.length c1) 1 A.length (strs A) by rw [hW5]; exact HS1.out.stay (by repeat (first | exact Below.refl _ _ | apply bal | apply bext | apply bdr | apply bdrN | (refine bst ?_ _ (by simp only [ext_size, size_alloc, size_set]; omega)))))
    have HS63 := Lib.hid (show SlAt W5 (.slice a3 B.length c3) 1 B.length (strs B) by rw [hW5]; exact HS3.out.stay (by repeat (first | exact Below.refl _ _ | apply bal | apply bext | apply bdr | apply bdrN | (refine bst ?_ _ (by simp only [ext_size, size_alloc, size_set]; omega)))))
    have HS64 := Lib.hid (show SlAt W5 (.slice a4 C.length c4) 1 C.length (strs C) by rw [hW5]; exact HS4.out.stay (by repeat (first | exact Below.refl _ _ | apply bal | apply bext | apply bdr | apply bdrN | (refine bst ?_ _ (by simp only [ext_size, size_alloc, size_set]; omega)))))
    have HB5 := Lib.hid (show Below w.heap.size w W5 by rw [hW5]; exact hb0.trans (bels (Below.refl _ _) (by omega) (by repeat (first | exact Below.refl _ _ | apply bal | apply bext | apply bdr | apply bdrN | (refine bst ?_ _ (by simp only [ext_size, size_alloc, size_set]; omega))))))
    clear hW5 HS0 HS1 HS3 HS4 HNEW HRD HWR HTR hb0 e0 K0 hf1 hf3 hf4
    obtain ⟨r, hr⟩ : ∃ r, r = rightD D := ⟨_, rfl⟩
    have HR := Lib.hid fun W (h : SlAt W (Value.slice a0 D.length c0) 1 D.length (strs D)) => right_any _ D W h
    have HRR := Lib.hid fun W (h : SlAt W (Value.slice a0 D.length c0) 1 D.length (strs D)) => refRight_any _ D W h
    have HHAS := Lib.hid fun W (h : SlAt W (Value.slice a0 D.length c0) 1 D.length (strs D)) => refHas_any _ D i W h
    obtain ⟨hs, hhs⟩ : ∃ hs, hs = hasD D i := ⟨_, rfl⟩
    rw [← hr] at HR HRR
    rw [← hhs] at HHAS
    have QR := Lib.hid hr
    have QH := Lib.hid hhs
    have HAL := Lib.hid alive02_any
    clear hr hhs
    refine wp_region_ext (by kernel_rfl) (by kernel_rfl) ?_
    repeat (go_big_quiet_step ((first | (go_at_call 34; exact Calls.grew (HR.out _ (HS60.out.stay (by repeat (first | exact Below.refl _ _ | apply bal | apply bext | apply bdr | apply bdrN | (refine bst ?_ _ (by simp only [ext_size, size_alloc, size_set]; omega))))))) | (go_at_call 35; exact Calls.grew (HRR.out _ (HS60.out.stay (by repeat (first | exact Below.refl _ _ | apply bal | apply bext | apply bdr | apply bdrN | (refine bst ?_ _ (by simp only [ext_size, size_alloc, size_set]; omega))))))) | (go_at_call 36; exact Calls.grew (HAL.out _)))))
    refine wpQuiet_nil ?_
    intro _ hw'
    obtain ⟨y1, rfl⟩ := hw'
    go_upto_region 9 with fail
    go_cut [69] (fun s69 wx => ∃ q : Bool, s69 = .bool q ∧ Hid (q = (decide (n < 10) || decide (130 < n))) ∧ wx = ext W5 y1)
    case first =>
      by_cases n1 : n < 10
      · have n2 : ¬ 130 < n := by omega
        go_wp2_with fail
        go_meet
        exact ⟨_, rfl, Lib.hid (by simp [n1, n2]), rfl⟩
      · by_cases n2 : 130 < n
        all_goals
          go_wp2_with fail
          go_meet
          exact ⟨_, rfl, Lib.hid (by simp [n1, n2]), rfl⟩
    case rest =>
    obtain ⟨q, rfl, HQ, rfl⟩ := hcut
    have z6 : w.heap.size < W5.heap.size := by omega
    have z11 : w0.heap.size + more x1 < W5.heap.size := by omega
    have z15 : w0.heap.size + more x1 + 1 + more x2 + more x3 < W5.heap.size := by omega
    have z17 : w0.heap.size + more x1 + 1 + more x2 + more x3 + 1 + more x4 < W5.heap.size := by omega
    have z19 : w0.heap.size + more x1 + 1 + more x2 + more x3 + 1 + more x4 + 1 < W5.heap.size := by omega
    clear z5
    have HNA := Lib.hid fun W (hb : Below W5.heap.size W5 W) (h : A = []) => refSame_true _ _ A [] W (HS61.out.stay hb) (SlAt.nil W 1) h
    go_upto_if 69 with fail
    go_cut [] (fun wx => Grew W5 wx)
    case first => as_aux_lemma =>
      by_cases c : 10 ≤ n ∧ n ≤ 130
      · obtain rfl : q = false := by rw [HQ.out]; simp; omega
        have hA : eA = 0 := by rw [QeA.out]; unfold newE; rw [if_pos c]
        subst hA
        have HNW := Lib.hid (refNew_int n A QA c)
        clear c
        go_wp2
        go_region_law (first
          | (go_simp; go_at_call 38; refine (HNW.out _).mono ?_; rintro e w7 ⟨v7, rfl, hs7, hf7, hb7⟩; obtain ⟨a7, c7, rfl, hn7, hm7⟩ := hs7.form; have HS7 := Lib.hid hs7; clear hs7; obtain ⟨x7, rfl⟩ := ext_of hb7; clear hb7)
          | (go_simp; go_at_call 37; refine (refSame_true _ _ A A _ (HS61.out.stay (by repeat (first | exact Below.refl _ _ | apply bal | apply bext | apply bdr | apply bdrN | (refine bst ?_ _ (by simp only [ext_size, size_alloc, size_set]; omega))))) (HS7.out.stay (by repeat (first | exact Below.refl _ _ | apply bal | apply bext | apply bdr | apply bdrN | (refine bst ?_ _ (by simp only [ext_size, size_alloc, size_set]; omega))))) rfl).mono ?_; rintro e w8 ⟨rfl, hb8⟩; obtain ⟨x8, rfl⟩ := ext_of hb8; clear hb8))
        all_goals
          go_wp2
          go_meet
          exact Grew.of_bel (by repeat (first | exact Below.refl _ _ | apply bal | apply bext | apply bdr | apply bdrN | (refine bst ?_ _ (by simp only [ext_size, size_alloc, size_set]; omega))))
      · obtain rfl : q = true := by rw [HQ.out]; simp; omega
        have hA : eA = 2 := by rw [QeA.out]; unfold newE; rw [if_neg c]
        have hA2 : A = [] := by rw [QA.out]; unfold newL; rw [if_neg c]
        have HA2 := Lib.hid hA2
        subst hA
        clear c hA2
        go_wp2_with (go_at_call 37; refine (HNA.out _ (by repeat (first | exact Below.refl _ _ | apply bal | apply bext | apply bdr | apply bdrN | (refine bst ?_ _ (by simp only [ext_size, size_alloc, size_set]; omega)))) HA2.out).mono ?_; rintro e w' ⟨rfl, hb⟩; obtain ⟨y2, rfl⟩ := ext_of hb; clear hb)
        go_meet
        exact Grew.of_bel (by repeat (first | exact Below.refl _ _ | apply bal | apply bext | apply bdr | apply bdrN | (refine bst ?_ _ (by simp only [ext_size, size_alloc, size_set]; omega))))
    case rest =>
      obtain ⟨y2, rfl⟩ := hcut
      clear HNA HS61 QA HQ
      have HNB := Lib.hid fun W (hb : Below W5.heap.size W5 W) (h : B = []) => refSame_true _ _ B [] W (HS63.out.stay hb) (SlAt.nil W 1) h
      have HNC := Lib.hid fun W (hb : Below W5.heap.size W5 W) (h : C = []) => refSame_true _ _ C [] W (HS64.out.stay hb) (SlAt.nil W 1) h
      rcases sector_cases D i t k with ⟨c1, c2, c3, c4, c5, c6, c7⟩ | ⟨c1, c1', c2, c3, c4, c5, c6, c7⟩ | ⟨c1, c1', c2, j, cj, hj, c5, hrest⟩
      · as_aux_lemma =>
        rw [← QR.out] at c1
        rw [← Qm.out] at c2
        rw [← QeB.out] at c3
        rw [← QeC.out] at c4
        rw [← Qs.out] at c5
        rw [← QB.out] at c6
        rw [← QC.out] at c7
        have HB2 := Lib.hid c6
        have HC2 := Lib.hid c7
        subst c1 c2 c3 c4 c5
        clear c6 c7
        go_wp2_with fail
        refine (HRR.out _ (HS60.out.stay (by repeat (first | exact Below.refl _ _ | apply bal | apply bext | apply bdr | apply bdrN | (refine bst ?_ _ (by simp only [ext_size, size_alloc, size_set]; omega)))))).mono ?_
        rintro e w' ⟨rfl, hb⟩
        obtain ⟨y3, rfl⟩ := ext_of hb
        clear hb
        go_wp2_with fail
        refine (HRR.out _ (HS60.out.stay (by repeat (first | exact Below.refl _ _ | apply bal | apply bext | apply bdr | apply bdrN | (refine bst ?_ _ (by simp only [ext_size, size_alloc, size_set]; omega)))))).mono ?_
        rintro e w' ⟨rfl, hb⟩
        obtain ⟨y4, rfl⟩ := ext_of hb
        clear hb
        go_wp2_with fail
        refine (HNB.out _ (by repeat (first | exact Below.refl _ _ | apply bal | apply bext | apply bdr | apply bdrN | (refine bst ?_ _ (by simp only [ext_size, size_alloc, size_set]; omega)))) HB2.out).mono ?_
        rintro e w' ⟨rfl, hb⟩
        obtain ⟨y5, rfl⟩ := ext_of hb
        clear hb
        go_wp2_with fail
        refine (HNC.out _ (by repeat (first | exact Below.refl _ _ | apply bal | apply bext | apply bdr | apply bdrN | (refine bst ?_ _ (by simp only [ext_size, size_alloc, size_set]; omega)))) HC2.out).mono ?_
        rintro e w' ⟨rfl, hb⟩
        obtain ⟨y6, rfl⟩ := ext_of hb
        clear hb
        go_wp2_with fail
        go_ret
        exact ⟨ret_bool (by first | rfl | simp [*]), HB5.out.trans (bels (Below.refl _ _) (by have := HB5.out.size; omega) (by repeat (first | exact Below.refl _ _ | apply bal | apply bext | apply bdr | apply bdrN | (refine bst ?_ _ (by simp only [ext_size, size_alloc, size_set]; omega)))))⟩
      · as_aux_lemma =>
        rw [← QR.out] at c1
        rw [← QH.out] at c1'
        rw [← Qm.out] at c2
        rw [← QeB.out] at c3
        rw [← QeC.out] at c4
        rw [← Qs.out] at c5
        rw [← QB.out] at c6
        rw [← QC.out] at c7
        have HB2 := Lib.hid c6
        have HC2 := Lib.hid c7
        subst c1 c1' c2 c3 c4 c5
        clear c6 c7
        go_wp2_with fail
        refine (HRR.out _ (HS60.out.stay (by repeat (first | exact Below.refl _ _ | apply bal | apply bext | apply bdr | apply bdrN | (refine bst ?_ _ (by simp only [ext_size, size_alloc, size_set]; omega)))))).mono ?_
        rintro e w' ⟨rfl, hb⟩
        obtain ⟨y3, rfl⟩ := ext_of hb
        clear hb
        go_wp2_with fail
        refine (HHAS.out _ (HS60.out.stay (by repeat (first | exact Below.refl _ _ | apply bal | apply bext | apply bdr | apply bdrN | (refine bst ?_ _ (by simp only [ext_size, size_alloc, size_set]; omega)))))).mono ?_
        rintro e w' ⟨rfl, hb⟩
        obtain ⟨y7, rfl⟩ := ext_of hb
        clear hb
        go_wp2_with fail
        refine (HRR.out _ (HS60.out.stay (by repeat (first | exact Below.refl _ _ | apply bal | apply bext | apply bdr | apply bdrN | (refine bst ?_ _ (by simp only [ext_size, size_alloc, size_set]; omega)))))).mono ?_
        rintro e w' ⟨rfl, hb⟩
        obtain ⟨y4, rfl⟩ := ext_of hb
        clear hb
        go_wp2_with fail
        refine (HNB.out _ (by repeat (first | exact Below.refl _ _ | apply bal | apply bext | apply bdr | apply bdrN | (refine bst ?_ _ (by simp only [ext_size, size_alloc, size_set]; omega)))) HB2.out).mono ?_
        rintro e w' ⟨rfl, hb⟩
        obtain ⟨y5, rfl⟩ := ext_of hb
        clear hb
        go_wp2_with fail
        refine (HNC.out _ (by repeat (first | exact Below.refl _ _ | apply bal | apply bext | apply bdr | apply bdrN | (refine bst ?_ _ (by simp only [ext_size, size_alloc, size_set]; omega)))) HC2.out).mono ?_
        rintro e w' ⟨rfl, hb⟩
        obtain ⟨y6, rfl⟩ := ext_of hb
        clear hb
        go_wp2_with fail
        go_ret
        exact ⟨ret_bool (by first | rfl | simp [*]), HB5.out.trans (bels (Below.refl _ _) (by have := HB5.out.size; omega) (by repeat (first | exact Below.refl _ _ | apply bal | apply bext | apply bdr | apply bdrN | (refine bst ?_ _ (by simp only [ext_size, size_alloc, size_set]; omega)))))⟩
      · rw [← QR.out] at c1
        rw [← QH.out] at c1'
        rw [← Qm.out] at c2
        rw [← Qs.out] at c5
        subst cj
        have HS5 := Lib.hid c5
        subst c1 c1' c2
        clear c5
        obtain ⟨b, o, rfl, hbl, hcell⟩ := HS60.out.at (by omega)
        have hck := hcell j _ (strs_get D j hj)
        rw [← HS5.out] at hck
        clear hcell
        rcases hrest with ⟨t1, c3, c4, c6, c7⟩ | ⟨t1, c3, c6, hk⟩
        · as_aux_lemma =>
          rw [← QeB.out] at c3
          rw [← QeC.out] at c4
          rw [← QB.out] at c6
          rw [← QC.out] at c7
          have HB2 := Lib.hid c6
          have HC2 := Lib.hid c7
          have t2 : ((t.size : Int) != 128) = true := by simp; omega
          subst c3 c4
          clear c6 c7 t1
          go_wp2_with fail
          refine (HRR.out _ (HS60.out.stay (by repeat (first | exact Below.refl _ _ | apply bal | apply bext | apply bdr | apply bdrN | (refine bst ?_ _ (by simp only [ext_size, size_alloc, size_set]; omega)))))).mono ?_
          rintro e w' ⟨rfl, hb⟩
          obtain ⟨y3, rfl⟩ := ext_of hb
          clear hb
          go_wp2_with fail
          refine (HHAS.out _ (HS60.out.stay (by repeat (first | exact Below.refl _ _ | apply bal | apply bext | apply bdr | apply bdrN | (refine bst ?_ _ (by simp only [ext_size, size_alloc, size_set]; omega)))))).mono ?_
          rintro e w' ⟨rfl, hb⟩
          obtain ⟨y7, rfl⟩ := ext_of hb
          clear hb
          go_wp2_with fail
          refine (HNB.out _ (by repeat (first | exact Below.refl _ _ | apply bal | apply bext | apply bdr | apply bdrN | (refine bst ?_ _ (by simp only [ext_size, size_alloc, size_set]; omega)))) HB2.out).mono ?_
          rintro e w' ⟨rfl, hb⟩
          obtain ⟨y5, rfl⟩ := ext_of hb
          clear hb
          go_wp2_with fail
          refine (HNC.out _ (by repeat (first | exact Below.refl _ _ | apply bal | apply bext | apply bdr | apply bdrN | (refine bst ?_ _ (by simp only [ext_size, size_alloc, size_set]; omega)))) HC2.out).mono ?_
          rintro e w' ⟨rfl, hb⟩
          obtain ⟨y6, rfl⟩ := ext_of hb
          clear hb
          go_wp2_with fail
          go_ret
          exact ⟨ret_bool (by first | rfl | simp [*]), HB5.out.trans (bels (Below.refl _ _) (by have := HB5.out.size; omega) (by repeat (first | exact Below.refl _ _ | apply bal | apply bext | apply bdr | apply bdrN | (refine bst ?_ _ (by simp only [ext_size, size_alloc, size_set]; omega)))))⟩
        · rw [← QeB.out] at c3
          rw [← QB.out] at c6
          obtain ⟨l10, l130, hsz⟩ := rightD_sizes QR.out.symm
          have hj128 : (D[j]).size = 128 := hsz _ (List.getElem_mem hj)
          have HWR2 := Lib.hid fun W (h : SlAt W (Value.slice (some ⟨b, o, none⟩) D.length c0) 1 D.length (strs D)) => refWrite_to _ D j t W h hj t1 hj128 (by omega)
          rw [← c6] at HWR2
          have t2 : ((t.size : Int) != 128) = false := by simp; omega
          subst c3
          clear c6
          go_wp2_with fail
          refine (HRR.out _ (HS60.out.stay (by repeat (first | exact Below.refl _ _ | apply bal | apply bext | apply bdr | apply bdrN | (refine bst ?_ _ (by simp only [ext_size, size_alloc, size_set]; omega)))))).mono ?_
          rintro e w' ⟨rfl, hb⟩
          obtain ⟨y3, rfl⟩ := ext_of hb
          clear hb
          go_wp2_with fail
          refine (HHAS.out _ (HS60.out.stay (by repeat (first | exact Below.refl _ _ | apply bal | apply bext | apply bdr | apply bdrN | (refine bst ?_ _ (by simp only [ext_size, size_alloc, size_set]; omega)))))).mono ?_
          rintro e w' ⟨rfl, hb⟩
          obtain ⟨y7, rfl⟩ := ext_of hb
          clear hb
          go_upto_region 23 with fail
          go_cut [166] (fun s wx => s = .bool false ∧ Grew W5 wx)
          case first => as_aux_lemma =>
            refine join_ext (fun y8 => join_ext (fun y9 => ?_))
            go_region_held3 (fun W => W.cell? ⟨w0.heap.size + more x1 + 1 + more x2 + more x3, 0, none⟩ = some (.slice a3 B.length c3) ∧ W.cell? ⟨w.heap.size, 0, none⟩ = some (.slice (some ⟨b, o, none⟩) D.length c0)) ((refine ⟨?_, ?_⟩ <;> (simp only [drew_cell, drew_size, ext_cell, ext_size]; (repeat rw [if_pos (by omega)]); assumption)))
              (first
                | (go_at_call 40; refine (HWR2.out _ (HS60.out.stay (by repeat (first | exact Below.refl _ _ | apply bal | apply bext | apply bdr | apply bdrN | (refine bst ?_ _ (by simp only [ext_size, size_alloc, size_set]; omega)))))).mono ?_; rintro e w7 ⟨v7, rfl, hs7, hf7, hb7⟩; obtain ⟨a7, c7, rfl, hn7, hm7⟩ := hs7.form; have HS7 := Lib.hid hs7; clear hs7; obtain ⟨x7, rfl⟩ := ext_of hb7; clear hb7)
                | (go_at_call 37; refine (refSame_true _ _ B B _ (HS63.out.stay (by repeat (first | exact Below.refl _ _ | apply bal | apply bext | apply bdr | apply bdrN | (refine bst ?_ _ (by simp only [ext_size, size_alloc, size_set]; omega))))) (HS7.out.stay (by repeat (first | exact Below.refl _ _ | apply bal | apply bext | apply bdr | apply bdrN | (refine bst ?_ _ (by simp only [ext_size, size_alloc, size_set]; omega))))) rfl).mono ?_; rintro e w8 ⟨rfl, hb8⟩; obtain ⟨x8, rfl⟩ := ext_of hb8; clear hb8))
            all_goals
              go_wp2_with fail
              go_meet
              exact ⟨rfl, Grew.of_bel (by repeat (first | exact Below.refl _ _ | apply bal | apply bext | apply bdr | apply bdrN | (refine bst ?_ _ (by simp only [ext_size, size_alloc, size_set]; omega))))⟩
          case rest =>
          obtain ⟨rfl, y10, rfl⟩ := hcut
          rcases hk with ⟨k1, c4, c7⟩ | ⟨mm, hmm, k1, c4, c7⟩
          all_goals
            rw [← QeC.out] at c4
            rw [← QC.out] at c7
            subst c4
            first | subst hmm | skip
          · as_aux_lemma =>
            have HC2 := Lib.hid c7
            clear c7 t1 hj128 hsz
            rcases k1 with k1 | k1
            all_goals
              first | (have k2 : ¬ k < 0 := by omega) | skip
              go_wp2_with fail
              refine (HNC.out _ (by repeat (first | exact Below.refl _ _ | apply bal | apply bext | apply bdr | apply bdrN | (refine bst ?_ _ (by simp only [ext_size, size_alloc, size_set]; omega)))) HC2.out).mono ?_
              rintro e w' ⟨rfl, hb⟩
              obtain ⟨y6, rfl⟩ := ext_of hb
              clear hb
              go_wp2_with fail
              go_ret
              exact ⟨ret_bool (by first | rfl | simp [*]), HB5.out.trans (bels (Below.refl _ _) (by have := HB5.out.size; omega) (by repeat (first | exact Below.refl _ _ | apply bal | apply bext | apply bdr | apply bdrN | (refine bst ?_ _ (by simp only [ext_size, size_alloc, size_set]; omega)))))⟩
          · as_aux_lemma =>
            have HTR2 := Lib.hid fun W (h : SlAt W (Value.slice (some ⟨b, o, none⟩) D.length c0) 1 D.length (strs D)) => refTear_to _ D j t mm W h hj (by omega) (by omega) (by omega) (by omega) (by omega)
            rw [← c7] at HTR2
            have k3 : ¬ ((mm : Int) < 0) := by omega
            have k4 : ¬ (128 < (mm : Int)) := by omega
            clear c7 t1 hj128 hsz
            go_wp2_with fail
            go_region_held3 (fun W => W.cell? ⟨w0.heap.size + more x1 + 1 + more x2 + more x3 + 1 + more x4, 0, none⟩ = some (.slice a4 C.length c4) ∧ W.cell? ⟨w.heap.size, 0, none⟩ = some (.slice (some ⟨b, o, none⟩) D.length c0)) ((refine ⟨?_, ?_⟩ <;> (simp only [drew_cell, drew_size, ext_cell, ext_size]; (repeat rw [if_pos (by omega)]); assumption)))
              (first
                | (go_at_call 41; refine (HTR2.out _ (HS60.out.stay (by repeat (first | exact Below.refl _ _ | apply bal | apply bext | apply bdr | apply bdrN | (refine bst ?_ _ (by simp only [ext_size, size_alloc, size_set]; omega)))))).mono ?_; rintro e w7 ⟨v7, rfl, hs7, hf7, hb7⟩; obtain ⟨a7, c7, rfl, hn7, hm7⟩ := hs7.form; have HS7 := Lib.hid hs7; clear hs7; obtain ⟨x7, rfl⟩ := ext_of hb7; clear hb7)
                | (go_at_call 37; refine (refSame_true _ _ C C _ (HS64.out.stay (by repeat (first | exact Below.refl _ _ | apply bal | apply bext | apply bdr | apply bdrN | (refine bst ?_ _ (by simp only [ext_size, size_alloc, size_set]; omega))))) (HS7.out.stay (by repeat (first | exact Below.refl _ _ | apply bal | apply bext | apply bdr | apply bdrN | (refine bst ?_ _ (by simp only [ext_size, size_alloc, size_set]; omega))))) rfl).mono ?_; rintro e w8 ⟨rfl, hb8⟩; obtain ⟨x8, rfl⟩ := ext_of hb8; clear hb8))
            all_goals
              go_wp2_with fail
              go_ret
              exact ⟨ret_bool (by first | rfl | simp [*]), HB5.out.trans (bels (Below.refl _ _) (by have := HB5.out.size; omega) (by repeat (first | exact Below.refl _ _ | apply bal | apply bext | apply bdr | apply bdrN | (refine bst ?_ _ (by simp only [ext_size, size_alloc, size_set]; omega)))))⟩
theorem SectorTells_walk (a0 : Int) (v1 : Value) (a1 : Value × List ByteArray) (a2 : Int) (a3 : ByteArray) (a4 : Int) (w : World) (h0 : (Lit.int .i64 a0).wf = true) (h1 : v1 = .agg #[a1.1] ∧ SlAt w a1.1 1 a1.2.length (strs a1.2)) (h2 : (Lit.int .i64 a2).wf = true) (h3 : a3.size ≤ maxLen) (h4 : (Lit.int .i64 a4).wf = true) :
    Calls Try.prog 8 #[.int .i64 a0, v1, .int .i64 a2, .string a3, .int .i64 a4] w fun e w' => e = .returned (.bool true) ∧ Below w.heap.size w w' := by
  obtain ⟨rfl, hS⟩ := h1
  exact sectorTells_core a0 a2 a4 a1.1 a1.2 _ a3 _ w hS h3 (Lib.hid rfl) (Lib.hid rfl)
end Go.Proofs.Ytpccdlpkaflioaa
