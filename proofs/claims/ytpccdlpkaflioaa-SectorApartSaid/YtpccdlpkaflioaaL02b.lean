/- The walk of SectorApart. -/
import Derived.Test.YtpccdlpkaflioaaL02a
import Derived.Test.YtpccdlpkaflioaaL03d
set_option linter.unusedVariables false
set_option linter.unusedSimpArgs false
namespace Go.Proofs.Ytpccdlpkaflioaa
open Go.RowKit
attribute [local go_sem high] ext_size ext_cell ext_frozen alloc_cell alloc_frozen
/-! ### plain -/
theorem over_over (x t : ByteArray) (k m : Nat) (hx : x.size = 128) (ht : t.size = 128) (hk : k ≤ m) (hm : m ≤ 128) : over (over x t k) t m = over x t m := by
  unfold over
  apply ByteArray.ext
  apply Array.toList_inj.1
  simp only [List.toList_toArray]
  have hxl := len_data x
  have htl := len_data t
  have e : (t.data.toList.take k ++ x.data.toList.drop k).drop m = x.data.toList.drop m := by
    rw [List.drop_append, List.drop_drop]
    have h1 : (t.data.toList.take k).drop m = [] := List.drop_eq_nil_of_le (by rw [List.length_take]; omega)
    rw [h1, List.nil_append]
    congr 1
    rw [List.length_take]
    omega
  rw [e]
theorem set_self {D : List ByteArray} {j : Nat} (h : j < D.length) : D.set j D[j] = D := by
  apply List.ext_getElem
  · simp
  · intro i h1 h2
    rw [List.getElem_set]
    split
    · subst_vars; rfl
    · rfl
theorem tearE_ok {D : List ByteArray} {j : Nat} {t : ByteArray} (hr : rightD D = true) (hj : j < D.length) (ht : t.size = 128) (k : Nat) (hk : k ≤ 128) : tearE D j t k = 0 ∧ tearL D j t k = D.set j (over D[j] t k) ∧ mayD D j = 0 ∧ readD D j = D[j] := by
  have hm : mayD D j = 0 := mayD_in hr (by omega) (by omega)
  have e : tearE D j t k = 0 := by
    unfold tearE
    rw [if_neg (by simp [hm]), if_neg (by simp [ht]), if_neg (by omega)]
  have hg : D.getD j ByteArray.empty = D[j] := by rw [List.getD_eq_getElem?_getD, List.getElem?_eq_getElem hj]; rfl
  refine ⟨e, ?_, hm, ?_⟩
  · unfold tearL; rw [if_pos e, Int.toNat_natCast, Int.toNat_natCast, hg]
  · unfold readD; rw [if_pos hm, Int.toNat_natCast, hg]
theorem rightD_set {D : List ByteArray} {j : Nat} {t : ByteArray} (hr : rightD D = true) (ht : t.size = 128) : rightD (D.set j t) = true := by
  obtain ⟨h1, h2, h3⟩ := rightD_sizes hr
  unfold rightD
  rw [List.length_set, decide_eq_true h1, decide_eq_true h2]
  have : (D.set j t).any badSize = false := by
    rw [List.any_eq_false]
    intro x hx
    have : x.size = 128 := by
      rcases List.mem_or_eq_of_mem_set hx with h | h
      · exact h3 x h
      · rw [h]; exact ht
    simp [badSize, this]
  rw [this]
  rfl
theorem may_set {D : List ByteArray} {j : Nat} {t : ByteArray} (hr : rightD D = true) (ht : t.size = 128) (i : Int) : mayD (D.set j t) i = mayD D i := by
  unfold mayD
  rw [rightD_set hr ht, hr, List.length_set]
theorem read_set {D : List ByteArray} {j : Nat} {t : ByteArray} (hr : rightD D = true) (ht : t.size = 128) (i : Int) (hne : i ≠ j) : readD (D.set j t) i = readD D i := by
  unfold readD
  rw [may_set hr ht]
  split
  · rename_i h
    obtain ⟨_, h0, _⟩ := mayD_zero h
    obtain ⟨n, rfl⟩ := Int.eq_ofNat_of_zero_le h0
    rw [Int.toNat_natCast, List.getD_eq_getElem?_getD, List.getD_eq_getElem?_getD, List.getElem?_set_ne (by omega)]
  · rfl
set_option maxRecDepth 100000 in
set_option maxHeartbeats 8000000 in
theorem sectorApart_core (i other k m : Int) (v : Value) (xs D : List ByteArray) (text t : ByteArray) (w : World) (hS : SlAt w v 1 xs.length (strs xs)) (htm : text.size ≤ maxLen) (HD : Hid (fewD xs = D)) (HT : Hid (t = wholeB text)) :
    Calls Try.prog 9 #[.agg #[v], .int .i64 i, .int .i64 other, .string text, .int .i64 k, .int .i64 m] w fun e w' => e = .returned (.bool true) ∧ Below w.heap.size w w' := by
  obtain ⟨a, c, rfl, hnc, hcm⟩ := hS.form
  have HF := Lib.hid fun W (h : SlAt W (Value.slice a xs.length c) 1 xs.length (strs xs)) => few02_any _ xs W h
  rw [HD.out] at HF
  have HS := Lib.hid hS
  have ht128 : t.size = 128 := by rw [HT.out]; exact wholeB_size _
  have HT128 := Lib.hid ht128
  obtain ⟨k0, k1⟩ := kN_range k
  obtain ⟨m0, m1⟩ := kN_range m
  have ek := kN_walk k
  have em := kN_walk m
  obtain ⟨kk, hkk⟩ : ∃ q, q = kN k := ⟨_, rfl⟩
  obtain ⟨mm, hmm⟩ : ∃ q, q = kN m := ⟨_, rfl⟩
  rw [← hkk] at ek k0 k1
  rw [← hmm] at em m0 m1
  obtain ⟨lo, hlo⟩ : ∃ q : Nat, (q : Int) = min kk mm := ⟨(min kk mm).toNat, by omega⟩
  obtain ⟨hi, hhi⟩ : ∃ q : Nat, (q : Int) = max kk mm := ⟨(max kk mm).toNat, by omega⟩
  have hlh : lo ≤ hi := by omega
  have hh : hi ≤ 128 := by omega
  have HLO := Lib.hid hlo
  have HHI := Lib.hid hhi
  clear hS ht128 hkk hmm hlo hhi
  go_enter Try.func9, Try.ntmps9
  go_wp2_with fail
  refine (HF.out _ (HS.out.stay (by repeat (first | exact Below.refl _ _ | apply bal | apply bext | apply bdr | apply bdrN | (refine bst ?_ _ (by simp only [ext_size, size_alloc, size_set]; omega)))))).mono ?_
  rintro e w' ⟨v0, rfl, hs0, hf0, hb0⟩
  obtain ⟨a0, c0, rfl, hn0, hm0⟩ := hs0.form
  have HS0 := Lib.hid hs0
  obtain ⟨x0, rfl⟩ := ext_of hb0
  clear hs0 hb0
  go_wp2_with fail
  refine (same_bel (whole02_to text t _ htm HT)).mono ?_
  rintro e w' ⟨rfl, hb⟩
  obtain ⟨y0, rfl⟩ := ext_of hb
  clear hb
  go_upto_if 45 with fail
  clear ek em
  refine name_world (fun W5 hW5 => ?_)
  go_cut [4, 5] (fun s4 s5 wx => s4 = .int .i64 lo ∧ s5 = .int .i64 hi ∧ wx = W5)
  case first =>
    have h1 := HLO.out
    have h2 := HHI.out
    by_cases c : mm < kk
    · rw [Int.min_eq_right (by omega)] at h1
      rw [Int.max_eq_left (by omega)] at h2
      clear hW5
      go_wp2_with fail
      go_meet
      exact ⟨by rw [h1], by rw [h2], rfl⟩
    · rw [Int.min_eq_left (by omega)] at h1
      rw [Int.max_eq_right (by omega)] at h2
      clear hW5
      go_wp2_with fail
      go_meet
      exact ⟨by rw [h1], by rw [h2], rfl⟩
  case rest =>
  obtain ⟨rfl, rfl, rfl⟩ := hcut
  have z5 : wc.heap.size = w.heap.size + 1 + more x0 + more y0 := by rw [hW5]; simp only [ext_size, size_alloc, size_set]
  have e6 : wc.cell? ⟨w.heap.size, 0, none⟩ = some (.slice a0 D.length c0) := by
    rw [hW5]
    exact cell_set_same (by simp only [ext_cell, ext_size, alloc_cell, size_alloc]; (repeat (first | rw [if_pos (by omega)] | rw [if_neg (by omega)])); rfl) _
  have HS6 := Lib.hid (show SlAt wc (.slice a0 D.length c0) 1 D.length (strs D) by
    rw [hW5]
    exact (HS0.out.stay (by repeat (first | exact Below.refl _ _ | apply bal | apply bext | apply bdr | apply bdrN | (refine bst ?_ _ (by simp only [ext_size, size_alloc, size_set]; omega))))).store (fun b hb => by have := hf0 b hb; simp at this; show b ≠ w.heap.size; omega) _)
  have HB5 := Lib.hid (show Below w.heap.size w wc by rw [hW5]; exact (by repeat (first | exact Below.refl _ _ | apply bal | apply bext | apply bdr | apply bdrN | (refine bst ?_ _ (by simp only [ext_size, size_alloc, size_set]; omega)))))
  have zw : w.heap.size < wc.heap.size := by omega
  clear hW5 z5 HS HS0 hf0 HF k0 k1 m0 m1 HLO HHI
  obtain ⟨E, hE⟩ : ∃ E, E = tearE D i t lo := ⟨_, rfl⟩
  obtain ⟨L, hL⟩ : ∃ L, L = tearL D i t lo := ⟨_, rfl⟩
  have HT1 := Lib.hid fun W (h : SlAt W (Value.slice a0 D.length c0) 1 D.length (strs D)) => tear_any _ D i t lo W h
  rw [← hE, ← hL] at HT1
  have HL := Lib.hid hL
  have HAL := Lib.hid alive02_any
  by_cases he : E = 0
  case neg =>
    have hne : (E != 0) = true := by simpa using he
    have hl0 : L.length = 0 := by rw [hL]; unfold tearL; rw [if_neg (by rw [← hE]; exact he)]; rfl
    clear hE hL he
    go_wp2_with fail
    refine (HT1.out _ (HS6.out.stay (by repeat (first | exact Below.refl _ _ | apply bal | apply bext | apply bdr | apply bdrN | (refine bst ?_ _ (by simp only [ext_size, size_alloc, size_set]; omega)))))).mono ?_
    rintro e w' ⟨v1, rfl, hs1, hf1, hb1⟩
    obtain ⟨a1, c1, rfl, hn1, hm1⟩ := hs1.form
    have HS1 := Lib.hid hs1
    obtain ⟨x1, rfl⟩ := ext_of hb1
    clear hs1 hb1
    go_wp2_with fail
    refine (HAL.out _).mono ?_
    rintro e w' ⟨rfl, hb⟩
    obtain ⟨y1, rfl⟩ := ext_of hb
    clear hb
    go_wp2_with fail
    go_ret
    exact ⟨ret_bool (by first | rfl | simp [*]), HB5.out.trans (bels (Below.refl _ _) (by have := HB5.out.size; omega) (by repeat (first | exact Below.refl _ _ | apply bal | apply bext | apply bdr | apply bdrN | (refine bst ?_ _ (by simp only [ext_size, size_alloc, size_set]; omega)))))⟩
  case pos =>
    subst he
    have ht := HT128.out
    rcases sector_cases D i t lo with ⟨c1, c2, c3, c4, _⟩ | ⟨c1, c1', c2, c3, c4, _⟩ | ⟨hr, c1', c2, j, cj, hj, c5, hrest⟩
    · rw [← hE] at c4; omega
    · rw [← hE] at c4; omega
    clear hrest c1' c2 c5
    subst cj
    obtain ⟨-, -, hsz⟩ := rightD_sizes hr
    obtain ⟨x, hx⟩ : ∃ x, x = D[j] := ⟨_, rfl⟩
    have hx128 : x.size = 128 := by rw [hx]; exact hsz _ (List.getElem_mem hj)
    have ho128 : ∀ q : Nat, q ≤ 128 → (over x t q).size = 128 := fun q hq => over_size x t q hx128 ht hq
    obtain ⟨-, p2, -, -⟩ := tearE_ok hr hj ht lo (by omega)
    obtain ⟨q1, q2, -⟩ := tearE_ok hr hj ht hi hh
    obtain ⟨r1, r2, -⟩ := tearE_ok hr hj ht 0 (by omega)
    obtain ⟨u1, u2, -⟩ := tearE_ok hr hj ht 128 (by omega)
    rw [← hx] at p2 q2 r2 u2
    rw [over_zero, hx, set_self hj] at r2
    rw [over_full _ _ hx128 ht] at u2
    rw [p2] at hL
    have hr1 : rightD L = true := by rw [hL]; exact rightD_set hr (ho128 lo (by omega))
    have hjl : j < L.length := by rw [hL, List.length_set]; exact hj
    obtain ⟨s1, s2, -⟩ := tearE_ok hr1 hjl ht hi hh
    have hLj : L[j] = over x t lo := by simp [hL]
    rw [hLj, over_over x t lo hi hx128 ht hlh hh, hL, List.set_set] at s2
    obtain ⟨Y, hY⟩ : ∃ Y, Y = D.set j t := ⟨_, rfl⟩
    obtain ⟨X, hX⟩ : ∃ X, X = D.set j (over x t hi) := ⟨_, rfl⟩
    have hrY : rightD Y = true := by rw [hY]; exact rightD_set hr ht
    have hjY : j < Y.length := by rw [hY, List.length_set]; exact hj
    obtain ⟨-, -, y3, y4⟩ := tearE_ok hrY hjY ht 0 (by omega)
    have hYj : Y[j] = t := by simp [hY]
    rw [hYj] at y4
    have hmay : ∀ q : Int, mayD L q = mayD D q := fun q => by rw [hL]; exact may_set hr (ho128 lo (by omega)) q
    have hrd : ∀ q : Int, q ≠ j → readD L q = readD D q := fun q hq => by rw [hL]; exact read_set hr (ho128 lo (by omega)) q hq
    rw [← hX] at q2
    rw [← hL, ← hX] at s2
    rw [← hY] at u2
    have HT2 := Lib.hid fun v W (h : SlAt W v 1 L.length (strs L)) => tear_any v L j t hi W h
    rw [s1, s2] at HT2
    have HT3 := Lib.hid fun v W (h : SlAt W v 1 D.length (strs D)) => tear_any v D j t hi W h
    rw [q1, q2] at HT3
    have HT4 := Lib.hid fun v W (h : SlAt W v 1 D.length (strs D)) => tear_any v D j t 0 W h
    rw [show ((0 : Int)) = ((0 : Nat) : Int) from rfl, r1, r2] at HT4
    have HT5 := Lib.hid fun v W (h : SlAt W v 1 D.length (strs D)) => tear_any v D j t 128 W h
    rw [show ((128 : Int)) = ((128 : Nat) : Int) from rfl, u1, u2] at HT5
    have HT6 := Lib.hid fun v W (h : SlAt W v 1 D.length (strs D)) => write_any v D j t W h
    rw [show ((128 : Int)) = ((128 : Nat) : Int) from rfl, u1, u2] at HT6
    have HT7 := Lib.hid fun v W (h : SlAt W v 1 Y.length (strs Y)) => read_any v Y j W h
    rw [y3, y4] at HT7
    obtain ⟨sx, hsx⟩ : ∃ q, q = readD D other := ⟨_, rfl⟩
    obtain ⟨ex, hex⟩ : ∃ q, q = mayD D other := ⟨_, rfl⟩
    obtain ⟨sy, hsy⟩ : ∃ q, q = readD L other := ⟨_, rfl⟩
    have HT8 := Lib.hid fun v W (h : SlAt W v 1 D.length (strs D)) => read_any v D other W h
    rw [← hsx, ← hex] at HT8
    have HT9 := Lib.hid fun v W (h : SlAt W v 1 L.length (strs L)) => read_any v L other W h
    rw [hmay, ← hex, ← hsy] at HT9
    have hlast : (other == (j : Int)) = true ∨ ((other == (j : Int)) = false ∧ (sx.toList == sy.toList) = true) := by
      by_cases c : other = j
      · exact .inl (by simpa using c)
      · exact .inr ⟨by simpa using c, by rw [hsx, hsy, hrd other c]; exact bytes_eq_self _⟩
    have htt := bytes_eq_self t
    clear hE hL hx hx128 ho128 hsz p2 q1 q2 r1 r2 u1 u2 hr1 hjl s1 s2 hLj hX hrY hjY y3 y4 hYj hmay hrd hsx hex hsy ht hY hr HL
    go_wp2_with fail
    refine (HT1.out _ (HS6.out.stay (by repeat (first | exact Below.refl _ _ | apply bal | apply bext | apply bdr | apply bdrN | (refine bst ?_ _ (by simp only [ext_size, size_alloc, size_set]; omega)))))).mono ?_
    rintro e w' ⟨v11, rfl, hs11, hf11, hb11⟩
    obtain ⟨a11, c11, rfl, hn11, hm11⟩ := hs11.form
    have HS11 := Lib.hid hs11
    obtain ⟨x11, rfl⟩ := ext_of hb11
    clear hs11 hb11
    go_wp2_with fail
    refine (HT2.out _ _ (HS11.out.stay (by repeat (first | exact Below.refl _ _ | apply bal | apply bext | apply bdr | apply bdrN | (refine bst ?_ _ (by simp only [ext_size, size_alloc, size_set]; omega)))))).mono ?_
    rintro e w' ⟨v12, rfl, hs12, hf12, hb12⟩
    obtain ⟨a12, c12, rfl, hn12, hm12⟩ := hs12.form
    have HS12 := Lib.hid hs12
    obtain ⟨x12, rfl⟩ := ext_of hb12
    clear hs12 hb12
    go_wp2_with fail
    refine (HT3.out _ _ (HS6.out.stay (by repeat (first | exact Below.refl _ _ | apply bal | apply bext | apply bdr | apply bdrN | (refine bst ?_ _ (by simp only [ext_size, size_alloc, size_set]; omega)))))).mono ?_
    rintro e w' ⟨v13, rfl, hs13, hf13, hb13⟩
    obtain ⟨a13, c13, rfl, hn13, hm13⟩ := hs13.form
    have HS13 := Lib.hid hs13
    obtain ⟨x13, rfl⟩ := ext_of hb13
    clear hs13 hb13
    go_wp2_with fail
    refine (HT4.out _ _ (HS6.out.stay (by repeat (first | exact Below.refl _ _ | apply bal | apply bext | apply bdr | apply bdrN | (refine bst ?_ _ (by simp only [ext_size, size_alloc, size_set]; omega)))))).mono ?_
    rintro e w' ⟨v14, rfl, hs14, hf14, hb14⟩
    obtain ⟨a14, c14, rfl, hn14, hm14⟩ := hs14.form
    have HS14 := Lib.hid hs14
    obtain ⟨x14, rfl⟩ := ext_of hb14
    clear hs14 hb14
    go_wp2_with fail
    refine (HT5.out _ _ (HS6.out.stay (by repeat (first | exact Below.refl _ _ | apply bal | apply bext | apply bdr | apply bdrN | (refine bst ?_ _ (by simp only [ext_size, size_alloc, size_set]; omega)))))).mono ?_
    rintro e w' ⟨v15, rfl, hs15, hf15, hb15⟩
    obtain ⟨a15, c15, rfl, hn15, hm15⟩ := hs15.form
    have HS15 := Lib.hid hs15
    obtain ⟨x15, rfl⟩ := ext_of hb15
    clear hs15 hb15
    go_wp2_with fail
    refine (HT6.out _ _ (HS6.out.stay (by repeat (first | exact Below.refl _ _ | apply bal | apply bext | apply bdr | apply bdrN | (refine bst ?_ _ (by simp only [ext_size, size_alloc, size_set]; omega)))))).mono ?_
    rintro e w' ⟨v16, rfl, hs16, hf16, hb16⟩
    obtain ⟨a16, c16, rfl, hn16, hm16⟩ := hs16.form
    have HS16 := Lib.hid hs16
    obtain ⟨x16, rfl⟩ := ext_of hb16
    clear hs16 hb16
    go_wp2_with fail
    refine (HT7.out _ _ (HS16.out.stay (by repeat (first | exact Below.refl _ _ | apply bal | apply bext | apply bdr | apply bdrN | (refine bst ?_ _ (by simp only [ext_size, size_alloc, size_set]; omega)))))).mono ?_
    rintro e w' ⟨rfl, hb⟩
    obtain ⟨y7, rfl⟩ := ext_of hb
    clear hb
    go_wp2_with fail
    refine (refSame_true _ _ X X _ (HS12.out.stay (by repeat (first | exact Below.refl _ _ | apply bal | apply bext | apply bdr | apply bdrN | (refine bst ?_ _ (by simp only [ext_size, size_alloc, size_set]; omega))))) (HS13.out.stay (by repeat (first | exact Below.refl _ _ | apply bal | apply bext | apply bdr | apply bdrN | (refine bst ?_ _ (by simp only [ext_size, size_alloc, size_set]; omega))))) rfl).mono ?_
    rintro e w' ⟨rfl, hb⟩
    obtain ⟨y8, rfl⟩ := ext_of hb
    clear hb
    go_wp2_with fail
    refine (refSame_true _ _ D D _ (HS14.out.stay (by repeat (first | exact Below.refl _ _ | apply bal | apply bext | apply bdr | apply bdrN | (refine bst ?_ _ (by simp only [ext_size, size_alloc, size_set]; omega))))) (HS6.out.stay (by repeat (first | exact Below.refl _ _ | apply bal | apply bext | apply bdr | apply bdrN | (refine bst ?_ _ (by simp only [ext_size, size_alloc, size_set]; omega))))) rfl).mono ?_
    rintro e w' ⟨rfl, hb⟩
    obtain ⟨y9, rfl⟩ := ext_of hb
    clear hb
    go_wp2_with fail
    refine (refSame_true _ _ Y Y _ (HS15.out.stay (by repeat (first | exact Below.refl _ _ | apply bal | apply bext | apply bdr | apply bdrN | (refine bst ?_ _ (by simp only [ext_size, size_alloc, size_set]; omega))))) (HS16.out.stay (by repeat (first | exact Below.refl _ _ | apply bal | apply bext | apply bdr | apply bdrN | (refine bst ?_ _ (by simp only [ext_size, size_alloc, size_set]; omega))))) rfl).mono ?_
    rintro e w' ⟨rfl, hb⟩
    obtain ⟨y10, rfl⟩ := ext_of hb
    clear hb
    go_wp2_with fail
    refine (HAL.out _).mono ?_
    rintro e w' ⟨rfl, hb⟩
    obtain ⟨y11, rfl⟩ := ext_of hb
    clear hb
    go_wp2_with fail
    refine (HT8.out _ _ (HS6.out.stay (by repeat (first | exact Below.refl _ _ | apply bal | apply bext | apply bdr | apply bdrN | (refine bst ?_ _ (by simp only [ext_size, size_alloc, size_set]; omega)))))).mono ?_
    rintro e w' ⟨rfl, hb⟩
    obtain ⟨y12, rfl⟩ := ext_of hb
    clear hb
    go_wp2_with fail
    refine (HT9.out _ _ (HS11.out.stay (by repeat (first | exact Below.refl _ _ | apply bal | apply bext | apply bdr | apply bdrN | (refine bst ?_ _ (by simp only [ext_size, size_alloc, size_set]; omega)))))).mono ?_
    rintro e w' ⟨rfl, hb⟩
    obtain ⟨y13, rfl⟩ := ext_of hb
    clear hb
    rcases hlast with l1 | ⟨l1, l2⟩
    all_goals
      go_wp2_with fail
      go_ret
      exact ⟨ret_bool (by first | rfl | simp [*]), HB5.out.trans (bels (Below.refl _ _) (by have := HB5.out.size; omega) (by repeat (first | exact Below.refl _ _ | apply bal | apply bext | apply bdr | apply bdrN | (refine bst ?_ _ (by simp only [ext_size, size_alloc, size_set]; omega)))))⟩
theorem SectorApart_walk (v0 : Value) (a0 : Value × List ByteArray) (a1 a2 : Int) (a3 : ByteArray) (a4 a5 : Int) (w : World) (h0 : v0 = .agg #[a0.1] ∧ SlAt w a0.1 1 a0.2.length (strs a0.2)) (h1 : (Lit.int .i64 a1).wf = true) (h2 : (Lit.int .i64 a2).wf = true) (h3 : a3.size ≤ maxLen) (h4 : (Lit.int .i64 a4).wf = true) (h5 : (Lit.int .i64 a5).wf = true) :
    Calls Try.prog 9 #[v0, .int .i64 a1, .int .i64 a2, .string a3, .int .i64 a4, .int .i64 a5] w fun e w' => e = .returned (.bool true) ∧ Below w.heap.size w w' := by
  obtain ⟨rfl, hS⟩ := h0
  exact sectorApart_core a1 a2 a4 a5 a0.1 a0.2 _ a3 _ w hS h3 (Lib.hid rfl) (Lib.hid rfl)
end Go.Proofs.Ytpccdlpkaflioaa
