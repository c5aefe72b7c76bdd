/- Contracts of label.Matcher, kinds, match, All. -/
import Derived.Test.YtkhocnaocndkjaaC10j
import Derived.Test.YtkhocnaocndkjaaShelf
import Derived.Laws.EntriesVeiled
set_option linter.unusedVariables false
set_option linter.unusedSimpArgs false
namespace Go.Proofs.Ytkhocnaocndkjaa
open Go.RowKit
attribute [local go_sem high] ext_size ext_cell ext_frozen alloc_cell alloc_frozen
attribute [local go_sem] lt_more lt_suc drew_size drew_cell
theorem empty_dec (s : ByteArray) : s.toList.isEmpty = decide (s.size = 0) := by
  have := nonempty_dec s
  cases h : s.toList.isEmpty
  · rw [h] at this
    have h1 : 1 ≤ s.size := by simpa using this.symm
    rw [decide_eq_false (by omega)]
  · rw [h] at this
    have h1 : ¬ 1 ≤ s.size := by simpa using this.symm
    rw [decide_eq_true (by omega)]
def MatsOk (xs : List Mat) : Prop := ∀ x ∈ xs, x.name.size ≤ maxLen ∧ x.value.size ≤ maxLen
theorem matcher_any (x : Mat) (w : World) (h1 : x.name.size ≤ maxLen) (h2 : x.value.size ≤ maxLen) :
    Calls Try.prog 28 #[matV x] w fun e w' => e = .returned (.bool (matB x)) ∧ Below w.heap.size w w' := by
  obtain ⟨k, n, v⟩ := x
  have HN := Lib.hid fun W => isName_any n W h1
  have HV := Lib.hid fun W => isValue_any v W h2
  unfold matV matB
  simp only at h1 h2 ⊢
  obtain ⟨b1, hb1⟩ : ∃ b, b = nameB n := ⟨_, rfl⟩
  obtain ⟨b2, hb2⟩ : ∃ b, b = valB v := ⟨_, rfl⟩
  rw [← hb1] at HN ⊢
  rw [← hb2] at HV ⊢
  clear hb1 hb2
  have he := empty_dec v
  by_cases c1 : 0 ≤ k ∧ k ≤ 3
  · obtain ⟨c1, c2⟩ := c1
    cases b1
    case false =>
      go_enter Try.func28, Try.ntmps28
      go_wp2_with fail
      refine (HN.out _).mono ?_
      rintro e w' ⟨rfl, hb⟩
      obtain ⟨y1, rfl⟩ := ext_of hb
      clear hb
      go_wp2_with fail
      go_ret
      exact ⟨ret_bool (by simp [c1, c2]), (by repeat (first | exact Below.refl _ _ | apply bal | apply bext | apply bdr | apply bdrN | (refine bst ?_ _ (by simp only [ext_size, size_alloc, size_set]; omega))))⟩
    case true =>
      cases b2
      case false =>
        go_enter Try.func28, Try.ntmps28
        go_wp2_with fail
        refine (HN.out _).mono ?_
        rintro e w' ⟨rfl, hb⟩
        obtain ⟨y1, rfl⟩ := ext_of hb
        clear hb
        go_wp2_with fail
        refine (HV.out _).mono ?_
        rintro e w' ⟨rfl, hb⟩
        obtain ⟨y2, rfl⟩ := ext_of hb
        clear hb
        go_wp2_with fail
        go_ret
        exact ⟨ret_bool (by simp [c1, c2]), (by repeat (first | exact Below.refl _ _ | apply bal | apply bext | apply bdr | apply bdrN | (refine bst ?_ _ (by simp only [ext_size, size_alloc, size_set]; omega))))⟩
      case true =>
        by_cases c3 : k = 3
        · subst c3
          have HE := Lib.hid he
          clear he
          go_enter Try.func28, Try.ntmps28
          go_wp2_with fail
          refine (HN.out _).mono ?_
          rintro e w' ⟨rfl, hb⟩
          obtain ⟨y1, rfl⟩ := ext_of hb
          clear hb
          go_wp2_with fail
          refine (HV.out _).mono ?_
          rintro e w' ⟨rfl, hb⟩
          obtain ⟨y2, rfl⟩ := ext_of hb
          clear hb
          go_wp2_with fail
          all_goals
            go_ret
            refine ⟨ret_bool ?_, (by repeat (first | exact Below.refl _ _ | apply bal | apply bext | apply bdr | apply bdrN | (refine bst ?_ _ (by simp only [ext_size, size_alloc, size_set]; omega))))⟩
            have := HE.out
            simp_all
        · have c4 : (k != 3) = true := by simpa using c3
          clear he
          go_enter Try.func28, Try.ntmps28
          go_wp2_with fail
          refine (HN.out _).mono ?_
          rintro e w' ⟨rfl, hb⟩
          obtain ⟨y1, rfl⟩ := ext_of hb
          clear hb
          go_wp2_with fail
          refine (HV.out _).mono ?_
          rintro e w' ⟨rfl, hb⟩
          obtain ⟨y2, rfl⟩ := ext_of hb
          clear hb
          go_wp2_with fail
          go_ret
          exact ⟨ret_bool (by simp [c1, c2, c3]), (by repeat (first | exact Below.refl _ _ | apply bal | apply bext | apply bdr | apply bdrN | (refine bst ?_ _ (by simp only [ext_size, size_alloc, size_set]; omega))))⟩
  · clear he
    rcases (show k < 0 ∨ 3 < k by omega) with c2 | c2
    all_goals
      go_enter Try.func28, Try.ntmps28
      go_wp2_with fail
      all_goals
        go_ret
        refine ⟨ret_bool ?_, (by repeat (first | exact Below.refl _ _ | apply bal | apply bext | apply bdr | apply bdrN | (refine bst ?_ _ (by simp only [ext_size, size_alloc, size_set]; omega))))⟩
        first
          | (rw [decide_eq_false (p := 0 ≤ k) (by omega)]; rfl)
          | (rw [decide_eq_false (p := k ≤ 3) (by omega)]; simp)
def kindsV : Value := .agg #[.func (.func 106) #[] #[], .bool false, .func (.func 107) #[] #[], .bool true, .func (.func 108) #[] #[], .bool false, .func (.func 109) #[] #[], .bool false]
theorem kinds_any (w : World) :
    Calls Try.prog 88 #[] w fun e w' => e = .returned kindsV ∧ Below w.heap.size w w' := by
  go_enter Try.func88, Try.ntmps88
  go_wp2_with fail
  refine bodyPost_ret (v := kindsV) ?_ rfl ⟨rfl, (by repeat (first | exact Below.refl _ _ | apply bal | apply bext | apply bdr | apply bdrN | (refine bst ?_ _ (by simp only [ext_size, size_alloc, size_set]; omega))))⟩
  simp [results, Try.results88, go_sem, kindsV]
theorem match1_any (x : Lab) (g : Nat) (nm : ByteArray) (w : World) (hc : w.cell? ⟨g, 1, none⟩ = some (.string nm)) (hg : g < w.heap.size) :
    Calls Try.prog 90 #[labV x, .pointer (some ⟨g, 0, none⟩)] w fun e w' => e = .returned (.bool (x.name.toList == nm.toList)) ∧ Below w.heap.size w w' := by
  obtain ⟨n, v⟩ := x
  unfold labV
  go_enter Try.func90, Try.ntmps90
  go_wp2_with fail
  go_ret
  exact ⟨rfl, (by repeat (first | exact Below.refl _ _ | apply bal | apply bext | apply bdr | apply bdrN | (refine bst ?_ _ (by simp only [ext_size, size_alloc, size_set]; omega))))⟩
theorem of0_any (s t : ByteArray) (w : World) : Calls Try.prog 106 #[.string s, .string t] w fun e w' => e = .returned (.bool (ofB 0 s t)) ∧ w = w' := by
  go_enter Try.func106, Try.ntmps106
  go_wp2_with fail
  go_ret
  exact ⟨rfl, rfl⟩
theorem of1_any (s t : ByteArray) (w : World) : Calls Try.prog 107 #[.string s, .string t] w fun e w' => e = .returned (.bool (ofB 1 s t)) ∧ w = w' := by
  go_enter Try.func107, Try.ntmps107
  go_wp2_with fail
  go_ret
  exact ⟨rfl, rfl⟩
theorem of2_any (s t : ByteArray) (w : World) : Calls Try.prog 108 #[.string s, .string t] w fun e w' => e = .returned (.bool (ofB 2 s t)) ∧ w = w' :=
  (Try.strings_HasPrefix s t w).mono fun e w' ⟨h1, h2⟩ => ⟨h1, h2.symm⟩
theorem of3_any (s t : ByteArray) (w : World) : Calls Try.prog 109 #[.string s, .string t] w fun e w' => e = .returned (.bool (ofB 3 s t)) ∧ w = w' := by
  go_enter Try.func109, Try.ntmps109
  go_wp2_with fail
  go_ret
  exact ⟨rfl, rfl⟩
theorem kind_of (k : Int) (hk : 0 ≤ k ∧ k ≤ 3) : ∃ (F : FuncId) (b : Bool), (∀ W, (Instr.index 117 kindsV (.int .i64 k)).run Try.prog W = .ok (.agg #[.func (.func F) #[] #[], .bool b]) W) ∧ b = decide (k = 1) ∧ Enters Try.prog F ∧
    ∀ s t W, Calls Try.prog F #[.string s, .string t] W fun e w' => e = .returned (.bool (ofB k s t)) ∧ Below W.heap.size W w' := by
  rcases (show k = 0 ∨ k = 1 ∨ k = 2 ∨ k = 3 by omega) with rfl | rfl | rfl | rfl
  · exact ⟨106, false, fun _ => by kernel_rfl, rfl, enters_of Try.func106 (by kernel_rfl) rfl, fun s t W => same_bel (of0_any s t W)⟩
  · exact ⟨107, true, fun _ => by kernel_rfl, rfl, enters_of Try.func107 (by kernel_rfl) rfl, fun s t W => same_bel (of1_any s t W)⟩
  · exact ⟨108, false, fun _ => by kernel_rfl, rfl, enters_of Try.func108 (by kernel_rfl) rfl, fun s t W => same_bel (of2_any s t W)⟩
  · exact ⟨109, false, fun _ => by kernel_rfl, rfl, enters_of Try.func109 (by kernel_rfl) rfl, fun s t W => same_bel (of3_any s t W)⟩
set_option maxHeartbeats 1000000 in
theorem match_any (m : Mat) (v : Value) (xs : List Lab) (w : World) (hk : 0 ≤ m.kind ∧ m.kind ≤ 3) (hS : SlAt w v 2 xs.length (labsC xs)) :
    Calls Try.prog 62 #[matV m, v] w fun e w' => e = .returned (.bool (matchB m xs)) ∧ Below w.heap.size w w' := by
  obtain ⟨a, c, rfl, hnc, hcm⟩ := hS.form
  have hlen := hS.le
  unfold maxLen at hlen
  have HS := Lib.hid hS
  have hen : Enters Try.prog 90 := enters_of Try.func90 (by kernel_rfl) rfl
  have HIX := Lib.hid fun (W : World) (g : Nat) (hb : SlAt W (Value.slice a xs.length c) 2 xs.length (labsC xs)) (hc : W.cell? ⟨g, 1, none⟩ = some (.string m.name)) (hg : g < W.heap.size) =>
    indexFuncL (.slice a xs.length c) xs 90 #[.pointer (some ⟨g, 0, none⟩)] (isOf m) W hb (fun x hx W' hW' => match1_any x g m.name W' ((hW'.cell (p := ⟨g, 1, none⟩) hg).trans hc) (Nat.lt_of_lt_of_le hg hW'.size)) hen
  have HK := Lib.hid kinds_any
  obtain ⟨q, hq⟩ : ∃ q, q = idxOf (isOf m) xs := ⟨_, rfl⟩
  obtain ⟨r, hr⟩ : ∃ r, r = matchB m xs := ⟨_, rfl⟩
  have hcase := idx_find (isOf m) xs
  rw [← hr]
  unfold matchB at hr
  rw [← hq] at HIX hcase
  obtain ⟨k, n, u⟩ := m
  simp only at hk hr HIX hcase
  unfold matV
  have HC := Lib.hid hcase
  have HR := Lib.hid hr
  obtain ⟨F, bb, hidx, hbb, hF, hof⟩ := kind_of k hk
  unfold kindsV at HK hidx
  have HOF := Lib.hid hof
  have HBB := Lib.hid hbb
  have HEN := Lib.hid hF
  clear hS hen hq hr hcase hk hof hbb hF
  go_enter Try.func62, Try.ntmps62
  go_upto_region 1 with fail
  go_cut [5] (fun s5 wx => ∃ g, s5 = .pointer (some ⟨g, 0, none⟩) ∧ wx.cell? ⟨g, 0, none⟩ = some (.func (.func F) #[] #[]) ∧ wx.cell? ⟨g, 1, none⟩ = some (.bool bb) ∧ wx.cell? ⟨w.heap.size, 0, none⟩ = some (.int .i64 k) ∧ wx.cell? ⟨w.heap.size, 1, none⟩ = some (.string n) ∧ wx.cell? ⟨w.heap.size, 2, none⟩ = some (.string u) ∧ w.heap.size < g ∧ g < wx.heap.size ∧ Below w.heap.size w wx)
  case first =>
    go_region_law (go_simp; go_at_call 88; refine (HK.out _).mono ?_; rintro e w1 ⟨rfl, hb1⟩; obtain ⟨x1, rfl⟩ := ext_of hb1; clear hb1)
    all_goals
      go_wp2_with fail
      go_meet
      refine ⟨_, rfl, ?_, ?_, ?_, ?_, ?_, ?_, ?_, (by repeat (first | exact Below.refl _ _ | apply bal | apply bext | apply bdr | apply bdrN | (refine bst ?_ _ (by simp only [ext_size, size_alloc, size_set]; omega))))⟩
      all_goals
        try simp only [ext_cell, alloc_cell, ext_size, size_alloc, drew_cell, drew_size, set_cell, size_set]
        (repeat (first | rw [if_pos (by omega)] | rw [if_neg (by omega)]))
        first | rfl | omega | (simp; done) | trace_state
  case rest =>
  obtain ⟨g, rfl, e0, e1, e2, e3, e4, z1, z2, hb⟩ := hcut
  have HB := Lib.hid hb
  have HS2 := Lib.hid (HS.out.stay hb)
  clear hb hidx
  have z0 : w.heap.size < wc.heap.size := by omega
  go_wp2_with fail
  refine (HIX.out _ _ HS2.out e3 z0).mono ?_
  rintro e w1 ⟨rfl, hb1⟩
  obtain ⟨x1, rfl⟩ := ext_of hb1
  clear hb1
  rcases HC.out with ⟨h1, h2⟩ | ⟨i, hi, h1, h2⟩
  · have h3 := HR.out
    rw [h2] at h3
    have H3 := Lib.hid h3
    subst h1
    clear h2 h3
    go_wp2_with fail
    go_ret
    exact ⟨ret_bool (by rw [H3.out]; exact HBB.out), HB.out.trans (bels (Below.refl _ _) (by omega) (by repeat (first | exact Below.refl _ _ | apply bal | apply bext | apply bdr | apply bdrN | (refine bst ?_ _ (by simp only [ext_size, size_alloc, size_set]; omega)))))⟩
  · have h3 := HR.out
    rw [h2] at h3
    have H3 := Lib.hid h3
    subst h1
    obtain ⟨b, o, rfl, hbl, hcell⟩ := HS2.out.at (by omega)
    have g0 := labs_get xs i hi
    have k1 : wc.cell? ⟨b, o + i * 2 + 1, none⟩ = some (.string xs[i].value) := by rw [Nat.add_assoc]; exact hcell _ _ g0.2
    have he := HEN.out #[.string xs[i].value, .string u]
    have i1 : (i : Int) < (xs.length : Int) := by omega
    clear h2 h3 hcell g0
    go_wp2_with fail
    refine wp_region_ext (by kernel_rfl) (by kernel_rfl) ?_
    repeat (go_big_quiet_step ((first | (exact Calls.grew (HOF.out _ _ _)))))
    refine wpQuiet_nil ?_
    intro _ hw'
    obtain ⟨y1, rfl⟩ := hw'
    go_wp2_with fail
    go_ret
    exact ⟨ret_bool H3.out.symm, HB.out.trans (bels (Below.refl _ _) (by omega) (by repeat (first | exact Below.refl _ _ | apply bal | apply bext | apply bdr | apply bdrN | (refine bst ?_ _ (by simp only [ext_size, size_alloc, size_set]; omega)))))⟩
end Go.Proofs.Ytkhocnaocndkjaa
