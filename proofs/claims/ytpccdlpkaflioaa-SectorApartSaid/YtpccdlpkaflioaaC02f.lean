/- Contract of foghornref02.Same. -/
import Derived.Test.YtpccdlpkaflioaaC02e
import Derived.Test.YtpccdlpkaflioaaM05
set_option linter.unusedVariables false
set_option linter.unusedSimpArgs false
namespace Go.Proofs.Ytpccdlpkaflioaa
open Go.RowKit
theorem same_no {xs ys : List ByteArray} {k : Nat} (h1 : k < xs.length) (h2 : k < ys.length) (h : xs[k] ≠ ys[k]) : decide (xs = ys) = false := by
  apply decide_eq_false
  rintro rfl
  exact h rfl
theorem same_yes {xs ys : List ByteArray} (hl : xs.length = ys.length) (h : ∀ j (h1 : j < xs.length) (h2 : j < ys.length), xs[j] = ys[j]) : decide (xs = ys) = true :=
  decide_eq_true (List.ext_getElem hl h)
theorem refSame_any (v u : Value) (xs ys : List ByteArray) (w : World) (hS : SlAt w v 1 xs.length (strs xs)) (hT : SlAt w u 1 ys.length (strs ys)) :
    Calls Try.prog 37 #[.agg #[v], .agg #[u]] w fun e w' => e = .returned (.bool (decide (xs = ys))) ∧ Below w.heap.size w w' := by
  obtain ⟨a, c, rfl, hnc, hcm⟩ := hS.form
  obtain ⟨a2, c2, rfl, hnc2, hcm2⟩ := hT.form
  have hm := hS.le
  unfold maxLen at hm
  have HS := Lib.hid hS
  have HT := Lib.hid hT
  clear hS hT
  by_cases hl : xs.length = ys.length
  · obtain ⟨n, hxn⟩ : ∃ n, xs.length = n := ⟨_, rfl⟩
    have hyn : ys.length = n := by omega
    have HS1 : Hid (SlAt w (.slice a n c) 1 n (strs xs)) := by rw [← hxn]; exact HS
    have HT1 : Hid (SlAt w (.slice a2 n c2) 1 n (strs ys)) := by rw [← hyn]; exact HT
    rw [hxn] at hm hnc ⊢
    rw [hyn]
    have HXN := Lib.hid hxn
    have HYN := Lib.hid hyn
    clear HS HT hxn hyn hl hnc2
    go_enter Try.func37, Try.ntmps37
    go_wp2
    go_loopw [5, 16] (fun _ i wr => ∃ k : Nat, k ≤ n ∧ i = .int .i64 k ∧ (∀ j (h1 : j < xs.length) (h2 : j < ys.length), j < k → xs[j] = ys[j]) ∧ Below w.heap.size w wr ∧ wr.heap[w.heap.size]? = some (.cells #[.slice a n c] 45 (0, 0)) ∧ wr.heap[w.heap.size + 1]? = some (.cells #[.slice a2 n c2] 45 (0, 0))) (fun _ i _ => n - (intOf i).toNat)
    case atStart => exact ⟨0, Nat.zero_le _, rfl, fun j _ _ hj => absurd hj (by omega), bal (bal (Below.refl _ _) _) _, blk_new1 _ _ _, blk_new2 _ _ _⟩
    case round =>
      obtain ⟨k, hk, rfl, hno, hbel, b1, b2⟩ := hrel
      have HN := Lib.hid hno
      have B1 := Lib.hid b1
      have B2 := Lib.hid b2
      have e1 : wr.cell? ⟨w.heap.size, 0, none⟩ = some (.slice a n c) := blk_cell b1 rfl
      have e2 : wr.cell? ⟨w.heap.size + 1, 0, none⟩ = some (.slice a2 n c2) := blk_cell b2 rfl
      clear hno b1 b2
      by_cases hlt : k < n
      · have hl1 : k < xs.length := by rw [HXN.out]; exact hlt
        have hl2 : k < ys.length := by rw [HYN.out]; exact hlt
        obtain ⟨b, o, rfl, hbl, hcell⟩ := (HS1.out.stay hbel).at (by omega)
        have hck := hcell k _ (strs_get xs k hl1)
        clear hcell
        obtain ⟨b2, o2, rfl, hbl2, hcell⟩ := (HT1.out.stay hbel).at (by omega)
        have hck2 := hcell k _ (strs_get ys k hl2)
        clear hcell
        obtain ⟨x, hx⟩ : ∃ x, xs[k] = x := ⟨_, rfl⟩
        obtain ⟨y, hy⟩ : ∃ y, ys[k] = y := ⟨_, rfl⟩
        rw [hx] at hck
        rw [hy] at hck2
        have HX := Lib.hid hx
        have HY := Lib.hid hy
        clear hx hy
        by_cases hxy : x = y
        · have hq := beq_toList_iff.2 hxy
          have HQ := Lib.hid hxy
          clear hxy
          go_wp2
          go_region
          go_wp2
          refine ⟨⟨k + 1, by omega, by go_num, fun j h1 h2 hjk => ?_, hbel.drew, B1.out, B2.out⟩, by simp [intOf]; omega⟩
          rcases Nat.lt_succ_iff_lt_or_eq.1 hjk with h | rfl
          · exact HN.out j h1 h2 h
          · exact HX.out.trans (HQ.out.trans HY.out.symm)
        · have hq := bytes_ne hxy
          have HQ := Lib.hid hxy
          clear hxy
          go_wp2
          go_region
          go_wp2
          go_ret
          refine ⟨ret_bool (same_no hl1 hl2 ?_).symm, hbel.drew⟩
          rw [HX.out, HY.out]
          exact HQ.out
      · obtain rfl : k = n := by omega
        go_wp2
        go_ret
        exact ⟨ret_bool (same_yes (HXN.out.trans HYN.out.symm) fun j h1 h2 => HN.out j h1 h2 (by have := HXN.out; omega)).symm, hbel⟩
  · have hn : ((xs.length : Int) != ys.length) = true := by simp; omega
    have HL := Lib.hid hl
    clear hl
    go_enter Try.func37, Try.ntmps37
    go_wp2
    go_ret
    refine ⟨ret_bool ?_, bal (bal (Below.refl _ _) _) _⟩
    symm
    apply decide_eq_false
    intro h
    exact HL.out (congrArg _ h)
end Go.Proofs.Ytpccdlpkaflioaa
