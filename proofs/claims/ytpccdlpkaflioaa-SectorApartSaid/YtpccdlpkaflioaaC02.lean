/- Contracts of the functions of layer 2 (sector). -/
import Derived.Test.YtpccdlpkaflioaaChecked
import Derived.Test.YtpccdlpkaflioaaM02
import Derived.LoopTactic
import Derived.Outline
import Derived.Shelf.Abstract
set_option linter.unusedVariables false
set_option linter.unusedSimpArgs false
namespace Go.Proofs.Ytpccdlpkaflioaa
open Go.RowKit
/-- A function value is a predicate on texts. -/
def PredStr (f : FuncId) (caps : Array Value) (w : World) (p : ByteArray → Bool) (xs : List ByteArray) : Prop :=
  ∀ x ∈ xs, ∀ W, Below w.heap.size w W → Calls Try.prog f (#[.string x] ++ caps) W fun e W' => e = .returned (.bool (p x)) ∧ Below W.heap.size W W'
theorem indexFuncS_any (v : Value) (xs : List ByteArray) (f : FuncId) (caps : Array Value) (p : ByteArray → Bool) (w : World) (hS : SlAt w v 1 xs.length (strs xs)) (hp : PredStr f caps w p xs) (hf : Enters Try.prog f) :
    Calls Try.prog 62 #[v, .func (.func f) #[] caps] w fun e w' => e = .returned (.int .i64 (idxOf p xs)) ∧ Below w.heap.size w w' := by
  obtain ⟨a, c, rfl, hnc, hcm⟩ := hS.form
  have hm := hS.le
  have HS := Lib.hid hS
  have HP := Lib.hid hp
  clear hS hp
  unfold maxLen at hm
  go_enter Try.func62, Try.ntmps62
  go_wp2
  go_loopw [5, 8] (fun _ i wr => ∃ k : Nat, k ≤ xs.length ∧ i = .int .i64 k ∧ (∀ j (hj : j < xs.length), j < k → p xs[j] = false) ∧ Below w.heap.size w wr) (fun _ i _ => xs.length - (intOf i).toNat)
  case atStart => exact ⟨0, Nat.zero_le _, rfl, fun j _ hj => absurd hj (by omega), Below.refl _ _⟩
  case round =>
    obtain ⟨k, hk, rfl, hno, hbel⟩ := hrel
    have HN := Lib.hid hno
    clear hno
    by_cases hlt : k < xs.length
    · obtain ⟨b, o, rfl, hbl, hcell⟩ := (HS.out.stay hbel).at (by omega)
      have hck := hcell k _ (strs_get xs k hlt)
      clear hcell
      have hcall := HP.out xs[k] (List.getElem_mem hlt) wr hbel
      have he := hf (#[.string xs[k]] ++ caps) wr
      cases hpx : p xs[k]
      all_goals
        rw [hpx] at hcall
        have HX := Lib.hid hpx
        clear hpx
        go_wp2_with (refine Calls.mono hcall ?_; rintro e w1 ⟨rfl, hb1⟩)
      · refine ⟨⟨k + 1, by omega, by go_num, fun j hj hjk => ?_, bels hbel hbel.size hb1⟩, by simp [intOf]; omega⟩
        rcases Nat.lt_succ_iff_lt_or_eq.1 hjk with h | rfl
        · exact HN.out j hj h
        · exact HX.out
      · go_ret
        exact ⟨ret_int (idxOf_found hlt HX.out fun j hj => HN.out j (by omega) hj).symm, bel hbel hb1⟩
    · obtain rfl : k = xs.length := by omega
      go_wp2
      go_ret
      exact ⟨ret_int (idxOf_none fun j hj => HN.out j hj hj).symm, hbel⟩
theorem containsFuncS_any (v : Value) (xs : List ByteArray) (f : FuncId) (caps : Array Value) (p : ByteArray → Bool) (w : World) (hS : SlAt w v 1 xs.length (strs xs)) (hp : PredStr f caps w p xs) (hf : Enters Try.prog f) :
    Calls Try.prog 54 #[v, .func (.func f) #[] caps] w fun e w' => e = .returned (.bool (xs.any p)) ∧ Below w.heap.size w w' := by
  have hi := Lib.hid (idxOf_any p xs)
  go_enter Try.func54, Try.ntmps54
  go_wp2_with (go_at_call 62; refine (indexFuncS_any _ xs f caps p _ hS hp hf).mono ?_; rintro e w1 ⟨rfl, hb1⟩)
  go_ret
  exact ⟨ret_bool hi.out, hb1⟩
theorem right1_any (x : ByteArray) (w : World) :
    Calls Try.prog 55 #[.string x] w fun e w' => e = .returned (.bool (badSize x)) ∧ w = w' := by
  go_enter Try.func55, Try.ntmps55
  go_wp2
  go_ret
  exact ⟨rfl, rfl⟩
theorem right_any (v : Value) (xs : List ByteArray) (w : World) (hS : SlAt w v 1 xs.length (strs xs)) :
    Calls Try.prog 34 #[.agg #[v]] w fun e w' => e = .returned (.bool (rightD xs)) ∧ Below w.heap.size w w' := by
  obtain ⟨a, c, rfl, hnc, hcm⟩ := hS.form
  have HS := Lib.hid hS
  clear hS
  have hp : ∀ W, PredStr 55 #[] W badSize xs := fun W x _ W' _ => (right1_any x W').mono fun e w' ⟨he, hw⟩ => ⟨he, hw ▸ Below.refl _ _⟩
  have HP := Lib.hid hp
  clear hp
  have hen : Enters Try.prog 55 := enters_of Try.func55 (by kernel_rfl) rfl
  have HE := Lib.hid hen
  clear hen
  go_enter Try.func34, Try.ntmps34
  go_wp2_with (go_at_call 54; refine (containsFuncS_any _ xs _ _ badSize _ (HS.out.stay ((Below.refl _ _).alloc (Nat.le_refl _) _)) (HP.out _) HE.out).mono ?_; rintro e w1 ⟨rfl, hb1⟩)
  all_goals
    go_ret
    refine ⟨ret_bool ?_, by first | exact bel (bal (Below.refl _ _) _) (by assumption) | exact bal (Below.refl _ _) _⟩
    unfold rightD
    first
      | (rw [decide_eq_true (by omega), decide_eq_true (by omega)]; rfl)
      | (rw [decide_eq_true (by omega), decide_eq_false (by omega)]; rfl)
      | (rw [decide_eq_false (by omega)]; rfl)
theorem may_any (v : Value) (xs : List ByteArray) (at_ : Int) (w : World) (hS : SlAt w v 1 xs.length (strs xs)) :
    Calls Try.prog 52 #[.agg #[v], .int .i64 at_] w fun e w' => e = .returned (.int .i64 (mayD xs at_)) ∧ Below w.heap.size w w' := by
  obtain ⟨a, c, rfl, hnc, hcm⟩ := hS.form
  have HS := Lib.hid hS
  clear hS
  have hright := fun W (h : SlAt W (Value.slice a xs.length c) 1 xs.length (strs xs)) => right_any _ xs W h
  cases hr : rightD xs
  all_goals
    rw [hr] at hright
    have HR := Lib.hid hright
    have HV := Lib.hid hr
    clear hright hr
    go_enter Try.func52, Try.ntmps52
    go_wp2_with (go_at_call 34; refine (HR.out _ (HS.out.stay (bal (Below.refl _ _) _))).mono ?_; rintro e w1 ⟨rfl, hb1⟩; obtain ⟨hc1, hf1⟩ := bcell hb1)
    all_goals
      go_ret
      refine ⟨ret_int ?_, bel (bal (Below.refl _ _) _) hb1⟩
      first
        | exact (mayD_no HV.out _).symm
        | exact (mayD_in HV.out (by omega) (by omega)).symm
        | exact (mayD_out HV.out (by omega)).symm
theorem read_any (v : Value) (xs : List ByteArray) (at_ : Int) (w : World) (hS : SlAt w v 1 xs.length (strs xs)) :
    Calls Try.prog 31 #[.agg #[v], .int .i64 at_] w fun e w' => e = .returned (.tuple #[.string (readD xs at_), .int .i64 (mayD xs at_)]) ∧ Below w.heap.size w w' := by
  obtain ⟨a, c, rfl, hnc, hcm⟩ := hS.form
  have HS := Lib.hid hS
  clear hS
  by_cases hz : mayD xs at_ = 0
  · obtain ⟨_, h0, h1⟩ := mayD_zero hz
    obtain ⟨k, rfl⟩ := Int.eq_ofNat_of_zero_le h0
    have hk : k < xs.length := by omega
    have hm := fun W (h : SlAt W (Value.slice a xs.length c) 1 xs.length (strs xs)) => may_any _ xs k W h
    have he : readD xs k = xs[k] := by unfold readD; rw [if_pos hz]; simp [hk]
    rw [hz] at hm ⊢
    rw [he]
    have HM := Lib.hid hm
    clear hm hz he
    obtain ⟨b, o, rfl, hbl, hcell⟩ := HS.out.at (by omega)
    have hck := hcell k _ (strs_get xs k hk)
    clear hcell
    go_enter Try.func31, Try.ntmps31
    go_wp2_with (go_at_call 52; refine (HM.out _ (HS.out.stay (bal (Below.refl _ _) _))).mono ?_; rintro e w1 ⟨rfl, hb1⟩; obtain ⟨hc1, hf1⟩ := bcell hb1)
    go_ret2
    exact ⟨rfl, bel (bal (Below.refl _ _) _) hb1⟩
  · have he : readD xs at_ = ⟨#[]⟩ := by unfold readD; rw [if_neg hz]
    have hne : (mayD xs at_ != 0) = true := by simpa using hz
    rw [he]
    clear he hz
    go_enter Try.func31, Try.ntmps31
    go_wp2_with (go_at_call 52; refine (may_any _ xs _ _ (HS.out.stay (bal (Below.refl _ _) _))).mono ?_; rintro e w1 ⟨rfl, hb1⟩)
    go_ret2
    exact ⟨rfl, bel (bal (Below.refl _ _) _) hb1⟩
end Go.Proofs.Ytpccdlpkaflioaa
