/- Contract of label.Sort. -/
import Derived.Test.YtkhocnaocndkjaaC10u
import Derived.Test.YtkhocnaocndkjaaM11
set_option linter.unusedVariables false
set_option linter.unusedSimpArgs false
namespace Go.Proofs.Ytkhocnaocndkjaa
open Go.RowKit
attribute [local go_sem high] ext_size ext_cell ext_frozen alloc_cell alloc_frozen
def LabsRes (w : World) (xs : List Lab) (k : Int) (e : Ending) (w' : World) : Prop := ∃ v, e = .returned (.tuple #[v, .int .i64 k]) ∧ SlAt w' v 2 xs.length (labsC xs) ∧ FreshV w.heap.size v ∧ Below w.heap.size w w'
theorem each_len {xs : List Lab} (h : eachB xs = true) : 1 ≤ xs.length ∧ xs.length ≤ 3 := by
  unfold eachB at h
  simp only [Bool.and_eq_true, decide_eq_true_eq] at h
  exact h.1
theorem labSort_any (v : Value) (xs : List Lab) (w : World) (hS : SlAt w v 2 xs.length (labsC xs)) (hL : LabsOk xs) :
    Calls Try.prog 21 #[v] w (LabsRes w (sortL xs) (sortE xs)) := by
  obtain ⟨a, c, rfl, hnc, hcm⟩ := hS.form
  have HS := Lib.hid hS
  have HL := Lib.hid hL
  have HE := Lib.hid fun W (h : SlAt W (Value.slice a xs.length c) 2 xs.length (labsC xs)) => each_any _ xs W h hL
  obtain ⟨E, hE⟩ : ∃ E, E = sortE xs := ⟨_, rfl⟩
  obtain ⟨L, hLL⟩ : ∃ L, L = sortL xs := ⟨_, rfl⟩
  rw [← hE, ← hLL]
  unfold sortE at hE
  unfold sortL at hLL
  cases hb : eachB xs
  case false =>
    rw [hb] at HE
    rw [if_neg (by simp [hb])] at hE hLL
    subst hE hLL
    clear hb hS hL
    go_enter Try.func21, Try.ntmps21
    go_wp2_with fail
    refine (HE.out _ (HS.out.stay (by repeat (first | exact Below.refl _ _ | apply bal | apply bext | apply bdr | apply bdrN | (refine bst ?_ _ (by simp only [ext_size, size_alloc, size_set]; omega)))))).mono ?_
    rintro e w' ⟨rfl, hb⟩
    obtain ⟨y1, rfl⟩ := ext_of hb
    clear hb
    go_wp2_with fail
    go_ret2
    exact ⟨_, rfl, SlAt.nil _ _, FreshV.nil _ _ _, (by repeat (first | exact Below.refl _ _ | apply bal | apply bext | apply bdr | apply bdrN | (refine bst ?_ _ (by simp only [ext_size, size_alloc, size_set]; omega))))⟩
  case true =>
    obtain ⟨l1, l3⟩ := each_len hb
    rw [hb] at HE
    rw [if_pos hb] at hE hLL
    have HB := Lib.hid hb
    have HEE := Lib.hid hE
    have HLE := Lib.hid hLL
    clear hb hS hL hE hLL
    obtain ⟨n, hn⟩ : ∃ n, n = xs.length := ⟨_, rfl⟩
    go_enter Try.func21, Try.ntmps21
    go_wp2_with fail
    refine (HE.out _ (HS.out.stay (by repeat (first | exact Below.refl _ _ | apply bal | apply bext | apply bdr | apply bdrN | (refine bst ?_ _ (by simp only [ext_size, size_alloc, size_set]; omega)))))).mono ?_
    rintro e w' ⟨rfl, hb⟩
    obtain ⟨y1, rfl⟩ := ext_of hb
    clear hb
    go_wp2_with fail
    refine (cloneL_any a c xs _ (HS.out.stay (by repeat (first | exact Below.refl _ _ | apply bal | apply bext | apply bdr | apply bdrN | (refine bst ?_ _ (by simp only [ext_size, size_alloc, size_set]; omega))))) (by omega) (by omega)).mono ?_
    rintro e w1 ⟨g, cap, rfl, hg, HOWN, hb1⟩
    obtain ⟨x1, rfl⟩ := ext_of hb1
    clear hb1
    obtain ⟨hlt, hc1, hc2⟩ := row_facts HOWN.out
    go_wp2_with fail
    refine (sortFuncL_any _ g cap xs _ HOWN.out hlt (by omega) ⟨hc1, hc2⟩).mono ?_
    rintro e w2 ⟨rfl, ys, hperm, hso, hs2, hb2⟩
    have hgw : w.heap.size ≤ g := by simp only [ext_size] at hg; omega
    have hb3 : Below w.heap.size w w2 := (show Below w.heap.size w (ext (ext w y1) x1) from (by repeat (first | exact Below.refl _ _ | apply bal | apply bext | apply bdr | apply bdrN | (refine bst ?_ _ (by simp only [ext_size, size_alloc, size_set]; omega))))).trans (hb2.mono hgw)
    obtain ⟨x2, rfl⟩ := ext_of hb3
    have HS2 := Lib.hid hs2
    have hok : LabsOk ys := fun y hy => HL.out y (hperm.subset hy)
    have HR := Lib.hid fun W (h : SlAt W (Value.slice (some ⟨g, 0, none⟩) ys.length cap) 2 ys.length (labsC ys)) => labRight_any _ ys W h hok
    have hlen := hperm.length_eq
    have HLEN := Lib.hid hlen
    have hE := HEE.out
    have hLL := HLE.out
    have hlb : labsB ys = (risesB ys && true) := by unfold labsB; rw [eachB_perm hperm, HB.out]
    rw [hlb, Bool.and_true] at HR
    rw [hlen] at HR HS2
    have HGW := Lib.hid hgw
    clear hs2 hb2 hb3 hg hlt hgw HOWN hn hlb hlen hok
    rcases sort_meets hperm hso with ⟨h1, h2⟩ | ⟨h1, h2⟩
    · rw [h2] at hE hLL
      rw [h1] at HR
      have HLF := Lib.hid (show L = ys from hLL)
      have hE' : E = 0 := hE
      subst hE'
      clear h1 h2 hE hLL hso hperm
      go_wp2_with fail
      refine (HR.out _ (HS2.out.stay (by repeat (first | exact Below.refl _ _ | apply bal | apply bext | apply bdr | apply bdrN | (refine bst ?_ _ (by simp only [ext_size, size_alloc, size_set]; omega)))))).mono ?_
      rintro e w3 ⟨rfl, hb3⟩
      obtain ⟨x3, rfl⟩ := ext_of hb3
      clear hb3
      go_wp2_with fail
      go_ret2
      refine ⟨_, rfl, ?_, fun b hb => by have e : g = b := Option.some.inj hb; have := HGW.out; omega, (by repeat (first | exact Below.refl _ _ | apply bal | apply bext | apply bdr | apply bdrN | (refine bst ?_ _ (by simp only [ext_size, size_alloc, size_set]; omega))))⟩
      rw [HLF.out, HLEN.out]
      exact HS2.out.stay (by repeat (first | exact Below.refl _ _ | apply bal | apply bext | apply bdr | apply bdrN | (refine bst ?_ _ (by simp only [ext_size, size_alloc, size_set]; omega))))
    · rw [h2] at hE hLL
      rw [h1] at HR
      have HLF := Lib.hid (show L = [] from hLL)
      have hE' : E = 11 := hE
      subst hE'
      clear h1 h2 hE hLL hso hperm
      go_wp2_with fail
      refine (HR.out _ (HS2.out.stay (by repeat (first | exact Below.refl _ _ | apply bal | apply bext | apply bdr | apply bdrN | (refine bst ?_ _ (by simp only [ext_size, size_alloc, size_set]; omega)))))).mono ?_
      rintro e w3 ⟨rfl, hb3⟩
      obtain ⟨x3, rfl⟩ := ext_of hb3
      clear hb3
      go_wp2_with fail
      go_ret2
      refine ⟨_, rfl, ?_, FreshV.nil _ _ _, (by repeat (first | exact Below.refl _ _ | apply bal | apply bext | apply bdr | apply bdrN | (refine bst ?_ _ (by simp only [ext_size, size_alloc, size_set]; omega))))⟩
      rw [HLF.out]
      exact SlAt.nil _ _
end Go.Proofs.Ytkhocnaocndkjaa
