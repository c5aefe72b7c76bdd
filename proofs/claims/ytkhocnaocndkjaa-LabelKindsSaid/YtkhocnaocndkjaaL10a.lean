/- foghornlaw10.alive. -/
import Derived.Test.YtkhocnaocndkjaaL10
set_option linter.unusedVariables false
set_option linter.unusedSimpArgs false
namespace Go.Proofs.Ytkhocnaocndkjaa
open Go.RowKit
attribute [local go_sem high] ext_size ext_cell ext_frozen alloc_cell alloc_frozen
theorem slat_lit (W : World) {H sz n : Nat} {arr : Array Value} {e : TypeId} {cells : List Value} (hH : W.heap.size = H) (hc : arr = cells.toArray) (hn : cells.length = n * sz) (hm : n ≤ maxLen) : SlAt (W.alloc (.cells arr e)) (.slice (some ⟨H, 0, none⟩) n n) sz n cells := by
  subst hH hc
  refine ⟨hn, _, n, rfl, Nat.le_refl _, hm, .inr ⟨_, 0, rfl, by rw [size_alloc]; omega, fun j u hu => ?_⟩⟩
  rw [Nat.zero_add]
  exact blk_cell (blk_new W _) (by simpa using hu)
def aliveL : List Lab := [⟨⟨#[122]⟩, ⟨#[101, 117, 45, 49]⟩⟩, ⟨⟨#[97]⟩, ⟨#[100, 98]⟩⟩]
def aliveM : List Mat := [⟨2, ⟨#[122]⟩, ⟨#[101, 117]⟩⟩, ⟨1, ⟨#[97]⟩, ⟨#[119, 101, 98]⟩⟩]
def aliveS : List Lab := [⟨⟨#[97]⟩, ⟨#[100, 98]⟩⟩, ⟨⟨#[122]⟩, ⟨#[101, 117, 45, 49]⟩⟩]
theorem alive10_any (w : World) :
    Calls Try.prog 27 #[] w fun e w' => e = .returned (.bool true) ∧ Below w.heap.size w w' := by
  have h1 : sortL aliveL = aliveS ∧ sortE aliveL = 0 := by decide +kernel
  have h2 : allE aliveM aliveS = 0 ∧ allB aliveM aliveS = true := by decide +kernel
  have HS := Lib.hid fun v W (h : SlAt W v 2 2 (labsC aliveL)) => labSort_any v aliveL W h (fun x hx => by simp [aliveL] at hx; rcases hx with rfl | rfl <;> decide)
  rw [h1.1, h1.2] at HS
  have HA := Lib.hid fun u v W (h : SlAt W u 3 2 (matsC aliveM)) (h' : SlAt W v 2 2 (labsC aliveS)) => labAll_any u v aliveM aliveS W h h' (fun x hx => by simp [aliveM] at hx; rcases hx with rfl | rfl <;> decide) (fun x hx => by simp [aliveS] at hx; rcases hx with rfl | rfl <;> decide)
  rw [h2.1, h2.2] at HA
  clear h1 h2
  go_enter Try.func27, Try.ntmps27
  go_wp2_with fail
  refine (HS.out _ _ (slat_lit w rfl rfl rfl (by decide))).mono ?_
  rintro e w1 ⟨v1, rfl, hs1, hf1, hb1⟩
  replace hs1 : SlAt w1 v1 2 2 (labsC aliveS) := hs1
  obtain ⟨a1, c1, rfl, hn1, hm1⟩ := hs1.form
  obtain ⟨x1, rfl⟩ := ext_of hb1
  have HS1 := Lib.hid hs1
  obtain ⟨b, o, rfl, hbl, hcell⟩ := hs1.at (by decide)
  have k0 : cellX x1 ⟨b, o, none⟩ = some (.string ⟨#[97]⟩) := hcell 0 _ rfl
  have hge : w.heap.size + 1 ≤ b := by have := hf1 b rfl; rwa [size_alloc] at this
  rw [ext_size, size_alloc] at hbl
  clear hs1 hb1 hcell hf1
  go_wp2_with fail
  refine (HA.out _ _ _ (slat_lit _ (by simp only [ext_size, size_alloc]) rfl rfl (by decide)) (HS1.out.stay (by repeat (first | exact Below.refl _ _ | apply bal | apply bext | apply bdr | apply bdrN | (refine bst ?_ _ (by simp only [ext_size, size_alloc, size_set]; omega)))))).mono ?_
  rintro e w2 ⟨rfl, hb2⟩
  obtain ⟨x2, rfl⟩ := ext_of hb2
  clear hb2
  go_wp2_with fail
  go_ret
  exact ⟨ret_bool (by first | rfl | simp), (by repeat (first | exact Below.refl _ _ | apply bal | apply bext | apply bdr | apply bdrN | (refine bst ?_ _ (by simp only [ext_size, size_alloc, size_set]; omega))))⟩
end Go.Proofs.Ytkhocnaocndkjaa
