/- Contracts of slices.Clone and slices.SortFunc at labels. -/
import Derived.Test.YtkhocnaocndkjaaC10t
import Derived.Test.YtkhocnaocndkjaaShelfG
import Derived.Shelf.SlSortFuncK.HeapSortK
set_option linter.unusedVariables false
set_option linter.unusedSimpArgs false
namespace Go.Proofs.Ytkhocnaocndkjaa
open Go.RowKit Go.Sort Go.Lib
attribute [local go_sem high] ext_size ext_cell ext_frozen alloc_cell alloc_frozen
instance : Inhabited Lab := ⟨⟨⟨#[]⟩, ⟨#[]⟩⟩⟩
theorem labs_one (xs : List Lab) : ∀ u ∈ labsC xs, u.oneCell' = true := by
  intro u hu
  obtain ⟨x, _, hx⟩ := List.mem_flatMap.1 hu
  simp [labC] at hx
  rcases hx with rfl | rfl <;> rfl
theorem labs_len (xs : List Lab) : (labsC xs).length = xs.length * 2 := flat_len (en := labC) (sz := 2) (fun _ => rfl) xs
theorem infoLab : (Try.prog.info? 59).map (fun i => (i.zero, i.size, i.bytes)) = some (some (.agg #[.string ⟨#[]⟩, .string ⟨#[]⟩]), 2, 32) := by kernel_rfl
theorem cloneL_any (a : Option Addr) (c : Nat) (xs : List Lab) (w : World) (hS : SlAt w (.slice a xs.length c) 2 xs.length (labsC xs)) (h0 : 0 < xs.length) (h12 : xs.length ≤ 12) :
    Calls Try.prog 56 #[.slice a xs.length c] w fun e w' => ∃ g cap, e = .returned (.slice (some ⟨g, 0, none⟩) xs.length cap) ∧ w.heap.size ≤ g ∧ Hid (w'.ownsRow w.heap.size 59 2 (.slice (some ⟨g, 0, none⟩) xs.length cap) xs.length (labsC xs)) ∧ Below w.heap.size w w' := by
  obtain ⟨b, o, rfl, hbl, hcell⟩ := hS.at h0
  obtain ⟨i0, hi, hzz⟩ := Option.map_eq_some_iff.1 infoLab
  simp only [Prod.mk.injEq] at hzz
  obtain ⟨hz0, hz1, hz2⟩ := hzz
  have := AnyE.slices_Clone Try.cloneL i0 _ 2 32 hi hz0 hz1 hz2 rfl (by omega) Try.sizeOf59 b o xs.length c (labsC xs) w (labs_len xs) (by unfold maxLen; omega) (by omega) hcell (labs_one xs)
  refine this.mono ?_
  rintro e w' ⟨v', rfl, hown, _, hb⟩
  obtain ⟨g, cap, rfl, h3, h4⟩ := hown.form h0
  exact ⟨g, cap, rfl, h3, Lib.hid hown, hb⟩
theorem order_grow (x y : Lab) (w : World) :
    Calls Try.prog 58 #[labV x, labV y] w fun e w' => e = .returned (.int .i64 (cmpS x.name y.name)) ∧ ∃ q os', w' = grow (w.drewN q) os' := by
  obtain ⟨n, v⟩ := x
  obtain ⟨n2, v2⟩ := y
  unfold labV
  have H := Lib.hid fun W => compare_any n n2 W
  go_enter Try.func58, Try.ntmps58
  go_wp2_with fail
  refine (H.out _).mono ?_
  rintro e w1 ⟨rfl, rfl⟩
  go_wp2_with fail
  go_ret
  exact ⟨rfl, 0, _, by rw [alloc_eq_grow, alloc_eq_grow, grow_grow]; rfl⟩
def cfL (x y : Lab) : Int := cmpS x.name y.name
theorem ltOf_cfL (x y : Lab) : ltOf cfL x y = ltS x.name y.name := by
  unfold ltOf cfL
  cases h : ltS x.name y.name
  · exact decide_eq_false (by have := cmpS_ge h; omega)
  · rw [cmpS_lt h]; rfl
theorem swoL : SWO (ltOf cfL) where
  irrefl x := by rw [ltOf_cfL, ltS_self]
  trans x y z h1 h2 := by
    rw [ltOf_cfL] at *
    exact ltS_trans h1 h2
  ntrans x y z h1 h2 := by
    rw [ltOf_cfL] at *
    cases h : ltS x.name z.name
    · rfl
    · rcases ltS_total x.name y.name with h3 | h3 | h3
      · rw [h1] at h3; exact h3.symm
      · rw [h3, h2] at h; exact h.symm
      · have := ltS_trans h3 h
        rw [h2] at this
        exact this.symm
theorem hlenL (n : Nat) (W : World) (h : n ≤ 12) : Calls Try.prog 85 #[.int .u64 n] W fun e w' => (∃ l : Int, e = .returned (.int .i64 l)) ∧ w' = W :=
  (Try.bits_Len n W (by omega) (by omega)).mono fun _ _ ⟨he, hw⟩ => ⟨⟨_, he⟩, hw⟩
theorem sort_block {α : Type} [Inhabited α] (en : α → List Value) (k : Nat) (w : World) (blk off n : Nat) (d : Array α) (os : Array Obj) (i : Nat) (hi : i < w.heap.size) (hne : i ≠ blk) : (sortWorldK en k w blk off n d os).heap[i]? = w.heap[i]? := by
  unfold sortWorldK grow putRowK putRow mapBlock Sort.ahead
  simp only
  rw [Array.getElem?_append_left (by simpa using hi), Array.getElem?_modify, if_neg (fun e => hne e.symm)]
theorem sort_bel {α : Type} [Inhabited α] (en : α → List Value) (k : Nat) (w : World) (blk off n : Nat) (d : Array α) (os : Array Obj) (hb : blk < w.heap.size) : Below blk w (sortWorldK en k w blk off n d os) :=
  ⟨rfl, rfl, rfl, size_sortWorldK_c en k w blk off n d os, fun i hi => sort_block en k w blk off n d os i (by omega) (by omega)⟩
theorem flatK_labs (xs : List Lab) (t : Nat) (h : t < xs.length * 2) : (labsC xs)[t]? = some ((flatK labC 2 xs.toArray)[t]!) := by
  rw [get_flatK labC 2 xs.toArray t (by simpa using h)]
  have h1 : t / 2 < xs.length := by omega
  have h2 := flat_get (en := labC) (sz := 2) (fun _ => rfl) xs (t / 2) (t % 2) h1 (by omega)
  rw [show t / 2 * 2 + t % 2 = t by omega] at h2
  have h3 : xs.toArray[t / 2]! = xs[t / 2] := by simp [h1]
  rw [h3]
  unfold labsC
  rw [h2]
  rcases (show t % 2 = 0 ∨ t % 2 = 1 by omega) with e | e <;> rw [e] <;> rfl
theorem holds_of_own {W : World} {B g cap : Nat} {e : TypeId} {xs : List Lab} (h : W.ownsRow B e 2 (.slice (some ⟨g, 0, none⟩) xs.length cap) xs.length (labsC xs)) : HoldsK labC 2 W g 0 xs.toArray := by
  intro t ht
  have ht' : t < xs.length * 2 := by simpa using ht
  have hc := h.cells (g := g) rfl t _ (flatK_labs xs t ht')
  have hadd : ∀ j, (⟨g, 0, none⟩ : Addr).add j = ⟨g, 0 + j, none⟩ := fun j => by unfold Addr.add; split <;> simp_all
  rw [hadd] at hc
  refine ⟨hc, ?_⟩
  have hf := h.frozenAt t
  rw [Nat.zero_add]
  exact hf
theorem slat_of_holds {W : World} {g cap : Nat} {ys : List Lab} (h : HoldsK labC 2 W g 0 ys.toArray) (hg : g < W.heap.size) (h1 : ys.length ≤ cap) (h2 : cap ≤ maxLen) : SlAt W (.slice (some ⟨g, 0, none⟩) ys.length cap) 2 ys.length (labsC ys) := by
  refine ⟨labs_len ys, some ⟨g, 0, none⟩, cap, rfl, h1, h2, .inr ⟨g, 0, rfl, hg, fun j u hu => ?_⟩⟩
  have hj : j < ys.length * 2 := by
    have := (List.getElem?_eq_some_iff.1 hu).1
    rwa [labs_len] at this
  have := (h j (by simpa using hj)).1
  rw [this]
  have h3 := flatK_labs ys j hj
  rw [hu] at h3
  exact h3.symm
theorem sortFuncL_any (B g cap : Nat) (xs : List Lab) (w : World) (hown : w.ownsRow B 59 2 (.slice (some ⟨g, 0, none⟩) xs.length cap) xs.length (labsC xs)) (hg : g < w.heap.size) (h12 : xs.length ≤ 12) (hc : xs.length ≤ cap ∧ cap ≤ maxLen) :
    Calls Try.prog 57 #[.slice (some ⟨g, 0, none⟩) xs.length cap, .func (.func 58) #[] #[]] w fun e w' => e = .returned (.tuple #[]) ∧ ∃ ys : List Lab, ys.Perm xs ∧ (∀ i j (hi : i < j) (hj : j < ys.length), ltS ys[j].name (ys[i]'(by omega)).name = false) ∧ SlAt w' (.slice (some ⟨g, 0, none⟩) ys.length cap) 2 ys.length (labsC ys) ∧ Below g w w' := by
  have hen : Enters Try.prog 58 := enters_of Try.func58 (by kernel_rfl) rfl
  have hH := holds_of_own hown
  have hs : xs.toArray.size = xs.length := by simp
  have hcl : CmpLays Try.prog 58 #[] labC 2 cfL g 0 xs.toArray.size w := fun _ _ _ _ x y => order_grow x y _
  have := AnyQ.slices_SortFunc_small_sorted Try.sortL 2 Try.isAgg59 Try.sizeOf59 labC (fun _ => rfl) (fun x v hv => by simp [labC] at hv; rcases hv with rfl | rfl <;> rfl) cfL 58 #[] swoL g 0 cap xs.toArray w hen hcl hH hg (by simpa using h12) hlenL
  rw [hs] at this
  refine this.mono ?_
  rintro e w' ⟨rfl, d', n, os, hp, hso, rfl⟩
  obtain ⟨hsz, _, hperm⟩ := hp
  rw [hs] at hsz
  have e1 : (d'.extract 0 xs.length).toList = d'.toList := by rw [← hsz]; simp
  have e2 : (xs.toArray.extract 0 xs.length).toList = xs := by simp
  rw [e1, e2] at hperm
  have hlen : d'.toList.length = xs.length := by simpa using hsz
  refine ⟨rfl, d'.toList, hperm, fun i j hij hj => ?_, ?_, sort_bel labC 2 w g 0 n d' os hg⟩
  · have := hso i j (Nat.zero_le _) hij (by omega)
    rw [ltOf_cfL] at this
    have hj' : j < d'.size := by simpa using hj
    have q1 : d'[j]! = d'[j] := getElem!_pos d' j hj'
    have q2 : d'[i]! = d'[i]'(by omega) := getElem!_pos d' i (by omega)
    rw [q1, q2] at this
    simpa using this
  · have hH2 := holdsK_sortWorldK_c labC 2 w g 0 xs.toArray d' n os hH hg (by simpa using hsz)
    exact slat_of_holds (ys := d'.toList) (by simpa using hH2) (Nat.lt_of_lt_of_le hg (size_sortWorldK_c labC 2 w g 0 n d' os)) (by omega) hc.2
end Go.Proofs.Ytkhocnaocndkjaa
