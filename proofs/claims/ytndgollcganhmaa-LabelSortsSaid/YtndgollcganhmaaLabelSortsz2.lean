/- Part 2 of a proof: contracts and plain laws of what the statement reaches. No condition. -/
import Derived.Shelf.SlSortFuncK.HeapSortK
import Derived.Deep.RegionHeld3
import Derived.Test.YtndgollcganhmaaLabelSortsz1
set_option linter.unusedVariables false
set_option linter.unusedSimpArgs false
/- Contracts of slices.Clone and slices.SortFunc at labels. -/
namespace Go.Proofs.Ytndgollcganhmaa
open Go.RowKit Go.Sort Go.Lib
attribute [local go_sem high] ext_size ext_cell ext_frozen alloc_cell alloc_frozen
instance : Inhabited Lab := ⟨⟨⟨#[]⟩, ⟨#[]⟩⟩⟩
theorem labs_one (xs : List Lab) : ∀ u ∈ labsC xs, u.oneCell' = true := by
  intro u hu
  obtain ⟨x, _, hx⟩ := List.mem_flatMap.1 hu
  simp [labC] at hx
  rcases hx with rfl | rfl <;> rfl
theorem labs_len (xs : List Lab) : (labsC xs).length = xs.length * 2 := flat_len (en := labC) (sz := 2) (fun _ => rfl) xs
theorem infoLab : (Try.prog.info? 41).map (fun i => (i.zero, i.size, i.bytes)) = some (some (.agg #[.string ⟨#[]⟩, .string ⟨#[]⟩]), 2, 32) := by kernel_rfl
theorem cloneL_any (a : Option Addr) (c : Nat) (xs : List Lab) (w : World) (hS : SlAt w (.slice a xs.length c) 2 xs.length (labsC xs)) (h0 : 0 < xs.length) (h12 : xs.length ≤ 12) :
    Calls Try.prog 34 #[.slice a xs.length c] w fun e w' => ∃ g cap, e = .returned (.slice (some ⟨g, 0, none⟩) xs.length cap) ∧ w.heap.size ≤ g ∧ Hid (w'.ownsRow w.heap.size 41 2 (.slice (some ⟨g, 0, none⟩) xs.length cap) xs.length (labsC xs)) ∧ Below w.heap.size w w' := by
  obtain ⟨b, o, rfl, hbl, hcell⟩ := hS.at h0
  obtain ⟨i0, hi, hzz⟩ := Option.map_eq_some_iff.1 infoLab
  simp only [Prod.mk.injEq] at hzz
  obtain ⟨hz0, hz1, hz2⟩ := hzz
  have := AnyE.slices_Clone Try.cloneL i0 _ 2 32 hi hz0 hz1 hz2 rfl (by omega) Try.sizeOf41 b o xs.length c (labsC xs) w (labs_len xs) (by unfold maxLen; omega) (by omega) hcell (labs_one xs)
  refine this.mono ?_
  rintro e w' ⟨v', rfl, hown, _, hb⟩
  obtain ⟨g, cap, rfl, h3, h4⟩ := hown.form h0
  exact ⟨g, cap, rfl, h3, Lib.hid hown, hb⟩
theorem order_grow (x y : Lab) (w : World) :
    Calls Try.prog 36 #[labV x, labV y] w fun e w' => e = .returned (.int .i64 (cmpS x.name y.name)) ∧ ∃ q os', w' = grow (w.drewN q) os' := by
  obtain ⟨n, v⟩ := x
  obtain ⟨n2, v2⟩ := y
  unfold labV
  have H := Lib.hid fun W => compare_any n n2 W
  go_enter Try.func36, Try.ntmps36
  go_wp2_with fail
  refine (H.out _).mono ?_
  rintro e w1 ⟨rfl, rfl⟩
  go_wp2_with fail
  go_ret
  exact ⟨rfl, 0, _, by rw [alloc_eq_grow, alloc_eq_grow, grow_grow]; rfl⟩
def cfL (x y : Lab) : Int := cmpS x.name y.name
theorem ltOf_cfL (x y : Lab) : ltOf cfL x y = ltS x.name y.name := by
  unfold ltOf cfL
  cases h : ltS x.name y.name
  · exact decide_eq_false (by have := cmpS_ge h; omega)
  · rw [cmpS_lt h]; rfl
theorem swoL : SWO (ltOf cfL) where
  irrefl x := by rw [ltOf_cfL, ltS_self]
  trans x y z h1 h2 := by
    rw [ltOf_cfL] at *
    exact ltS_trans h1 h2
  ntrans x y z h1 h2 := by
    rw [ltOf_cfL] at *
    cases h : ltS x.name z.name
    · rfl
    · rcases ltS_total x.name y.name with h3 | h3 | h3
      · rw [h1] at h3; exact h3.symm
      · rw [h3, h2] at h; exact h.symm
      · have := ltS_trans h3 h
        rw [h2] at this
        exact this.symm
theorem hlenL (n : Nat) (W : World) (h : n ≤ 12) : Calls Try.prog 73 #[.int .u64 n] W fun e w' => (∃ l : Int, e = .returned (.int .i64 l)) ∧ w' = W :=
  (Try.bits_Len n W (by omega) (by omega)).mono fun _ _ ⟨he, hw⟩ => ⟨⟨_, he⟩, hw⟩
theorem sort_block {α : Type} [Inhabited α] (en : α → List Value) (k : Nat) (w : World) (blk off n : Nat) (d : Array α) (os : Array Obj) (i : Nat) (hi : i < w.heap.size) (hne : i ≠ blk) : (sortWorldK en k w blk off n d os).heap[i]? = w.heap[i]? := by
  unfold sortWorldK grow putRowK putRow mapBlock Sort.ahead
  simp only
  rw [Array.getElem?_append_left (by simpa using hi), Array.getElem?_modify, if_neg (fun e => hne e.symm)]
theorem sort_bel {α : Type} [Inhabited α] (en : α → List Value) (k : Nat) (w : World) (blk off n : Nat) (d : Array α) (os : Array Obj) (hb : blk < w.heap.size) : Below blk w (sortWorldK en k w blk off n d os) :=
  ⟨rfl, rfl, rfl, size_sortWorldK_c en k w blk off n d os, fun i hi => sort_block en k w blk off n d os i (by omega) (by omega)⟩
theorem flatK_labs (xs : List Lab) (t : Nat) (h : t < xs.length * 2) : (labsC xs)[t]? = some ((flatK labC 2 xs.toArray)[t]!) := by
  rw [get_flatK labC 2 xs.toArray t (by simpa using h)]
  have h1 : t / 2 < xs.length := by omega
  have h2 := flat_get (en := labC) (sz := 2) (fun _ => rfl) xs (t / 2) (t % 2) h1 (by omega)
  rw [show t / 2 * 2 + t % 2 = t by omega] at h2
  have h3 : xs.toArray[t / 2]! = xs[t / 2] := by simp [h1]
  rw [h3]
  unfold labsC
  rw [h2]
  rcases (show t % 2 = 0 ∨ t % 2 = 1 by omega) with e | e <;> rw [e] <;> rfl
theorem holds_of_own {W : World} {B g cap : Nat} {e : TypeId} {xs : List Lab} (h : W.ownsRow B e 2 (.slice (some ⟨g, 0, none⟩) xs.length cap) xs.length (labsC xs)) : HoldsK labC 2 W g 0 xs.toArray := by
  intro t ht
  have ht' : t < xs.length * 2 := by simpa using ht
  have hc := h.cells (g := g) rfl t _ (flatK_labs xs t ht')
  have hadd : ∀ j, (⟨g, 0, none⟩ : Addr).add j = ⟨g, 0 + j, none⟩ := fun j => by unfold Addr.add; split <;> simp_all
  rw [hadd] at hc
  refine ⟨hc, ?_⟩
  have hf := h.frozenAt t
  rw [Nat.zero_add]
  exact hf
theorem slat_of_holds {W : World} {g cap : Nat} {ys : List Lab} (h : HoldsK labC 2 W g 0 ys.toArray) (hg : g < W.heap.size) (h1 : ys.length ≤ cap) (h2 : cap ≤ maxLen) : SlAt W (.slice (some ⟨g, 0, none⟩) ys.length cap) 2 ys.length (labsC ys) := by
  refine ⟨labs_len ys, some ⟨g, 0, none⟩, cap, rfl, h1, by omega, .inr ⟨g, 0, rfl, hg, fun j u hu => ?_⟩⟩
  have hj : j < ys.length * 2 := by
    have := (List.getElem?_eq_some_iff.1 hu).1
    rwa [labs_len] at this
  have := (h j (by simpa using hj)).1
  rw [this]
  have h3 := flatK_labs ys j hj
  rw [hu] at h3
  exact h3.symm
theorem sortFuncL_any (B g cap : Nat) (xs : List Lab) (w : World) (hown : w.ownsRow B 41 2 (.slice (some ⟨g, 0, none⟩) xs.length cap) xs.length (labsC xs)) (hg : g < w.heap.size) (h12 : xs.length ≤ 12) (hc : xs.length ≤ cap ∧ cap ≤ maxLen) :
    Calls Try.prog 35 #[.slice (some ⟨g, 0, none⟩) xs.length cap, .func (.func 36) #[] #[]] w fun e w' => e = .returned (.tuple #[]) ∧ ∃ ys : List Lab, ys.Perm xs ∧ (∀ i j (hi : i < j) (hj : j < ys.length), ltS ys[j].name (ys[i]'(by omega)).name = false) ∧ SlAt w' (.slice (some ⟨g, 0, none⟩) ys.length cap) 2 ys.length (labsC ys) ∧ Below g w w' ∧ (B ≤ g → w'.ownsRow B 41 2 (.slice (some ⟨g, 0, none⟩) ys.length cap) ys.length (labsC ys)) := by
  have hen : Enters Try.prog 36 := enters_of Try.func36 (by kernel_rfl) rfl
  have hH := holds_of_own hown
  have hs : xs.toArray.size = xs.length := by simp
  have hcl : CmpLays Try.prog 36 #[] labC 2 cfL g 0 xs.toArray.size w := fun _ _ _ _ x y => order_grow x y _
  have := AnyQ.slices_SortFunc_small_sorted Try.sortL 2 Try.isAgg41 Try.sizeOf41 labC (fun _ => rfl) (fun x v hv => by simp [labC] at hv; rcases hv with rfl | rfl <;> rfl) cfL 36 #[] swoL g 0 cap xs.toArray w hen hcl hH hg (by simpa using h12) hlenL
  rw [hs] at this
  refine this.mono ?_
  rintro e w' ⟨rfl, d', n, os, hp, hso, rfl⟩
  obtain ⟨hsz, _, hperm⟩ := hp
  rw [hs] at hsz
  have e1 : (d'.extract 0 xs.length).toList = d'.toList := by rw [← hsz]; simp
  have e2 : (xs.toArray.extract 0 xs.length).toList = xs := by simp
  rw [e1, e2] at hperm
  have hlen : d'.toList.length = xs.length := by simpa using hsz
  have hH2 := holdsK_sortWorldK_c labC 2 w g 0 xs.toArray d' n os hH hg (by simpa using hsz)
  have hSL := slat_of_holds (cap := cap) (ys := d'.toList) (by simpa using hH2) (Nat.lt_of_lt_of_le hg (size_sortWorldK_c labC 2 w g 0 n d' os)) (by omega) hc.2
  refine ⟨rfl, d'.toList, hperm, fun i j hij hj => ?_, hSL, sort_bel labC 2 w g 0 n d' os hg, fun hB => ?_⟩
  · have := hso i j (Nat.zero_le _) hij (by omega)
    rw [ltOf_cfL] at this
    have hj' : j < d'.size := by simpa using hj
    have q1 : d'[j]! = d'[j] := getElem!_pos d' j hj'
    have q2 : d'[i]! = d'[i]'(by omega) := getElem!_pos d' i (by omega)
    rw [q1, q2] at this
    simpa using this
  · rcases hown.2 with ⟨hv, _⟩ | ⟨g', cap', cur, hv, _, hblk, _, _, hsc, _⟩
    · cases hv
    · injection hv with q1 q2 q3
      injection q1 with q1
      injection q1 with q1
      subst q1 q3
      obtain ⟨cur', hb', hs'⟩ := sort_blockT labC 2 w g n d' os hg hblk
      exact own_of_cells hb' (by rw [hs', hsc]) hSL (by omega) hc.2 hB
end Go.Proofs.Ytndgollcganhmaa
/- Labels put in order, plain. No program in sight. -/
namespace Go.Proofs.Ytndgollcganhmaa
open Go.RowKit
def ltL (a b : Lab) : Prop := ltS a.name b.name = true
def neL (a b : Lab) : Prop := a.name ≠ b.name
theorem ltL_trans {a b c : Lab} (h : ltL a b) (k : ltL b c) : ltL a c := ltS_trans h k
theorem ltL_ne {a b : Lab} (h : ltL a b) : neL a b := by
  intro e
  unfold ltL at h
  rw [e, ltS_self] at h
  exact absurd h (by simp)
theorem rises_pair : ∀ {xs : List Lab}, risesB xs = true ↔ xs.Pairwise ltL
  | [] => by simp [risesB]
  | [x] => by simp [risesB]
  | x :: y :: r => by
    have ih := rises_pair (xs := y :: r)
    unfold risesB
    rw [Bool.and_eq_true, ih, List.pairwise_cons (a := x)]
    constructor
    · rintro ⟨h1, h2⟩
      refine ⟨fun z hz => ?_, h2⟩
      rcases List.mem_cons.1 hz with rfl | hz
      · exact h1
      · exact ltL_trans h1 ((List.pairwise_cons.1 h2).1 z hz)
    · rintro ⟨h1, h2⟩
      exact ⟨h1 y (by simp), h2⟩
theorem ne_pair {xs : List Lab} (h : risesB xs = true) : xs.Pairwise neL := (rises_pair.1 h).imp ltL_ne
theorem ne_perm {xs ys : List Lab} (h : xs.Perm ys) : xs.Pairwise neL ↔ ys.Pairwise neL := h.pairwise_iff fun h => fun e => h e.symm
theorem sorted_rises {ys : List Lab} (hs : ∀ i j (hi : i < j) (hj : j < ys.length), ltS ys[j].name (ys[i]'(by omega)).name = false) (hn : ys.Pairwise neL) : risesB ys = true := by
  rw [rises_pair, List.pairwise_iff_getElem]
  intro i j hi hj hij
  have h1 := hs i j hij hj
  have h2 := (List.pairwise_iff_getElem.1 hn) i j hi hj hij
  rcases ltS_total ys[i].name ys[j].name with h | h | h
  · exact h
  · exact absurd h h2
  · rw [h] at h1; exact absurd h1 (by simp)
theorem rises_unique : ∀ {xs ys : List Lab}, xs.Pairwise ltL → ys.Pairwise ltL → xs.Perm ys → xs = ys
  | [], ys, _, _, h => (List.Perm.nil_eq h)
  | x :: xs, [], _, _, h => absurd h.length_eq (by simp)
  | x :: xs, y :: ys, h1, h2, h => by
    have hx := (List.pairwise_cons.1 h1).1
    have hy := (List.pairwise_cons.1 h2).1
    have e : x = y := by
      have m1 : x ∈ y :: ys := h.subset (by simp)
      have m2 : y ∈ x :: xs := h.symm.subset (by simp)
      rcases List.mem_cons.1 m1 with e | m1
      · exact e
      · rcases List.mem_cons.1 m2 with e | m2
        · exact e.symm
        · have := ltL_trans (hx y m2) (hy x m1)
          exact absurd rfl (ltL_ne this)
    subst e
    rw [rises_unique (List.pairwise_cons.1 h1).2 (List.pairwise_cons.1 h2).2 (List.perm_cons x |>.1 h)]
/-- One label put in its place. -/
def insL (x : Lab) : List Lab → List Lab
  | [] => [x]
  | y :: r => if ltS x.name y.name = true then x :: y :: r else y :: insL x r
theorem insL_perm (x : Lab) : ∀ l : List Lab, (insL x l).Perm (x :: l)
  | [] => List.Perm.refl _
  | y :: r => by
    unfold insL
    split
    · exact List.Perm.refl _
    · exact ((insL_perm x r).cons y).trans (List.Perm.swap x y r)
theorem insL_rises (x : Lab) : ∀ l : List Lab, l.Pairwise ltL → (∀ y ∈ l, neL x y) → (insL x l).Pairwise ltL
  | [], _, _ => by simp [insL]
  | y :: r, h, hn => by
    obtain ⟨h1, h2⟩ := List.pairwise_cons.1 h
    unfold insL
    split
    · rename_i hlt
      refine List.pairwise_cons.2 ⟨fun z hz => ?_, h⟩
      rcases List.mem_cons.1 hz with rfl | hz
      · exact hlt
      · exact ltL_trans hlt (h1 z hz)
    · rename_i hlt
      have hyx : ltL y x := by
        rcases ltS_total x.name y.name with h3 | h3 | h3
        · exact absurd h3 hlt
        · exact absurd h3 (hn y (by simp))
        · exact h3
      refine List.pairwise_cons.2 ⟨fun z hz => ?_, insL_rises x r h2 fun z hz => hn z (by simp [hz])⟩
      rcases List.mem_cons.1 ((insL_perm x r).subset hz) with rfl | hz
      · exact hyx
      · exact h1 z hz
/-- All put in order, one behind the other; none: a name is there twice. -/
def sortO : List Lab → List Lab → Option (List Lab)
  | out, [] => some out
  | out, x :: r => if out.any (fun y => x.name.toList == y.name.toList) then none else sortO (insL x out) r
theorem any_name (x : Lab) (out : List Lab) : out.any (fun y => x.name.toList == y.name.toList) = true ↔ ∃ y ∈ out, x.name = y.name := by
  rw [List.any_eq_true]
  constructor
  · rintro ⟨y, hy, h⟩
    exact ⟨y, hy, bytes_of_eq h⟩
  · rintro ⟨y, hy, h⟩
    exact ⟨y, hy, by rw [h]; exact bytes_eq_self _⟩
theorem sortO_some : ∀ (xs out res : List Lab), out.Pairwise ltL → sortO out xs = some res → res.Pairwise ltL ∧ res.Perm (out ++ xs)
  | [], out, res, h, hs => by
    unfold sortO at hs
    injection hs with hs
    subst hs
    exact ⟨h, by rw [List.append_nil]⟩
  | x :: r, out, res, h, hs => by
    unfold sortO at hs
    split at hs
    · cases hs
    · rename_i hn
      have hne : ∀ y ∈ out, neL x y := fun y hy e => hn ((any_name x out).2 ⟨y, hy, e⟩)
      obtain ⟨h1, h2⟩ := sortO_some r (insL x out) res (insL_rises x out h hne) hs
      refine ⟨h1, h2.trans ?_⟩
      exact ((insL_perm x out).append_right r).trans List.perm_middle.symm
theorem sortO_none : ∀ (xs out : List Lab), sortO out xs = none → ¬ (out ++ xs).Pairwise neL
  | [], out, hs => by unfold sortO at hs; cases hs
  | x :: r, out, hs => by
    intro hp
    unfold sortO at hs
    split at hs
    · rename_i hn
      obtain ⟨y, hy, e⟩ := (any_name x out).1 hn
      have := (List.pairwise_append.1 hp).2.2 y hy x (by simp)
      exact this e.symm
    · refine sortO_none r (insL x out) hs ?_
      have : (insL x out ++ r).Perm (out ++ x :: r) := ((insL_perm x out).append_right r).trans List.perm_middle.symm
      exact (ne_perm this).2 hp
def sortE (xs : List Lab) : Int := if eachB xs = true then (match sortO [] xs with | some _ => 0 | none => 11) else 1
def sortL (xs : List Lab) : List Lab := if eachB xs = true then (sortO [] xs).getD [] else []
/-- Whatever sorts a list so, has made it this one, if it rises. -/
theorem sort_meets {xs ys : List Lab} (hp : ys.Perm xs) (hs : ∀ i j (hi : i < j) (hj : j < ys.length), ltS ys[j].name (ys[i]'(by omega)).name = false) :
    (risesB ys = true ∧ sortO [] xs = some ys) ∨ (risesB ys = false ∧ sortO [] xs = none) := by
  cases h : sortO [] xs with
  | some res =>
    obtain ⟨h1, h2⟩ := sortO_some xs [] res List.Pairwise.nil h
    rw [List.nil_append] at h2
    have hn : ys.Pairwise neL := (ne_perm (hp.trans h2.symm)).2 (h1.imp ltL_ne)
    have hr := sorted_rises hs hn
    have := rises_unique (rises_pair.1 hr) h1 (hp.trans h2.symm)
    exact .inl ⟨hr, by rw [this]⟩
  | none =>
    refine .inr ⟨?_, rfl⟩
    cases hr : risesB ys
    · rfl
    · exact absurd ((ne_perm hp).1 (ne_pair hr)) (by simpa using sortO_none xs [] h)
theorem eachB_perm {xs ys : List Lab} (h : ys.Perm xs) : eachB ys = eachB xs := by
  unfold eachB
  rw [h.length_eq, h.any_eq]
/-! ### the reference's inner loop -/
/-- What has been laid behind some of the labels, x put ahead of the first that it is less than. -/
def midL (x : Lab) : List Lab → List Lab
  | [] => []
  | y :: r => if ltS x.name y.name = true then x :: y :: r else y :: midL x r
/-- Is x less than one of them? -/
def lessAny (x : Lab) (l : List Lab) : Bool := l.any fun y => ltS x.name y.name
theorem midL_cons (x y : Lab) (r : List Lab) : midL x (y :: r) = if ltS x.name y.name = true then x :: y :: r else y :: midL x r := rfl
theorem midL_snoc_done (x y : Lab) : ∀ l : List Lab, lessAny x l = true → midL x (l ++ [y]) = midL x l ++ [y]
  | [], h => by simp [lessAny] at h
  | z :: r, h => by
    rw [List.cons_append, midL_cons, midL_cons]
    split
    · rfl
    · rename_i hz
      rw [midL_snoc_done x y r (by simpa [lessAny, hz] using h)]
      rfl
theorem midL_not (x : Lab) : ∀ l : List Lab, lessAny x l = false → midL x l = l ∧ insL x l = l ++ [x]
  | [], _ => ⟨rfl, rfl⟩
  | z :: r, h => by
    have h1 : ltS x.name z.name = false := by
      cases e : ltS x.name z.name
      · rfl
      · simp [lessAny, e] at h
    have h2 : lessAny x r = false := by simpa [lessAny, h1] using h
    obtain ⟨h3, h4⟩ := midL_not x r h2
    unfold midL insL
    rw [if_neg (by simp [h1]), if_neg (by simp [h1]), h3, h4]
    exact ⟨rfl, rfl⟩
theorem midL_ins (x : Lab) : ∀ l : List Lab, lessAny x l = true → midL x l = insL x l
  | [], h => by simp [lessAny] at h
  | z :: r, h => by
    unfold midL insL
    split
    · rfl
    · rename_i hz
      rw [midL_ins x r (by simpa [lessAny, hz] using h)]
theorem midL_snoc_here (x y : Lab) (l : List Lab) (h : lessAny x l = false) (hy : ltS x.name y.name = true) : midL x (l ++ [y]) = midL x l ++ [x, y] := by
  induction l with
  | nil => simp [midL, hy]
  | cons z r ih =>
    have h1 : ltS x.name z.name = false := by
      cases e : ltS x.name z.name
      · rfl
      · simp [lessAny, e] at h
    have h2 : lessAny x r = false := by simpa [lessAny, h1] using h
    rw [List.cons_append, midL_cons, midL_cons, if_neg (by simp [h1]), if_neg (by simp [h1]), ih h2]
    rfl
theorem midL_snoc_not (x y : Lab) (l : List Lab) (h : lessAny x l = false) (hy : ltS x.name y.name = false) : midL x (l ++ [y]) = midL x l ++ [y] := by
  have h1 : lessAny x (l ++ [y]) = false := by simp [lessAny] at *; exact ⟨h, hy⟩
  rw [(midL_not x _ h1).1, (midL_not x _ h).1]
end Go.Proofs.Ytndgollcganhmaa
/- Contract of label.Sort. -/
namespace Go.Proofs.Ytndgollcganhmaa
open Go.RowKit
attribute [local go_sem high] ext_size ext_cell ext_frozen alloc_cell alloc_frozen
def LabsRes (w : World) (xs : List Lab) (k : Int) (e : Ending) (w' : World) : Prop := ∃ v, e = .returned (.tuple #[v, .int .i64 k]) ∧ SlAt w' v 2 xs.length (labsC xs) ∧ FreshV w.heap.size v ∧ Below w.heap.size w w'
theorem each_len {xs : List Lab} (h : eachB xs = true) : 1 ≤ xs.length ∧ xs.length ≤ 3 := by
  unfold eachB at h
  simp only [Bool.and_eq_true, decide_eq_true_eq] at h
  exact h.1
def LabsOwn (w : World) (xs : List Lab) (k : Int) (e : Ending) (w' : World) : Prop := ∃ v, e = .returned (.tuple #[v, .int .i64 k]) ∧ w'.ownsRow w.heap.size 41 2 v xs.length (labsC xs) ∧ xs.length ≤ maxLen ∧ Below w.heap.size w w'
theorem LabsOwn.res {w : World} {xs : List Lab} {k : Int} {e : Ending} {w' : World} (h : LabsOwn w xs k e w') : LabsRes w xs k e w' := by
  obtain ⟨v, he, ho, hm, hb⟩ := h
  exact ⟨v, he, SlAt.of_own ho hm, FreshV.of_own ho, hb⟩
theorem labSort_own (v : Value) (xs : List Lab) (w : World) (hS : SlAt w v 2 xs.length (labsC xs)) (hL : LabsOk xs) :
    Calls Try.prog 12 #[v] w (LabsOwn w (sortL xs) (sortE xs)) := by
  obtain ⟨a, c, rfl, hnc, hcm⟩ := hS.form
  have HS := Lib.hid hS
  have HL := Lib.hid hL
  have HE := Lib.hid fun W (h : SlAt W (Value.slice a xs.length c) 2 xs.length (labsC xs)) => each_any _ xs W h hL
  obtain ⟨E, hE⟩ : ∃ E, E = sortE xs := ⟨_, rfl⟩
  obtain ⟨L, hLL⟩ : ∃ L, L = sortL xs := ⟨_, rfl⟩
  rw [← hE, ← hLL]
  unfold sortE at hE
  unfold sortL at hLL
  cases hb : eachB xs
  case false =>
    rw [hb] at HE
    rw [if_neg (by simp [hb])] at hE hLL
    subst hE hLL
    clear hb hS hL
    go_enter Try.func12, Try.ntmps12
    go_wp2_with fail
    refine (HE.out _ (HS.out.stay (by repeat (first | exact Below.refl _ _ | apply bal | apply bext | apply bdr | apply bdrN | (refine bst ?_ _ (by simp only [ext_size, size_alloc, size_set]; omega)))))).mono ?_
    rintro e w' ⟨rfl, hb⟩
    obtain ⟨y1, rfl⟩ := ext_of hb
    clear hb
    go_wp2_with fail
    go_ret2
    exact ⟨_, rfl, Go.Proofs.YtndgollcganhmaaW.PrintWords.own_nil _ _ _ _, Nat.zero_le _, (by repeat (first | exact Below.refl _ _ | apply bal | apply bext | apply bdr | apply bdrN | (refine bst ?_ _ (by simp only [ext_size, size_alloc, size_set]; omega))))⟩
  case true =>
    obtain ⟨l1, l3⟩ := each_len hb
    rw [hb] at HE
    rw [if_pos hb] at hE hLL
    have HB := Lib.hid hb
    have HEE := Lib.hid hE
    have HLE := Lib.hid hLL
    clear hb hS hL hE hLL
    obtain ⟨n, hn⟩ : ∃ n, n = xs.length := ⟨_, rfl⟩
    go_enter Try.func12, Try.ntmps12
    go_wp2_with fail
    refine (HE.out _ (HS.out.stay (by repeat (first | exact Below.refl _ _ | apply bal | apply bext | apply bdr | apply bdrN | (refine bst ?_ _ (by simp only [ext_size, size_alloc, size_set]; omega)))))).mono ?_
    rintro e w' ⟨rfl, hb⟩
    obtain ⟨y1, rfl⟩ := ext_of hb
    clear hb
    go_wp2_with fail
    refine (cloneL_any a c xs _ (HS.out.stay (by repeat (first | exact Below.refl _ _ | apply bal | apply bext | apply bdr | apply bdrN | (refine bst ?_ _ (by simp only [ext_size, size_alloc, size_set]; omega))))) (by omega) (by omega)).mono ?_
    rintro e w1 ⟨g, cap, rfl, hg, HOWN, hb1⟩
    obtain ⟨x1, rfl⟩ := ext_of hb1
    clear hb1
    obtain ⟨hlt, hc1, hc2⟩ := row_facts HOWN.out
    go_wp2_with fail
    refine (sortFuncL_any _ g cap xs _ HOWN.out hlt (by omega) ⟨hc1, hc2⟩).mono ?_
    rintro e w2 ⟨rfl, ys, hperm, hso, hs2, hb2, hown2⟩
    have hgw : w.heap.size ≤ g := by simp only [ext_size] at hg; omega
    have HOW2 := Lib.hid (Go.Proofs.YtndgollcganhmaaW.PrintWords.own_weaken (hown2 hg) (show w.heap.size ≤ (ext w y1).heap.size by simp only [ext_size]; omega))
    clear hown2
    have hb3 : Below w.heap.size w w2 := (show Below w.heap.size w (ext (ext w y1) x1) from (by repeat (first | exact Below.refl _ _ | apply bal | apply bext | apply bdr | apply bdrN | (refine bst ?_ _ (by simp only [ext_size, size_alloc, size_set]; omega))))).trans (hb2.mono hgw)
    obtain ⟨x2, rfl⟩ := ext_of hb3
    have HS2 := Lib.hid hs2
    have hok : LabsOk ys := fun y hy => HL.out y (hperm.subset hy)
    have HR := Lib.hid fun W (h : SlAt W (Value.slice (some ⟨g, 0, none⟩) ys.length cap) 2 ys.length (labsC ys)) => labRight_any _ ys W h hok
    have hlen := hperm.length_eq
    have HLEN := Lib.hid hlen
    have hE := HEE.out
    have hLL := HLE.out
    have hlb : labsB ys = (risesB ys && true) := by unfold labsB; rw [eachB_perm hperm, HB.out]
    rw [hlb, Bool.and_true] at HR
    rw [hlen] at HR HS2 HOW2
    have HGW := Lib.hid hgw
    clear hs2 hb2 hb3 hg hlt hgw HOWN hn hlb hlen hok
    rcases sort_meets hperm hso with ⟨h1, h2⟩ | ⟨h1, h2⟩
    · rw [h2] at hE hLL
      rw [h1] at HR
      have HLF := Lib.hid (show L = ys from hLL)
      have hE' : E = 0 := hE
      subst hE'
      clear h1 h2 hE hLL hso hperm
      go_wp2_with fail
      refine (HR.out _ (HS2.out.stay (by repeat (first | exact Below.refl _ _ | apply bal | apply bext | apply bdr | apply bdrN | (refine bst ?_ _ (by simp only [ext_size, size_alloc, size_set]; omega)))))).mono ?_
      rintro e w3 ⟨rfl, hb3⟩
      obtain ⟨x3, rfl⟩ := ext_of hb3
      clear hb3
      go_wp2_with fail
      go_ret2
      refine ⟨_, rfl, ?_, by rw [HLF.out, HLEN.out]; unfold maxLen; omega, (by repeat (first | exact Below.refl _ _ | apply bal | apply bext | apply bdr | apply bdrN | (refine bst ?_ _ (by simp only [ext_size, size_alloc, size_set]; omega))))⟩
      rw [HLF.out, HLEN.out]
      exact row_bel HOW2.out (by repeat (first | exact Below.refl _ _ | apply bal | apply bext | apply bdr | apply bdrN | (refine bst ?_ _ (by simp only [ext_size, size_alloc, size_set]; omega))))
    · rw [h2] at hE hLL
      rw [h1] at HR
      have HLF := Lib.hid (show L = [] from hLL)
      have hE' : E = 11 := hE
      subst hE'
      clear h1 h2 hE hLL hso hperm
      go_wp2_with fail
      refine (HR.out _ (HS2.out.stay (by repeat (first | exact Below.refl _ _ | apply bal | apply bext | apply bdr | apply bdrN | (refine bst ?_ _ (by simp only [ext_size, size_alloc, size_set]; omega)))))).mono ?_
      rintro e w3 ⟨rfl, hb3⟩
      obtain ⟨x3, rfl⟩ := ext_of hb3
      clear hb3
      go_wp2_with fail
      go_ret2
      refine ⟨_, rfl, ?_, by rw [HLF.out]; exact Nat.zero_le _, (by repeat (first | exact Below.refl _ _ | apply bal | apply bext | apply bdr | apply bdrN | (refine bst ?_ _ (by simp only [ext_size, size_alloc, size_set]; omega))))⟩
      rw [HLF.out]
      exact Go.Proofs.YtndgollcganhmaaW.PrintWords.own_nil _ _ _ _
theorem labSort_any (v : Value) (xs : List Lab) (w : World) (hS : SlAt w v 2 xs.length (labsC xs)) (hL : LabsOk xs) :
    Calls Try.prog 12 #[v] w (LabsRes w (sortL xs) (sortE xs)) := (labSort_own v xs w hS hL).mono fun _ _ h => h.res
end Go.Proofs.Ytndgollcganhmaa
/- The contracts of label's functions, in the printer's form. -/
namespace Go.Proofs.YtndgollcganhmaaQ.P
open Go.RowKit Go.Proofs.YtndgollcganhmaaW.PrintWords Go.Proofs.Ytndgollcganhmaa
def toLab (x : S41) : Lab := ⟨x.f0, x.f1⟩
def ofLab (x : Lab) : S41 := ⟨x.name, x.value⟩
def toMat (x : S35) : Mat := ⟨x.f0, x.f1, x.f2⟩
def ofMat (x : Mat) : S35 := ⟨x.kind, x.name, x.value⟩
theorem to_of_lab (x : Lab) : toLab (ofLab x) = x := rfl
theorem of_to_lab (x : S41) : ofLab (toLab x) = x := rfl
theorem to_of_mat (x : Mat) : toMat (ofMat x) = x := rfl
theorem of_to_mat (x : S35) : ofMat (toMat x) = x := rfl
theorem labs_to_of (xs : List Lab) : (xs.map ofLab).map toLab = xs := by simp [Function.comp_def, to_of_lab]
theorem labs_of_to (xs : List S41) : (xs.map toLab).map ofLab = xs := by simp [Function.comp_def, of_to_lab]
theorem labs_c {w : World} {A : Option Addr} {c : Nat} {xs : List S41} (h : Kd.C k41 w A xs.length xs) (hc : xs.length ≤ c) : SlAt w (.slice A xs.length c) 2 (xs.map toLab).length (labsC (xs.map toLab)) := by
  rw [List.length_map]
  exact slat_of_C (f := toLab) (en := labC) (fun h => k41_open h) (fun _ => rfl) (by decide) h hc
theorem mats_c {w : World} {A : Option Addr} {c : Nat} {xs : List S35} (h : Kd.C k35 w A xs.length xs) (hc : xs.length ≤ c) : SlAt w (.slice A xs.length c) 3 (xs.map toMat).length (matsC (xs.map toMat)) := by
  rw [List.length_map]
  exact slat_of_C (f := toMat) (en := matC) (fun h => k35_open h) (fun _ => rfl) (by decide) h hc
theorem labs_r {w : World} {B : Nat} {v : Value} {xs : List Lab} (h : w.ownsRow B 41 2 v xs.length (labsC xs)) : Kd.R k41 41 w B (fun _ => True) v (xs.map ofLab) :=
  R_of_own (g := ofLab) (en := labC) (fun w b ok y => k41_mkM w b ok (ofLab y)) (fun _ => rfl) h
def labOkB (x : S41) : Bool := decide (x.f0.size ≤ maxLen) && decide (x.f1.size ≤ maxLen)
def labsOkB (xs : List S41) : Bool := xs.all labOkB
def matOkB (x : S35) : Bool := decide (x.f1.size ≤ maxLen) && decide (x.f2.size ≤ maxLen)
def matsOkB (xs : List S35) : Bool := xs.all matOkB
theorem labs_ok {xs : List S41} (h : labsOkB xs = true) : LabsOk (xs.map toLab) := by
  intro x hx
  obtain ⟨y, hy, rfl⟩ := List.mem_map.1 hx
  have := List.all_eq_true.1 h y hy
  simp only [labOkB, Bool.and_eq_true, decide_eq_true_eq] at this
  exact this
theorem mats_ok {xs : List S35} (h : matsOkB xs = true) : MatsOk (xs.map toMat) := by
  intro x hx
  obtain ⟨y, hy, rfl⟩ := List.mem_map.1 hx
  have := List.all_eq_true.1 h y hy
  simp only [matOkB, Bool.and_eq_true, decide_eq_true_eq] at this
  exact this
theorem if_some {α : Type} {b : Bool} {x y : α} (h : (if b = true then some x else none) = some y) : b = true ∧ x = y := by
  split at h
  · exact ⟨‹_›, Option.some.inj h⟩
  · cases h
def label_Right.f (l0 : List (S41)) : Option (Bool) := if labsOkB l0 = true then some (labsB (l0.map toLab)) else none
theorem label_Right.calls (A0 : Option Addr) (c0 : Nat) (l0 : List (S41)) (r : Bool) (w : World) (hr0 : Kd.C k41 w A0 l0.length l0) (hc0 : l0.length ≤ c0) (h : label_Right.f l0 = some r) :
    Calls Try.prog 15 #[.slice A0 l0.length c0] w fun e w' => e = .returned (.bool r) ∧ Below w.heap.size w w' := by
  obtain ⟨h1, rfl⟩ := if_some h
  exact labRight_any _ _ w (labs_c hr0 hc0) (labs_ok h1)
def label_Sort.f (l0 : List (S41)) : Option ((List (S41)) × Int) := if labsOkB l0 = true then some ((sortL (l0.map toLab)).map ofLab, sortE (l0.map toLab)) else none
theorem label_Sort.calls (A0 : Option Addr) (c0 : Nat) (l0 : List (S41)) (r1 : List (S41)) (r2 : Int) (w : World) (hr0 : Kd.C k41 w A0 l0.length l0) (hc0 : l0.length ≤ c0) (h : label_Sort.f l0 = some (r1, r2)) :
    Calls Try.prog 12 #[.slice A0 l0.length c0] w fun e w' => ∃ v0_ : Value, e = .returned (.tuple #[v0_, .int .i64 r2]) ∧ Kd.R k41 41 w' w.heap.size (fun _ => True) v0_ r1 ∧ Below w.heap.size w w' := by
  obtain ⟨h1, h2⟩ := if_some h
  injection h2 with e1 e2
  subst e1 e2
  refine (labSort_own _ _ w (labs_c hr0 hc0) (labs_ok h1)).mono ?_
  rintro e w' ⟨v, he, ho, _, hb⟩
  exact ⟨v, he, labs_r ho, hb⟩
def label_Matcher.f (a0_0 : Int) (a0_1 : ByteArray) (a0_2 : ByteArray) : Option (Bool) := if matOkB ⟨a0_0, a0_1, a0_2⟩ = true then some (matB ⟨a0_0, a0_1, a0_2⟩) else none
theorem label_Matcher.calls (a0_0 : Int) (a0_1 : ByteArray) (a0_2 : ByteArray) (r : Bool) (w : World) (h : label_Matcher.f a0_0 a0_1 a0_2 = some r) :
    Calls Try.prog 19 #[.agg #[.int .i64 a0_0, .string a0_1, .string a0_2]] w fun e w' => e = .returned (.bool r) ∧ Below w.heap.size w w' := by
  obtain ⟨h1, rfl⟩ := if_some h
  simp only [matOkB, Bool.and_eq_true, decide_eq_true_eq] at h1
  exact matcher_any ⟨a0_0, a0_1, a0_2⟩ w h1.1 h1.2
def label_All.f (l0 : List (S35)) (l1 : List (S41)) : Option (Bool × Int) := if (matsOkB l0 && labsOkB l1) = true then some (decide (allE (l0.map toMat) (l1.map toLab) = 0) && allB (l0.map toMat) (l1.map toLab), allE (l0.map toMat) (l1.map toLab)) else none
theorem label_All.calls (A0 : Option Addr) (c0 : Nat) (l0 : List (S35)) (A1 : Option Addr) (c1 : Nat) (l1 : List (S41)) (r1 : Bool) (r2 : Int) (w : World) (hr0 : Kd.C k35 w A0 l0.length l0) (hc0 : l0.length ≤ c0) (hr1 : Kd.C k41 w A1 l1.length l1) (hc1 : l1.length ≤ c1) (h : label_All.f l0 l1 = some (r1, r2)) :
    Calls Try.prog 13 #[.slice A0 l0.length c0, .slice A1 l1.length c1] w fun e w' => e = .returned (.tuple #[.bool r1, .int .i64 r2]) ∧ Below w.heap.size w w' := by
  obtain ⟨h1, h2⟩ := if_some h
  rw [Bool.and_eq_true] at h1
  injection h2 with e1 e2
  subst e1 e2
  exact labAll_any _ _ _ _ w (mats_c hr0 hc0) (labs_c hr1 hc1) (mats_ok h1.1) (labs_ok h1.2)
end Go.Proofs.YtndgollcganhmaaQ.P
/- The contracts of layer 10's reference, in the printer's form. -/
namespace Go.Proofs.YtndgollcganhmaaQ.P
open Go.RowKit Go.Proofs.YtndgollcganhmaaW.PrintWords Go.Proofs.Ytndgollcganhmaa
def foghornref10_each.f (l0 : List S41) : Option Bool := if labsOkB l0 = true then some (eachB (l0.map toLab)) else none
theorem foghornref10_each.calls (A0 : Option Addr) (c0 : Nat) (l0 : List S41) (r : Bool) (w : World) (hr0 : Kd.C k41 w A0 l0.length l0) (hc0 : l0.length ≤ c0) (h : foghornref10_each.f l0 = some r) :
    Calls Try.prog 41 #[.slice A0 l0.length c0] w fun e w' => e = .returned (.bool r) ∧ Below w.heap.size w w' := by
  obtain ⟨h1, rfl⟩ := if_some h
  exact refEach_any _ _ w (labs_c hr0 hc0) (labs_ok h1)
def foghornref10_Right.f (l0 : List S41) : Option Bool := if labsOkB l0 = true then some (labsB (l0.map toLab)) else none
theorem foghornref10_Right.calls (A0 : Option Addr) (c0 : Nat) (l0 : List S41) (r : Bool) (w : World) (hr0 : Kd.C k41 w A0 l0.length l0) (hc0 : l0.length ≤ c0) (h : foghornref10_Right.f l0 = some r) :
    Calls Try.prog 16 #[.slice A0 l0.length c0] w fun e w' => e = .returned (.bool r) ∧ Below w.heap.size w w' := by
  obtain ⟨h1, rfl⟩ := if_some h
  exact refRight10_any _ _ w (labs_c hr0 hc0) (labs_ok h1)
def foghornref10_Same.f (l0 l1 : List S41) : Option Bool := some (decide (l0.map toLab = l1.map toLab))
theorem foghornref10_Same.calls (A0 : Option Addr) (c0 : Nat) (l0 : List S41) (A1 : Option Addr) (c1 : Nat) (l1 : List S41) (r : Bool) (w : World) (hr0 : Kd.C k41 w A0 l0.length l0) (hc0 : l0.length ≤ c0) (hr1 : Kd.C k41 w A1 l1.length l1) (hc1 : l1.length ≤ c1) (h : foghornref10_Same.f l0 l1 = some r) :
    Calls Try.prog 17 #[.slice A0 l0.length c0, .slice A1 l1.length c1] w fun e w' => e = .returned (.bool r) ∧ Below w.heap.size w w' := by
  obtain rfl := Option.some.inj h
  exact refSameL_any _ _ _ _ w (labs_c hr0 hc0) (labs_c hr1 hc1)
def foghornref10_Matcher.f (a0_0 : Int) (a0_1 : ByteArray) (a0_2 : ByteArray) : Option (Bool) := if matOkB ⟨a0_0, a0_1, a0_2⟩ = true then some (matB ⟨a0_0, a0_1, a0_2⟩) else none
theorem foghornref10_Matcher.calls (a0_0 : Int) (a0_1 : ByteArray) (a0_2 : ByteArray) (r : Bool) (w : World) (h : foghornref10_Matcher.f a0_0 a0_1 a0_2 = some r) :
    Calls Try.prog 20 #[.agg #[.int .i64 a0_0, .string a0_1, .string a0_2]] w fun e w' => e = .returned (.bool r) ∧ Below w.heap.size w w' := by
  obtain ⟨h1, rfl⟩ := if_some h
  simp only [matOkB, Bool.and_eq_true, decide_eq_true_eq] at h1
  exact refMatcher_any ⟨a0_0, a0_1, a0_2⟩ w h1.1 h1.2
def foghornref10_Matchers.f (l0 : List S35) : Option Bool := if matsOkB l0 = true then some (matsB (l0.map toMat)) else none
theorem foghornref10_Matchers.calls (A0 : Option Addr) (c0 : Nat) (l0 : List S35) (r : Bool) (w : World) (hr0 : Kd.C k35 w A0 l0.length l0) (hc0 : l0.length ≤ c0) (h : foghornref10_Matchers.f l0 = some r) :
    Calls Try.prog 21 #[.slice A0 l0.length c0] w fun e w' => e = .returned (.bool r) ∧ Below w.heap.size w w' := by
  obtain ⟨h1, rfl⟩ := if_some h
  exact refMatchers_any _ _ w (mats_c hr0 hc0) (mats_ok h1)
def foghornref10_All.f (l0 : List S35) (l1 : List S41) : Option Bool := if (matsOkB l0 && labsOkB l1 && (l0.map toMat).all matB) = true then some (allB (l0.map toMat) (l1.map toLab)) else none
theorem foghornref10_All.calls (A0 : Option Addr) (c0 : Nat) (l0 : List S35) (A1 : Option Addr) (c1 : Nat) (l1 : List S41) (r : Bool) (w : World) (hr0 : Kd.C k35 w A0 l0.length l0) (hc0 : l0.length ≤ c0) (hr1 : Kd.C k41 w A1 l1.length l1) (hc1 : l1.length ≤ c1) (h : foghornref10_All.f l0 l1 = some r) :
    Calls Try.prog 22 #[.slice A0 l0.length c0, .slice A1 l1.length c1] w fun e w' => e = .returned (.bool r) ∧ Below w.heap.size w w' := by
  obtain ⟨h1, rfl⟩ := if_some h
  simp only [Bool.and_eq_true] at h1
  exact refAll_any _ _ _ _ w (mats_c hr0 hc0) (labs_c hr1 hc1) (mats_ok h1.1.1) (labs_ok h1.1.2) (List.all_eq_true.1 h1.2)
end Go.Proofs.YtndgollcganhmaaQ.P
/- Printed by the kit's printer, with my stubs, for this claim. -/
namespace Go.Proofs.YtndgollcganhmaaQ.P
open Go.RowKit Go.Proofs.YtndgollcganhmaaW.PrintWords Go.Proofs.YtndgollcganhmaaW.PrintLast Go.Proofs.YtndgollcganhmaaW.PrintMore
attribute [local go_sem] max2_int min2_int max_two min_two max_three min_three max_four min_four   -- for this text's walks alone

/-! ### foghornref10_Sort: function 14 -/
mutual
def foghornref10_Sort.l0 : Nat → List (S41) → List (S41) → Int → Int → Option ((List (S41)) × Int)
  | 0, _, _, _, _ => none
  | k + 1, x4, x15, x16, x17 => if x17 < x16 then (if 0 ≤ x17 then (if x17 < (x15.length : Int) then (foghornref10_Sort.l1 k (([] : List (S41))) false x15 x16 x17 x4 (x4.length : Int) 0 ((rd_T41 x15 x17).f0) ((rd_T41 x15 x17).f1)) else (none)) else (none)) else (some (x4, 0))
def foghornref10_Sort.l1 : Nat → List (S41) → Bool → List (S41) → Int → Int → List (S41) → Int → Int → ByteArray → ByteArray → Option ((List (S41)) × Int)
  | 0, _, _, _, _, _, _, _, _, _, _ => none
  | k + 1, x7, x8, x15, x16, x17, x22, x23, x24, x125000, x125001 => if x24 < x23 then (if 0 ≤ x24 then (if x24 < (x22.length : Int) then (if x125000.toList = ((rd_T41 x22 x24).f0).toList then (some (([] : List (S41)), 11)) else (if x8 = true then (if x7.length < 4398046511104 then (foghornref10_Sort.l1 k (x7 ++ [(⟨(rd_T41 x22 x24).f0, (rd_T41 x22 x24).f1⟩ : S41)]) x8 x15 x16 x17 x22 x23 (wrap64 (x24 + 1)) x125000 x125001) else (none)) else (if (Op.bytesLess x125000.toList (((rd_T41 x22 x24).f0).toList)) = true then (if x7.length < 4398046511104 then ((some (x7 ++ [(⟨x125000, x125001⟩ : S41)] : List (S41))).bind fun y136 => (if y136.length < 4398046511104 then (foghornref10_Sort.l1 k (y136 ++ [(⟨(rd_T41 x22 x24).f0, (rd_T41 x22 x24).f1⟩ : S41)]) true x15 x16 x17 x22 x23 (wrap64 (x24 + 1)) x125000 x125001) else (none))) else (none)) else (if x7.length < 4398046511104 then (foghornref10_Sort.l1 k (x7 ++ [(⟨(rd_T41 x22 x24).f0, (rd_T41 x22 x24).f1⟩ : S41)]) x8 x15 x16 x17 x22 x23 (wrap64 (x24 + 1)) x125000 x125001) else (none))))) else (none)) else (none)) else (if x8 = true then (foghornref10_Sort.l0 k x7 x15 x16 (wrap64 (x17 + 1))) else (if x7.length < 4398046511104 then (foghornref10_Sort.l0 k (x7 ++ [(⟨x125000, x125001⟩ : S41)]) x15 x16 (wrap64 (x17 + 1))) else (none)))
end
def foghornref10_Sort.f (k : Nat) (l0 : List (S41)) : Option ((List (S41)) × Int) := (foghornref10_each.f l0).bind fun t119 => (if t119 = true then (foghornref10_Sort.l0 k (([] : List (S41))) l0 (l0.length : Int) 0) else (some (([] : List (S41)), 1)))
theorem foghornref10_Sort.mono_l : ∀ k, (∀ y0 y1 y2 y3, LeO (foghornref10_Sort.l0 k y0 y1 y2 y3) (foghornref10_Sort.l0 (k + 1) y0 y1 y2 y3)) ∧ (∀ y0 y1 y2 y3 y4 y5 y6 y7 y8 y9, LeO (foghornref10_Sort.l1 k y0 y1 y2 y3 y4 y5 y6 y7 y8 y9) (foghornref10_Sort.l1 (k + 1) y0 y1 y2 y3 y4 y5 y6 y7 y8 y9))
  | 0 => ⟨fun _ _ _ _ r h => by simp [foghornref10_Sort.l0] at h, fun _ _ _ _ _ _ _ _ _ _ r h => by simp [foghornref10_Sort.l1] at h⟩
  | k + 1 => by
    obtain ⟨ih0, ih1⟩ := foghornref10_Sort.mono_l k
    refine ⟨?_, ?_⟩
    · intro y0 y1 y2 y3
      unfold foghornref10_Sort.l0
      repeat' first
      | (with_reducible exact ih0 _ _ _ _)
      | (with_reducible exact ih1 _ _ _ _ _ _ _ _ _ _)
      | (with_reducible exact LeO.refl _)
      | (with_reducible exact LeO.none _)
      | (with_reducible refine LeO.ite ?_ ?_)
      | (with_reducible refine LeO.bind ?_ (fun _ => ?_))
      | exact ih0 _ _ _ _
      | exact ih1 _ _ _ _ _ _ _ _ _ _
      | exact LeO.none _
      | refine LeO.ite ?_ ?_
      | refine LeO.bind ?_ (fun _ => ?_)
    · intro y0 y1 y2 y3 y4 y5 y6 y7 y8 y9
      unfold foghornref10_Sort.l1
      repeat' first
      | (with_reducible exact ih0 _ _ _ _)
      | (with_reducible exact ih1 _ _ _ _ _ _ _ _ _ _)
      | (with_reducible exact LeO.refl _)
      | (with_reducible exact LeO.none _)
      | (with_reducible refine LeO.ite ?_ ?_)
      | (with_reducible refine LeO.bind ?_ (fun _ => ?_))
      | exact ih0 _ _ _ _
      | exact ih1 _ _ _ _ _ _ _ _ _ _
      | exact LeO.none _
      | refine LeO.ite ?_ ?_
      | refine LeO.bind ?_ (fun _ => ?_)
theorem foghornref10_Sort.mono : ∀ a0 k, LeO (foghornref10_Sort.f k a0) (foghornref10_Sort.f (k + 1) a0) := by
  intro a0 k
  obtain ⟨ih0, ih1⟩ := foghornref10_Sort.mono_l k
  unfold foghornref10_Sort.f
  repeat' first
      | (with_reducible exact ih0 _ _ _ _)
      | (with_reducible exact ih1 _ _ _ _ _ _ _ _ _ _)
      | (with_reducible exact LeO.refl _)
      | (with_reducible exact LeO.none _)
      | (with_reducible refine LeO.ite ?_ ?_)
      | (with_reducible refine LeO.bind ?_ (fun _ => ?_))
      | exact ih0 _ _ _ _
      | exact ih1 _ _ _ _ _ _ _ _ _ _
      | exact LeO.none _
      | refine LeO.ite ?_ ?_
      | refine LeO.bind ?_ (fun _ => ?_)
set_option maxHeartbeats 8000000 in
set_option maxRecDepth 100000 in
theorem foghornref10_Sort.calls (k : Nat) (A0 : Option Addr) (c0 : Nat) (l0 : List (S41)) (r1 : List (S41)) (r2 : Int) (w : World) (hr0 : Kd.C k41 w A0 l0.length l0) (hc0 : l0.length ≤ c0) (h : foghornref10_Sort.f k l0 = some (r1, r2)) :
    Calls Try.prog 14 #[.slice A0 l0.length c0] w fun e w' => ∃ v0_ : Value, e = .returned (.tuple #[v0_, .int .i64 r2]) ∧ Kd.R k41 41 w' w.heap.size (fun _ => True) v0_ r1 ∧ Below w.heap.size w w' := by
  have hu41 := Try.underlying41
  have HR0 := Aside0.mk hr0
  have HC0 := Aside0.mk hc0
  clear hr0 hc0
  have HB := Aside0.mk (Below.refl w.heap.size w)
  have H : ((foghornref10_each.f l0).bind fun t119 => (if t119 = true then (foghornref10_Sort.l0 k (([] : List (S41))) l0 (l0.length : Int) 0) else (some (([] : List (S41)), 1)))) = some (r1, r2) := h
  clear h
  replace H := Option.bind_eq_some_iff.mp H
  obtain ⟨t119, A20, H⟩ := H
  replace H : (if t119 = true then (foghornref10_Sort.l0 k (([] : List (S41))) l0 (l0.length : Int) 0) else (some (([] : List (S41)), 1))) = some (r1, r2) := H
  have A2 := Aside0.mk A20
  clear A20
  by_cases c3 : t119 = true
  · subst c3
    have H1 : (foghornref10_Sort.l0 k (([] : List (S41))) l0 (l0.length : Int) 0) = some (r1, r2) := by rw [if_pos rfl] at H; exact H
    clear H
    have H := H1
    clear H1
    obtain ⟨y120, hy120⟩ : ∃ y_ : List (S41), y_ = (([] : List (S41))) := ⟨_, rfl⟩
    replace H : (foghornref10_Sort.l0 k y120 l0 (l0.length : Int) 0) = some (r1, r2) := by first | (rw [hy120]; with_reducible exact H) | (have H2_ := (Option.bind_some _ _).symm.trans H; rw [hy120]; with_reducible exact H2_) | (have H2_ := (Option.bind_some _ _).symm.trans H; with_reducible exact H2_) | with_reducible exact H | (rw [hy120]; exact H) | exact H
    have Ny120 := Aside0.mk hy120
    clear hy120
    have H' := Aside0.mk H
    clear H
    go_enter Try.func14, Try.ntmps14
    go_wp2_with (first | ((with_reducible refine gate_callee (f := 41) rfl ?_); refine goesL_ (some 12) rfl rfl Try.func41 (by kernel_rfl) rfl #[.slice A0 l0.length c0] rfl (by (try simp only [List.map_toArray, List.map_cons, List.map_nil]); first | done | rfl | (simp only [List.length_drop, List.length_take]; rfl)) ?_; (with_reducible refine (foghornref10_each.calls _ _ l0 true _ ?side1 ?side2 A2.out).mono ?_); (case side1 => repeat (first | exact HR0.out | (with_reducible refine Kd.C_alloc ?_ _) | (with_reducible refine Kd.C_drewN ?_ _) | (with_reducible refine Kd.C_drew ?_))); (case side2 => exact HC0.out); rintro e w4 ⟨rfl, hb⟩; refine ⟨_, rfl, ?_⟩; have n0_ := Aside0.mk (below_step (by repeat (first | (with_reducible first | exact HB.out | apply below_alloc | apply pw_below_drewN | apply below_drew1) | exact HB.out)) hb); clear HB; have HB := n0_; clear n0_; (try clear hb); (try clear hb2); (try clear hk); (try clear hi)) | ((with_reducible refine gate_dst (N := 14) rfl ?_); refine Kd.R_lit k41 _ 41 ?hg (N := 14) ?hd (xs := ([] : List (S41))) (inner := []) (ok := fun _ => True) (okp := fun _ => True) ?hr ?hp (fun _ hk => hk) trivial (Below.refl _ _) (Nat.le_refl _) (by simp) ?_; (case hd => rfl); (case hg => rfl); (case hr => first | (go_simp; done) | (go_simp; rfl)); (case hp => exact (Reps.none _ _)); intro v121 w5 ho6 hb hg_ hnew_; clear hg_ hnew_; (first | rw [← Ny120.out] at ho6 | (simp only [Int.reduceToNat] at ho6; rw [← Ny120.out] at ho6)); have n0_ := Aside0.mk (Kd.R_lower ho6 (below_size (by repeat (first | (with_reducible first | exact HB.out | apply below_alloc | apply pw_below_drewN | apply below_drew1) | exact HB.out)))); have n1_ := Aside0.mk (below_step (by repeat (first | (with_reducible first | exact HB.out | apply below_alloc | apply pw_below_drewN | apply below_drew1) | exact HB.out)) hb); clear HB; have HO122 := n0_; have HB := n1_; clear n0_ n1_; clear hb ho6))
    go_loopg [4, 17] k (fun kq v4 v17 w' => ∃ (x4_1 : List (S41)) (x17_1 : Int), v17 = .int .i64 x17_1 ∧ Aside0 (foghornref10_Sort.l0 kq x4_1 l0 (l0.length : Int) x17_1 = some (r1, r2)) ∧ Aside0 (kq ≤ k) ∧ Aside0 (Kd.R k41 41 w' w.heap.size (fun _ => True) v4 x4_1) ∧ Aside0 (Below w.heap.size w w'))
    case atStart => exact ⟨(y120), (0), (by first | rfl | (simp; done) | (simp [*]; done)), H', ⟨Nat.le_refl _⟩, ⟨by (with_reducible repeat (first | apply Kd.R_alloc | apply Kd.R_drewN | apply Kd.R_drew)); exact HO122.out⟩, ⟨by repeat (first | (with_reducible first | exact HB.out | apply below_alloc | apply pw_below_drewN | apply below_drew1) | exact HB.out)⟩⟩
    case round =>
      clear H'
      try clear c1
      try clear p2
      try clear c3
      try clear c4
      obtain ⟨x4_1, x17_1, rfl, HA, HK1, HO_4, HB⟩ := hrel
      cases gk with
      | zero => exact absurd HA.out (by simp [foghornref10_Sort.l0])
      | succ k1 =>
        have H := HA.out
        clear HA
        simp only [foghornref10_Sort.l0] at H
        by_cases c7 : x17_1 < (l0.length : Int)
        · rw [if_pos c7] at H
          have c7b0 : decide (x17_1 < (l0.length : Int)) = true := decide_eq_true c7
          clear c7
          by_cases c8 : 0 ≤ x17_1
          · rw [if_pos c8] at H
            have c8b0 : decide (0 ≤ x17_1) = true := decide_eq_true c8
            clear c8
            by_cases c9 : x17_1 < (l0.length : Int)
            · rw [if_pos c9] at H
              have c9b0 : decide (x17_1 < (l0.length : Int)) = true := decide_eq_true c9
              clear c9
              obtain ⟨y125, hy125⟩ : ∃ y_ : List (S41), y_ = (([] : List (S41))) := ⟨_, rfl⟩
              replace H : (foghornref10_Sort.l1 k1 y125 false l0 (l0.length : Int) x17_1 x4_1 (x4_1.length : Int) 0 ((rd_T41 l0 x17_1).f0) ((rd_T41 l0 x17_1).f1)) = some (r1, r2) := by first | (rw [hy125]; with_reducible exact H) | (have H2_ := (Option.bind_some _ _).symm.trans H; rw [hy125]; with_reducible exact H2_) | (have H2_ := (Option.bind_some _ _).symm.trans H; with_reducible exact H2_) | with_reducible exact H | (rw [hy125]; exact H) | exact H
              have Ny125 := Aside0.mk hy125
              clear hy125
              have H' := Aside0.mk H
              clear H
              have p123 : 0 ≤ (x17_1 : Int) := of_decide_eq_true (by first | (with_reducible assumption) | assumption)
              have q123 : x17_1 < (l0.length : Int) := of_decide_eq_true (by first | (with_reducible assumption) | assumption)
              obtain ⟨ad123, e123, hx123_0, hx123_1⟩ := at_T41 HR0.out x17_1 p123 q123
              cases e123
              replace hx123_0 := (HB.out.cell (World.block_lt_of_cell? w _ hx123_0)).trans hx123_0
              replace hx123_1 := (HB.out.cell (World.block_lt_of_cell? w _ hx123_1)).trans hx123_1
              replace p123 := eq_true p123
              replace q123 := eq_true q123
              go_wp2_with (first | ((with_reducible refine gate_dst (N := 6) rfl ?_); refine box_event ?hg (N := 6) ?hd (cs := #[.string (⟨#[]⟩ : ByteArray), .string (⟨#[]⟩ : ByteArray)]) (t := 41) ?hr ?_; (case hd => rfl); (case hg => rfl); (case hr => first | (go_simp; done) | (go_simp; rfl)); intro gb124 hg w10 hbox hb; have n0_ := Aside0.mk (Kd.R_below (Kd.R_elderB (by (with_reducible repeat (first | apply Kd.R_alloc | apply Kd.R_drewN | apply Kd.R_drew)); exact HO_4.out) gb124 (Nat.le_of_eq hg.symm)) hb); have n1_ := Aside0.mk (below_step (by repeat (first | (with_reducible first | exact HB.out | apply below_alloc | apply pw_below_drewN | apply below_drew1) | exact HB.out)) hb); have n2_ := Aside0.mk (hbox); have n3_ := Aside0.mk ((by rw [hg]; exact (below_size (by repeat (first | (with_reducible first | exact HB.out | apply below_alloc | apply pw_below_drewN | apply below_drew1) | exact HB.out))) : w.heap.size ≤ gb124)); have n4_ := Aside0.mk ((by rw [hg]; exact (below_size (by repeat (first | (with_reducible first | exact HB.out | apply below_alloc | apply pw_below_drewN | apply below_drew1) | exact HB.out))) : w.heap.size ≤ gb124)); clear HO_4; clear HB; have HO_4 := n0_; have HB := n1_; have BK124 := n2_; have GW124 := n3_; have GE124 := n4_; clear n0_ n1_ n2_ n3_ n4_; clear hb hbox hg; have hcz11_0 : w10.cell? ⟨gb124, 0, none⟩ = some (.string (⟨#[]⟩ : ByteArray)) := (blk_cell BK124.out 0).trans rfl; have hcz11_1 : w10.cell? ⟨gb124, 1, none⟩ = some (.string (⟨#[]⟩ : ByteArray)) := (blk_cell BK124.out 1).trans rfl; have hfz11_0 := blk_frozen BK124.out 0; have hfz11_1 := blk_frozen BK124.out 1) | ((with_reducible refine gate_dst (N := 21) rfl ?_); refine Kd.R_lit k41 _ 41 ?hg (N := 21) ?hd (xs := ([] : List (S41))) (inner := []) (ok := fun _ => True) (okp := fun _ => True) ?hr ?hp (fun _ hk => hk) trivial (Below.refl _ _) (Nat.le_refl _) (by simp) ?_; (case hd => rfl); (case hg => rfl); (case hr => first | (go_simp; done) | (go_simp; rfl)); (case hp => exact (Reps.none _ _)); intro v126 w12 ho13 hb hg_ hnew_; clear hg_ hnew_; (first | rw [← Ny125.out] at ho13 | (simp only [Int.reduceToNat] at ho13; rw [← Ny125.out] at ho13)); have n0_ := Aside0.mk (Kd.R_elder' (by (with_reducible repeat (first | apply Kd.R_alloc | apply Kd.R_drewN | apply Kd.R_drew)); exact (Kd.R_mono (Kd.R_far (p := ⟨gb124, 1, none⟩) (Kd.R_far (p := ⟨gb124, 0, none⟩) (Kd.R_mono HO_4.out (fun k_ hk => (⟨hk, hk.2⟩ : _ ∧ k_ ≠ gb124))) (fun _ hk => hk.2) (.string ((rd_T41 l0 x17_1).f0))) (fun _ hk => hk.2) (.string ((rd_T41 l0 x17_1).f1))) (fun _ h_ => h_.1))) (Kd.R_base ho13) hb); have n1_ := Aside0.mk (Kd.R_lower (Kd.R_newB (Kd.R_new' ho13 (Kd.R_lt (by (with_reducible repeat (first | apply Kd.R_alloc | apply Kd.R_drewN | apply Kd.R_drew)); exact (Kd.R_mono (Kd.R_far (p := ⟨gb124, 1, none⟩) (Kd.R_far (p := ⟨gb124, 0, none⟩) (Kd.R_mono HO_4.out (fun k_ hk => (⟨hk, hk.2⟩ : _ ∧ k_ ≠ gb124))) (fun _ hk => hk.2) (.string ((rd_T41 l0 x17_1).f0))) (fun _ hk => hk.2) (.string ((rd_T41 l0 x17_1).f1))) (fun _ h_ => h_.1))))) (g := gb124) (o := .cells #[.string ((rd_T41 l0 x17_1).f0), .string ((rd_T41 l0 x17_1).f1)] 41 (0, 0)) (by (with_reducible repeat (first | refine blk_drewN ?_ _ | refine blk_drew ?_ | refine blk_alloc ?_ _)); refine blk_put (cs := #[.string ((rd_T41 l0 x17_1).f0), .string (⟨#[]⟩ : ByteArray)]) ?_ 1 _ rfl; (with_reducible repeat (first | refine blk_drewN ?_ _ | refine blk_drew ?_ | refine blk_alloc ?_ _)); refine blk_put (cs := #[.string (⟨#[]⟩ : ByteArray), .string (⟨#[]⟩ : ByteArray)]) ?_ 0 _ rfl; (with_reducible repeat (first | refine blk_drewN ?_ _ | refine blk_drew ?_ | refine blk_alloc ?_ _)); exact BK124.out)) (below_size (by repeat (first | (with_reducible first | exact HB.out | apply below_alloc | apply pw_below_drewN | apply below_drew1 | refine below_set ?_ GE124.out) | exact HB.out)))); have n2_ := Aside0.mk (blk_below (g := gb124) (o := .cells #[.string ((rd_T41 l0 x17_1).f0), .string ((rd_T41 l0 x17_1).f1)] 41 (0, 0)) (by (with_reducible repeat (first | refine blk_drewN ?_ _ | refine blk_drew ?_ | refine blk_alloc ?_ _)); refine blk_put (cs := #[.string ((rd_T41 l0 x17_1).f0), .string (⟨#[]⟩ : ByteArray)]) ?_ 1 _ rfl; (with_reducible repeat (first | refine blk_drewN ?_ _ | refine blk_drew ?_ | refine blk_alloc ?_ _)); refine blk_put (cs := #[.string (⟨#[]⟩ : ByteArray), .string (⟨#[]⟩ : ByteArray)]) ?_ 0 _ rfl; (with_reducible repeat (first | refine blk_drewN ?_ _ | refine blk_drew ?_ | refine blk_alloc ?_ _)); exact BK124.out) hb); have n3_ := Aside0.mk (below_step (by repeat (first | (with_reducible first | exact HB.out | apply below_alloc | apply pw_below_drewN | apply below_drew1 | refine below_set ?_ GE124.out) | exact HB.out)) hb); clear HO_4; clear BK124; clear HB; have HO_4 := n0_; have HO127 := n1_; have BK124 := n2_; have HB := n3_; clear n0_ n1_ n2_ n3_; clear hb ho13; obtain ⟨Ao14, co14, eo14⟩ := Kd.R_slice HO_4.out; subst eo14))
              go_loopg [7, 8, 24] k1 (fun kq v7 v8 v24 w' => ∃ (x7_2 : List (S41)) (x8_2 : Bool) (x24_2 : Int), v8 = .bool x8_2 ∧ v24 = .int .i64 x24_2 ∧ Aside0 (foghornref10_Sort.l1 kq x7_2 x8_2 l0 (l0.length : Int) x17_1 x4_1 (x4_1.length : Int) x24_2 ((rd_T41 l0 x17_1).f0) ((rd_T41 l0 x17_1).f1) = some (r1, r2)) ∧ Aside0 (kq ≤ k1) ∧ Aside0 (Kd.R k41 41 w' w.heap.size (fun k_ => some k_ ≠ ((.slice Ao14 x4_1.length co14) : Value).ownBlock ∧ k_ ≠ gb124) v7 x7_2) ∧ Aside0 (Kd.R k41 41 w' w.heap.size (fun k_ => some k_ ≠ (v7 : Value).ownBlock ∧ k_ ≠ gb124) (.slice Ao14 x4_1.length co14) x4_1) ∧ Aside0 (w'.heap[gb124]? = some (.cells #[.string ((rd_T41 l0 x17_1).f0), .string ((rd_T41 l0 x17_1).f1)] 41 (0, 0))) ∧ Aside0 (Below w.heap.size w w'))
              case atStart => exact ⟨(y125), (false), (0), (by first | rfl | (simp; done) | (simp [*]; done)), (by first | rfl | (simp; done) | (simp [*]; done)), H', ⟨Nat.le_refl _⟩, ⟨by (with_reducible repeat (first | apply Kd.R_alloc | apply Kd.R_drewN | apply Kd.R_drew)); exact Kd.R_mono HO127.out (fun _ hk => ⟨hk.1.2, hk.2⟩)⟩, ⟨by (with_reducible repeat (first | apply Kd.R_alloc | apply Kd.R_drewN | apply Kd.R_drew)); exact Kd.R_mono HO_4.out (fun _ hk => ⟨hk.2, hk.1.2⟩)⟩, ⟨by (with_reducible repeat (first | refine blk_drewN ?_ _ | refine blk_drew ?_ | refine blk_alloc ?_ _)); exact BK124.out⟩, ⟨by repeat (first | (with_reducible first | exact HB.out | apply below_alloc | apply pw_below_drewN | apply below_drew1 | refine below_set ?_ GE124.out) | exact HB.out)⟩⟩
              case round =>
                clear H'
                try clear c1
                try clear p1
                try clear q1
                try clear hx1
                try clear p2
                try clear c3
                try clear c4
                try clear c7
                try clear c7b0
                try clear c8
                try clear c8b0
                try clear c9
                try clear c9b0
                try clear p12
                try clear q12
                try clear hx12
                try clear c14
                try clear hcz11_0
                try clear hcz11_1
                try clear hfz11_0
                try clear hfz11_1
                try clear hx123_0
                try clear hx123_1
                try clear p123
                try clear p2
                try clear q123
                obtain ⟨x7_2, x8_2, x24_2, rfl, rfl, HA, HK2, HO_7, HO_22, BK124, HB⟩ := hrel
                cases gk with
                | zero => exact absurd HA.out (by simp [foghornref10_Sort.l1])
                | succ k2 =>
                  have H := HA.out
                  clear HA
                  simp only [foghornref10_Sort.l1] at H
                  by_cases c15 : x24_2 < (x4_1.length : Int)
                  · rw [if_pos c15] at H
                    have c15b0 : decide (x24_2 < (x4_1.length : Int)) = true := decide_eq_true c15
                    clear c15
                    by_cases c16 : 0 ≤ x24_2
                    · rw [if_pos c16] at H
                      have c16b0 : decide (0 ≤ x24_2) = true := decide_eq_true c16
                      clear c16
                      by_cases c17 : x24_2 < (x4_1.length : Int)
                      · rw [if_pos c17] at H
                        have c17b0 : decide (x24_2 < (x4_1.length : Int)) = true := decide_eq_true c17
                        clear c17
                        by_cases c18 : ((rd_T41 l0 x17_1).f0).toList = ((rd_T41 x4_1 x24_2).f0).toList
                        · rw [if_pos c18] at H
                          have c18b0 : (((rd_T41 l0 x17_1).f0).toList == ((rd_T41 x4_1 x24_2).f0).toList) = true := beq_iff_eq.mpr c18
                          have c18b1 : (((rd_T41 l0 x17_1).f0).toList != ((rd_T41 x4_1 x24_2).f0).toList) = false := bne_eq_false_iff_eq.mpr c18
                          clear c18
                          simp only [Option.some.injEq, Prod.mk.injEq] at H
                          obtain ⟨rfl, rfl⟩ := H
                          have p131 : 0 ≤ (x24_2 : Int) := of_decide_eq_true (by first | (with_reducible assumption) | assumption)
                          have q131 : x24_2 < (x4_1.length : Int) := of_decide_eq_true (by first | (with_reducible assumption) | assumption)
                          obtain ⟨ad131, e131, hx131_0, hx131_1⟩ := at_T41 (Kd.R_reads' HO_22.out).2.2 x24_2 p131 q131
                          cases e131
                          replace p131 := eq_true p131
                          replace q131 := eq_true q131
                          go_wp2_with (first | ((with_reducible refine gate_dst (N := 10) rfl ?_); refine box_event ?hg (N := 10) ?hd (cs := #[.string (⟨#[]⟩ : ByteArray), .string (⟨#[]⟩ : ByteArray)]) (t := 41) ?hr ?_; (case hd => rfl); (case hg => rfl); (case hr => first | (go_simp; done) | (go_simp; rfl)); intro gb132 hg w19 hbox hb; have n0_ := Aside0.mk (Kd.R_below (Kd.R_elderB (by (with_reducible repeat (first | apply Kd.R_alloc | apply Kd.R_drewN | apply Kd.R_drew)); exact HO_7.out) gb132 (Nat.le_of_eq hg.symm)) hb); have n1_ := Aside0.mk (Kd.R_below (Kd.R_elderB (by (with_reducible repeat (first | apply Kd.R_alloc | apply Kd.R_drewN | apply Kd.R_drew)); exact HO_22.out) gb132 (Nat.le_of_eq hg.symm)) hb); have n2_ := Aside0.mk (blk_below (g := gb124) (o := .cells #[.string ((rd_T41 l0 x17_1).f0), .string ((rd_T41 l0 x17_1).f1)] 41 (0, 0)) (by (with_reducible repeat (first | refine blk_drewN ?_ _ | refine blk_drew ?_ | refine blk_alloc ?_ _)); exact BK124.out) hb); have n3_ := Aside0.mk (below_step (by repeat (first | (with_reducible first | exact HB.out | apply below_alloc | apply pw_below_drewN | apply below_drew1 | refine below_set ?_ GE124.out) | exact HB.out)) hb); have n4_ := Aside0.mk (hbox); have n5_ := Aside0.mk ((by rw [hg]; exact (below_size (by repeat (first | (with_reducible first | exact HB.out | apply below_alloc | apply pw_below_drewN | apply below_drew1 | refine below_set ?_ GE124.out) | exact HB.out))) : w.heap.size ≤ gb132)); have n6_ := Aside0.mk ((by rw [hg]; exact (below_size (by repeat (first | (with_reducible first | exact HB.out | apply below_alloc | apply pw_below_drewN | apply below_drew1 | refine below_set ?_ GE124.out) | exact HB.out))) : w.heap.size ≤ gb132)); have n7_ := Aside0.mk ((by rw [hg]; exact Nat.ne_of_lt (blk_lt (g := gb124) (o := .cells #[.string ((rd_T41 l0 x17_1).f0), .string ((rd_T41 l0 x17_1).f1)] 41 (0, 0)) (by (with_reducible repeat (first | refine blk_drewN ?_ _ | refine blk_drew ?_ | refine blk_alloc ?_ _)); exact BK124.out)) : gb124 ≠ gb132)); have n8_ := Aside0.mk ((by rw [hg]; exact Nat.ne_of_gt (blk_lt (g := gb124) (o := .cells #[.string ((rd_T41 l0 x17_1).f0), .string ((rd_T41 l0 x17_1).f1)] 41 (0, 0)) (by (with_reducible repeat (first | refine blk_drewN ?_ _ | refine blk_drew ?_ | refine blk_alloc ?_ _)); exact BK124.out)) : gb132 ≠ gb124)); clear HO_7; clear HO_22; clear BK124; clear HB; have HO_7 := n0_; have HO_22 := n1_; have BK124 := n2_; have HB := n3_; have BK132 := n4_; have GW132 := n5_; have GE132 := n6_; have NB124_132 := n7_; have NB132_124 := n8_; clear n0_ n1_ n2_ n3_ n4_ n5_ n6_ n7_ n8_; clear hb hbox hg; have hnb20 := NB132_124.out; have hnc20 := NB124_132.out; have hcz21_0 : w19.cell? ⟨gb132, 0, none⟩ = some (.string (⟨#[]⟩ : ByteArray)) := (blk_cell BK132.out 0).trans rfl; have hcz21_1 : w19.cell? ⟨gb132, 1, none⟩ = some (.string (⟨#[]⟩ : ByteArray)) := (blk_cell BK132.out 1).trans rfl; have hfz21_0 := blk_frozen BK132.out 0; have hfz21_1 := blk_frozen BK132.out 1; have hcz22_0 : w19.cell? ⟨gb124, 0, none⟩ = some (.string ((rd_T41 l0 x17_1).f0)) := (blk_cell BK124.out 0).trans rfl; have hcz22_1 : w19.cell? ⟨gb124, 1, none⟩ = some (.string ((rd_T41 l0 x17_1).f1)) := (blk_cell BK124.out 1).trans rfl; have hfz22_0 := blk_frozen BK124.out 0; have hfz22_1 := blk_frozen BK124.out 1))
                          go_ret2
                          exact ⟨_, by first | rfl | (simp [errW_none, errW_some] <;> rfl) | (simp [*, errW_none, errW_some] <;> rfl), by first | exact Kd.R_nil _ _ _ _ _ | exact Kd.N_nil _ _ _ _ _ | exact Kd.V_nil _ _ _ _ _ | exact Kd.Q_nil _ _ _ _ _ | exact Kd.S_nil _ _ _ _ _, by repeat (first | (with_reducible first | exact HB.out | apply below_alloc | apply pw_below_drewN | apply below_drew1 | refine below_set ?_ GE124.out | refine below_set ?_ GE132.out) | exact HB.out)⟩
                        · rw [if_neg c18] at H
                          have c18b0 : (((rd_T41 l0 x17_1).f0).toList == ((rd_T41 x4_1 x24_2).f0).toList) = false := beq_eq_false_iff_ne.mpr c18
                          have c18b1 : (((rd_T41 l0 x17_1).f0).toList != ((rd_T41 x4_1 x24_2).f0).toList) = true := bne_iff_ne.mpr c18
                          by_cases c23 : x8_2 = true
                          · subst c23
                            have H1 : (if x7_2.length < 4398046511104 then (foghornref10_Sort.l1 k2 (x7_2 ++ [(⟨(rd_T41 x4_1 x24_2).f0, (rd_T41 x4_1 x24_2).f1⟩ : S41)]) true l0 (l0.length : Int) x17_1 x4_1 (x4_1.length : Int) (wrap64 (x24_2 + 1)) ((rd_T41 l0 x17_1).f0) ((rd_T41 l0 x17_1).f1)) else (none)) = some (r1, r2) := by rw [if_pos rfl] at H; exact H
                            clear H
                            have H := H1
                            clear H1
                            by_cases c24 : x7_2.length < 4398046511104
                            · rw [if_pos c24] at H
                              have LMc24 := Aside0.mk c24
                              clear c24
                              obtain ⟨y133, hy133⟩ : ∃ y_ : List (S41), y_ = (x7_2 ++ [(⟨(rd_T41 x4_1 x24_2).f0, (rd_T41 x4_1 x24_2).f1⟩ : S41)]) := ⟨_, rfl⟩
                              replace H : (foghornref10_Sort.l1 k2 y133 true l0 (l0.length : Int) x17_1 x4_1 (x4_1.length : Int) (wrap64 (x24_2 + 1)) ((rd_T41 l0 x17_1).f0) ((rd_T41 l0 x17_1).f1)) = some (r1, r2) := by first | (rw [hy133]; with_reducible exact H) | (have H2_ := (Option.bind_some _ _).symm.trans H; rw [hy133]; with_reducible exact H2_) | (have H2_ := (Option.bind_some _ _).symm.trans H; with_reducible exact H2_) | with_reducible exact H | (rw [hy133]; exact H) | exact H
                              have Ny133 := Aside0.mk hy133
                              clear hy133
                              have H' := Aside0.mk H
                              clear H
                              have p131 : 0 ≤ (x24_2 : Int) := of_decide_eq_true (by first | (with_reducible assumption) | assumption)
                              have q131 : x24_2 < (x4_1.length : Int) := of_decide_eq_true (by first | (with_reducible assumption) | assumption)
                              obtain ⟨ad131, e131, hx131_0, hx131_1⟩ := at_T41 (Kd.R_reads' HO_22.out).2.2 x24_2 p131 q131
                              cases e131
                              replace p131 := eq_true p131
                              replace q131 := eq_true q131
                              go_wp2_with (first | ((with_reducible refine gate_dst (N := 10) rfl ?_); refine box_event ?hg (N := 10) ?hd (cs := #[.string (⟨#[]⟩ : ByteArray), .string (⟨#[]⟩ : ByteArray)]) (t := 41) ?hr ?_; (case hd => rfl); (case hg => rfl); (case hr => first | (go_simp; done) | (go_simp; rfl)); intro gb132 hg w25 hbox hb; have n0_ := Aside0.mk (Kd.R_below (Kd.R_elderB (by (with_reducible repeat (first | apply Kd.R_alloc | apply Kd.R_drewN | apply Kd.R_drew)); exact HO_7.out) gb132 (Nat.le_of_eq hg.symm)) hb); have n1_ := Aside0.mk (Kd.R_below (Kd.R_elderB (by (with_reducible repeat (first | apply Kd.R_alloc | apply Kd.R_drewN | apply Kd.R_drew)); exact HO_22.out) gb132 (Nat.le_of_eq hg.symm)) hb); have n2_ := Aside0.mk (blk_below (g := gb124) (o := .cells #[.string ((rd_T41 l0 x17_1).f0), .string ((rd_T41 l0 x17_1).f1)] 41 (0, 0)) (by (with_reducible repeat (first | refine blk_drewN ?_ _ | refine blk_drew ?_ | refine blk_alloc ?_ _)); exact BK124.out) hb); have n3_ := Aside0.mk (below_step (by repeat (first | (with_reducible first | exact HB.out | apply below_alloc | apply pw_below_drewN | apply below_drew1 | refine below_set ?_ GE124.out) | exact HB.out)) hb); have n4_ := Aside0.mk (hbox); have n5_ := Aside0.mk ((by rw [hg]; exact (below_size (by repeat (first | (with_reducible first | exact HB.out | apply below_alloc | apply pw_below_drewN | apply below_drew1 | refine below_set ?_ GE124.out) | exact HB.out))) : w.heap.size ≤ gb132)); have n6_ := Aside0.mk ((by rw [hg]; exact (below_size (by repeat (first | (with_reducible first | exact HB.out | apply below_alloc | apply pw_below_drewN | apply below_drew1 | refine below_set ?_ GE124.out) | exact HB.out))) : w.heap.size ≤ gb132)); have n7_ := Aside0.mk ((by rw [hg]; exact Nat.ne_of_lt (blk_lt (g := gb124) (o := .cells #[.string ((rd_T41 l0 x17_1).f0), .string ((rd_T41 l0 x17_1).f1)] 41 (0, 0)) (by (with_reducible repeat (first | refine blk_drewN ?_ _ | refine blk_drew ?_ | refine blk_alloc ?_ _)); exact BK124.out)) : gb124 ≠ gb132)); have n8_ := Aside0.mk ((by rw [hg]; exact Nat.ne_of_gt (blk_lt (g := gb124) (o := .cells #[.string ((rd_T41 l0 x17_1).f0), .string ((rd_T41 l0 x17_1).f1)] 41 (0, 0)) (by (with_reducible repeat (first | refine blk_drewN ?_ _ | refine blk_drew ?_ | refine blk_alloc ?_ _)); exact BK124.out)) : gb132 ≠ gb124)); clear HO_7; clear HO_22; clear BK124; clear HB; have HO_7 := n0_; have HO_22 := n1_; have BK124 := n2_; have HB := n3_; have BK132 := n4_; have GW132 := n5_; have GE132 := n6_; have NB124_132 := n7_; have NB132_124 := n8_; clear n0_ n1_ n2_ n3_ n4_ n5_ n6_ n7_ n8_; clear hb hbox hg; have hnb26 := NB132_124.out; have hnc26 := NB124_132.out; have hcz27_0 : w25.cell? ⟨gb132, 0, none⟩ = some (.string (⟨#[]⟩ : ByteArray)) := (blk_cell BK132.out 0).trans rfl; have hcz27_1 : w25.cell? ⟨gb132, 1, none⟩ = some (.string (⟨#[]⟩ : ByteArray)) := (blk_cell BK132.out 1).trans rfl; have hfz27_0 := blk_frozen BK132.out 0; have hfz27_1 := blk_frozen BK132.out 1; have hcz28_0 : w25.cell? ⟨gb124, 0, none⟩ = some (.string ((rd_T41 l0 x17_1).f0)) := (blk_cell BK124.out 0).trans rfl; have hcz28_1 : w25.cell? ⟨gb124, 1, none⟩ = some (.string ((rd_T41 l0 x17_1).f1)) := (blk_cell BK124.out 1).trans rfl; have hfz28_0 := blk_frozen BK124.out 0; have hfz28_1 := blk_frozen BK124.out 1) | ((with_reducible refine gate_builtin (b := .append) (xs := #[.tmp 46, .tmp 48]) rfl ?_); at_builtin; refine Kd.R_append k41 (w0 := w) w.heap.size rfl (.tmp 46) (.tmp 48) 22 41 (.agg #[(.string ⟨#[]⟩), (.string ⟨#[]⟩)]) 32 rfl Try.underlying22 info41 rfl (by decide) (by omega) u7 x7_2 (⟨(rd_T41 x4_1 x24_2).f0, (rd_T41 x4_1 x24_2).f1⟩ : S41) [.string ((rd_T41 x4_1 x24_2).f0), .string ((rd_T41 x4_1 x24_2).f1)] (fun k_ => some k_ ≠ (.slice (some ad131) x4_1.length co14 : Value).ownBlock ∧ k_ ≠ gb124 ∧ k_ ≠ gb132) (fun _ => False) rfl (by first | (go_simp; done) | (go_simp; rfl)) ?aP (fun _ hk => hk.elim) ?aF ?aO ?aB ?aS ?aL ?_; (case aP => exact k41_mkM _ _ _ (⟨(rd_T41 x4_1 x24_2).f0, (rd_T41 x4_1 x24_2).f1⟩ : S41)); (case aB => exact (by repeat (first | (with_reducible first | exact HB.out | apply below_alloc | apply pw_below_drewN | apply below_drew1 | refine below_set ?_ GE124.out | refine below_set ?_ GE132.out) | exact HB.out))); (case aF => exact (fun k_ hk => ⟨Kd.fresh' (Kd.R_lt (by (with_reducible repeat (first | apply Kd.R_alloc | apply Kd.R_drewN | apply Kd.R_drew)); exact (Kd.R_mono (Kd.R_far (p := ⟨gb132, 1, none⟩) (Kd.R_far (p := ⟨gb132, 0, none⟩) (Kd.R_mono HO_22.out (fun k_ hk => (⟨hk, hk.2⟩ : _ ∧ k_ ≠ gb132))) (fun _ hk => hk.2) (.string ((rd_T41 x4_1 x24_2).f0))) (fun _ hk => hk.2) (.string ((rd_T41 x4_1 x24_2).f1))) (fun _ h_ => h_.1)))) k_ hk, Kd.freshB (g := gb124) (o := .cells #[.string ((rd_T41 l0 x17_1).f0), .string ((rd_T41 l0 x17_1).f1)] 41 (0, 0)) (by (with_reducible repeat (first | refine blk_drewN ?_ _ | refine blk_drew ?_ | refine blk_alloc ?_ _)); refine blk_far ?_ NB124_132.out _; (with_reducible repeat (first | refine blk_drewN ?_ _ | refine blk_drew ?_ | refine blk_alloc ?_ _)); refine blk_far ?_ NB124_132.out _; (with_reducible repeat (first | refine blk_drewN ?_ _ | refine blk_drew ?_ | refine blk_alloc ?_ _)); exact BK124.out) k_ hk, Kd.freshB (g := gb132) (o := .cells #[.string ((rd_T41 x4_1 x24_2).f0), .string ((rd_T41 x4_1 x24_2).f1)] 41 (0, 0)) (by (with_reducible repeat (first | refine blk_drewN ?_ _ | refine blk_drew ?_ | refine blk_alloc ?_ _)); refine blk_put (cs := #[.string ((rd_T41 x4_1 x24_2).f0), .string (⟨#[]⟩ : ByteArray)]) ?_ 1 _ rfl; (with_reducible repeat (first | refine blk_drewN ?_ _ | refine blk_drew ?_ | refine blk_alloc ?_ _)); refine blk_put (cs := #[.string (⟨#[]⟩ : ByteArray), .string (⟨#[]⟩ : ByteArray)]) ?_ 0 _ rfl; (with_reducible repeat (first | refine blk_drewN ?_ _ | refine blk_drew ?_ | refine blk_alloc ?_ _)); exact BK132.out) k_ hk⟩)); (case aO => exact (by (with_reducible repeat (first | apply Kd.R_alloc | apply Kd.R_drewN | apply Kd.R_drew)); exact Kd.R_mono (Kd.R_far (p := ⟨gb132, 1, none⟩) (Kd.R_far (p := ⟨gb132, 0, none⟩) (Kd.R_mono HO_7.out (fun k_ hk => (⟨hk, hk.2⟩ : _ ∧ k_ ≠ gb132))) (fun _ hk => hk.2) (.string ((rd_T41 x4_1 x24_2).f0))) (fun _ hk => hk.2) (.string ((rd_T41 x4_1 x24_2).f1))) (fun _ hk => ⟨hk.1.1.1, ⟨hk.1.1.2, hk.1.2⟩⟩))); (case aS => exact (below_size (by repeat (first | (with_reducible first | exact HB.out | apply below_alloc | apply pw_below_drewN | apply below_drew1 | refine below_set ?_ GE124.out | refine below_set ?_ GE132.out) | exact HB.out)))); (case aL => have := LMc24.out; omega); intro v134 w29 ho hb hg hat; rw [← Ny133.out] at ho; have n0_ := Aside0.mk (Kd.R_after (ok := (fun k_ => k_ ≠ gb124 ∧ k_ ≠ gb132)) (by (with_reducible repeat (first | apply Kd.R_alloc | apply Kd.R_drewN | apply Kd.R_drew)); exact Kd.R_mono (Kd.R_far (p := ⟨gb132, 1, none⟩) (Kd.R_far (p := ⟨gb132, 0, none⟩) (Kd.R_mono HO_22.out (fun k_ hk => (⟨hk, hk.2⟩ : _ ∧ k_ ≠ gb132))) (fun _ hk => hk.2) (.string ((rd_T41 x4_1 x24_2).f0))) (fun _ hk => hk.2) (.string ((rd_T41 x4_1 x24_2).f1))) (fun _ hk => ⟨⟨hk.1.1.2, hk.1.2⟩, hk.1.1.1⟩)) hg hat); have n1_ := Aside0.mk (blk_grown (g := gb124) (o := .cells #[.string ((rd_T41 l0 x17_1).f0), .string ((rd_T41 l0 x17_1).f1)] 41 (0, 0)) (by (with_reducible repeat (first | refine blk_drewN ?_ _ | refine blk_drew ?_ | refine blk_alloc ?_ _)); refine blk_far ?_ NB124_132.out _; (with_reducible repeat (first | refine blk_drewN ?_ _ | refine blk_drew ?_ | refine blk_alloc ?_ _)); refine blk_far ?_ NB124_132.out _; (with_reducible repeat (first | refine blk_drewN ?_ _ | refine blk_drew ?_ | refine blk_alloc ?_ _)); exact BK124.out) hg (Kd.R_away HO_7.out (fun _ hk => hk.1.2))); have n2_ := Aside0.mk (blk_grown (g := gb132) (o := .cells #[.string ((rd_T41 x4_1 x24_2).f0), .string ((rd_T41 x4_1 x24_2).f1)] 41 (0, 0)) (by (with_reducible repeat (first | refine blk_drewN ?_ _ | refine blk_drew ?_ | refine blk_alloc ?_ _)); refine blk_put (cs := #[.string ((rd_T41 x4_1 x24_2).f0), .string (⟨#[]⟩ : ByteArray)]) ?_ 1 _ rfl; (with_reducible repeat (first | refine blk_drewN ?_ _ | refine blk_drew ?_ | refine blk_alloc ?_ _)); refine blk_put (cs := #[.string (⟨#[]⟩ : ByteArray), .string (⟨#[]⟩ : ByteArray)]) ?_ 0 _ rfl; (with_reducible repeat (first | refine blk_drewN ?_ _ | refine blk_drew ?_ | refine blk_alloc ?_ _)); exact BK132.out) hg (Kd.R_away HO_7.out (fun _ hk => hk.2))); have n3_ := Aside0.mk (hb); have n4_ := Aside0.mk (ho); clear HO_22; clear BK124; clear BK132; clear HB; clear HO_7; have HO_22 := n0_; have BK124 := n1_; have BK132 := n2_; have HB := n3_; have HO135 := n4_; clear n0_ n1_ n2_ n3_ n4_; clear ho hb hg hat))
                              go_roundg k2
                              case measure => have := HK1.out; have := HK2.out; omega
                              case rel => exact ⟨(y133), (true), (wrap64 (x24_2 + 1)), (by first | rfl | (simp; done) | (simp [*]; done)), (by first | rfl | (simp; done) | (simp [*]; done)), H', ⟨by have := HK1.out; have := HK2.out; omega⟩, ⟨by (with_reducible repeat (first | apply Kd.R_alloc | apply Kd.R_drewN | apply Kd.R_drew)); exact Kd.R_mono HO135.out (fun _ hk => ⟨hk.1, hk.2.1⟩)⟩, ⟨by (with_reducible repeat (first | apply Kd.R_alloc | apply Kd.R_drewN | apply Kd.R_drew)); exact Kd.R_mono HO_22.out (fun _ hk => ⟨hk.2, hk.1.1⟩)⟩, ⟨by (with_reducible repeat (first | refine blk_drewN ?_ _ | refine blk_drew ?_ | refine blk_alloc ?_ _)); exact BK124.out⟩, ⟨by repeat (first | (with_reducible first | exact HB.out | apply below_alloc | apply pw_below_drewN | apply below_drew1 | refine below_set ?_ GE124.out | refine below_set ?_ GE132.out) | exact HB.out)⟩⟩
                            · rw [if_neg c24] at H
                              exact absurd H (by simp)
                          · replace c23 := Bool.eq_false_iff.mpr c23
                            subst c23
                            have H1 : (if (Op.bytesLess ((rd_T41 l0 x17_1).f0).toList (((rd_T41 x4_1 x24_2).f0).toList)) = true then (if x7_2.length < 4398046511104 then ((some (x7_2 ++ [(⟨((rd_T41 l0 x17_1).f0), ((rd_T41 l0 x17_1).f1)⟩ : S41)] : List (S41))).bind fun y136 => (if y136.length < 4398046511104 then (foghornref10_Sort.l1 k2 (y136 ++ [(⟨(rd_T41 x4_1 x24_2).f0, (rd_T41 x4_1 x24_2).f1⟩ : S41)]) true l0 (l0.length : Int) x17_1 x4_1 (x4_1.length : Int) (wrap64 (x24_2 + 1)) ((rd_T41 l0 x17_1).f0) ((rd_T41 l0 x17_1).f1)) else (none))) else (none)) else (if x7_2.length < 4398046511104 then (foghornref10_Sort.l1 k2 (x7_2 ++ [(⟨(rd_T41 x4_1 x24_2).f0, (rd_T41 x4_1 x24_2).f1⟩ : S41)]) false l0 (l0.length : Int) x17_1 x4_1 (x4_1.length : Int) (wrap64 (x24_2 + 1)) ((rd_T41 l0 x17_1).f0) ((rd_T41 l0 x17_1).f1)) else (none))) = some (r1, r2) := by rw [if_neg (show ¬ (false = true) by decide)] at H; exact H
                            clear H
                            have H := H1
                            clear H1
                            by_cases c30 : (Op.bytesLess ((rd_T41 l0 x17_1).f0).toList (((rd_T41 x4_1 x24_2).f0).toList)) = true
                            · rw [if_pos c30] at H
                              have c30b0 : (Op.bytesLess ((rd_T41 l0 x17_1).f0).toList (((rd_T41 x4_1 x24_2).f0).toList)) = true := c30
                              clear c30
                              by_cases c31 : x7_2.length < 4398046511104
                              · rw [if_pos c31] at H
                                have LMc31 := Aside0.mk c31
                                clear c31
                                obtain ⟨y136, hy136⟩ : ∃ y_ : List (S41), y_ = (x7_2 ++ [(⟨((rd_T41 l0 x17_1).f0), ((rd_T41 l0 x17_1).f1)⟩ : S41)]) := ⟨_, rfl⟩
                                replace H : (if y136.length < 4398046511104 then (foghornref10_Sort.l1 k2 (y136 ++ [(⟨(rd_T41 x4_1 x24_2).f0, (rd_T41 x4_1 x24_2).f1⟩ : S41)]) true l0 (l0.length : Int) x17_1 x4_1 (x4_1.length : Int) (wrap64 (x24_2 + 1)) ((rd_T41 l0 x17_1).f0) ((rd_T41 l0 x17_1).f1)) else (none)) = some (r1, r2) := by first | (rw [hy136]; with_reducible exact H) | (have H2_ := (Option.bind_some _ _).symm.trans H; rw [hy136]; with_reducible exact H2_) | (have H2_ := (Option.bind_some _ _).symm.trans H; with_reducible exact H2_) | with_reducible exact H | (rw [hy136]; exact H) | exact H
                                have Ny136 := Aside0.mk hy136
                                clear hy136
                                by_cases c32 : y136.length < 4398046511104
                                · rw [if_pos c32] at H
                                  have LMc32 := Aside0.mk c32
                                  clear c32
                                  obtain ⟨y139, hy139⟩ : ∃ y_ : List (S41), y_ = (y136 ++ [(⟨(rd_T41 x4_1 x24_2).f0, (rd_T41 x4_1 x24_2).f1⟩ : S41)]) := ⟨_, rfl⟩
                                  replace H : (foghornref10_Sort.l1 k2 y139 true l0 (l0.length : Int) x17_1 x4_1 (x4_1.length : Int) (wrap64 (x24_2 + 1)) ((rd_T41 l0 x17_1).f0) ((rd_T41 l0 x17_1).f1)) = some (r1, r2) := by first | (rw [hy139]; with_reducible exact H) | (have H2_ := (Option.bind_some _ _).symm.trans H; rw [hy139]; with_reducible exact H2_) | (have H2_ := (Option.bind_some _ _).symm.trans H; with_reducible exact H2_) | with_reducible exact H | (rw [hy139]; exact H) | exact H
                                  have Ny139 := Aside0.mk hy139
                                  clear hy139
                                  have H' := Aside0.mk H
                                  clear H
                                  have p131 : 0 ≤ (x24_2 : Int) := of_decide_eq_true (by first | (with_reducible assumption) | assumption)
                                  have q131 : x24_2 < (x4_1.length : Int) := of_decide_eq_true (by first | (with_reducible assumption) | assumption)
                                  obtain ⟨ad131, e131, hx131_0, hx131_1⟩ := at_T41 (Kd.R_reads' HO_22.out).2.2 x24_2 p131 q131
                                  cases e131
                                  replace p131 := eq_true p131
                                  replace q131 := eq_true q131
                                  go_wp2_with (first | ((with_reducible refine gate_dst (N := 10) rfl ?_); refine box_event ?hg (N := 10) ?hd (cs := #[.string (⟨#[]⟩ : ByteArray), .string (⟨#[]⟩ : ByteArray)]) (t := 41) ?hr ?_; (case hd => rfl); (case hg => rfl); (case hr => first | (go_simp; done) | (go_simp; rfl)); intro gb132 hg w33 hbox hb; have n0_ := Aside0.mk (Kd.R_below (Kd.R_elderB (by (with_reducible repeat (first | apply Kd.R_alloc | apply Kd.R_drewN | apply Kd.R_drew)); exact HO_7.out) gb132 (Nat.le_of_eq hg.symm)) hb); have n1_ := Aside0.mk (Kd.R_below (Kd.R_elderB (by (with_reducible repeat (first | apply Kd.R_alloc | apply Kd.R_drewN | apply Kd.R_drew)); exact HO_22.out) gb132 (Nat.le_of_eq hg.symm)) hb); have n2_ := Aside0.mk (blk_below (g := gb124) (o := .cells #[.string ((rd_T41 l0 x17_1).f0), .string ((rd_T41 l0 x17_1).f1)] 41 (0, 0)) (by (with_reducible repeat (first | refine blk_drewN ?_ _ | refine blk_drew ?_ | refine blk_alloc ?_ _)); exact BK124.out) hb); have n3_ := Aside0.mk (below_step (by repeat (first | (with_reducible first | exact HB.out | apply below_alloc | apply pw_below_drewN | apply below_drew1 | refine below_set ?_ GE124.out) | exact HB.out)) hb); have n4_ := Aside0.mk (hbox); have n5_ := Aside0.mk ((by rw [hg]; exact (below_size (by repeat (first | (with_reducible first | exact HB.out | apply below_alloc | apply pw_below_drewN | apply below_drew1 | refine below_set ?_ GE124.out) | exact HB.out))) : w.heap.size ≤ gb132)); have n6_ := Aside0.mk ((by rw [hg]; exact (below_size (by repeat (first | (with_reducible first | exact HB.out | apply below_alloc | apply pw_below_drewN | apply below_drew1 | refine below_set ?_ GE124.out) | exact HB.out))) : w.heap.size ≤ gb132)); have n7_ := Aside0.mk ((by rw [hg]; exact Nat.ne_of_lt (blk_lt (g := gb124) (o := .cells #[.string ((rd_T41 l0 x17_1).f0), .string ((rd_T41 l0 x17_1).f1)] 41 (0, 0)) (by (with_reducible repeat (first | refine blk_drewN ?_ _ | refine blk_drew ?_ | refine blk_alloc ?_ _)); exact BK124.out)) : gb124 ≠ gb132)); have n8_ := Aside0.mk ((by rw [hg]; exact Nat.ne_of_gt (blk_lt (g := gb124) (o := .cells #[.string ((rd_T41 l0 x17_1).f0), .string ((rd_T41 l0 x17_1).f1)] 41 (0, 0)) (by (with_reducible repeat (first | refine blk_drewN ?_ _ | refine blk_drew ?_ | refine blk_alloc ?_ _)); exact BK124.out)) : gb132 ≠ gb124)); clear HO_7; clear HO_22; clear BK124; clear HB; have HO_7 := n0_; have HO_22 := n1_; have BK124 := n2_; have HB := n3_; have BK132 := n4_; have GW132 := n5_; have GE132 := n6_; have NB124_132 := n7_; have NB132_124 := n8_; clear n0_ n1_ n2_ n3_ n4_ n5_ n6_ n7_ n8_; clear hb hbox hg; have hnb34 := NB132_124.out; have hnc34 := NB124_132.out; have hcz35_0 : w33.cell? ⟨gb132, 0, none⟩ = some (.string (⟨#[]⟩ : ByteArray)) := (blk_cell BK132.out 0).trans rfl; have hcz35_1 : w33.cell? ⟨gb132, 1, none⟩ = some (.string (⟨#[]⟩ : ByteArray)) := (blk_cell BK132.out 1).trans rfl; have hfz35_0 := blk_frozen BK132.out 0; have hfz35_1 := blk_frozen BK132.out 1; have hcz36_0 : w33.cell? ⟨gb124, 0, none⟩ = some (.string ((rd_T41 l0 x17_1).f0)) := (blk_cell BK124.out 0).trans rfl; have hcz36_1 : w33.cell? ⟨gb124, 1, none⟩ = some (.string ((rd_T41 l0 x17_1).f1)) := (blk_cell BK124.out 1).trans rfl; have hfz36_0 := blk_frozen BK124.out 0; have hfz36_1 := blk_frozen BK124.out 1) | ((with_reducible refine gate_builtin (b := .append) (xs := #[.tmp 42, .tmp 44]) rfl ?_); at_builtin; refine Kd.R_append k41 (w0 := w) w.heap.size rfl (.tmp 42) (.tmp 44) 22 41 (.agg #[(.string ⟨#[]⟩), (.string ⟨#[]⟩)]) 32 rfl Try.underlying22 info41 rfl (by decide) (by omega) u7 x7_2 (⟨((rd_T41 l0 x17_1).f0), ((rd_T41 l0 x17_1).f1)⟩ : S41) [.string ((rd_T41 l0 x17_1).f0), .string ((rd_T41 l0 x17_1).f1)] (fun k_ => some k_ ≠ (.slice (some ad131) x4_1.length co14 : Value).ownBlock ∧ k_ ≠ gb124 ∧ k_ ≠ gb132) (fun _ => False) rfl (by first | (go_simp; done) | (go_simp; rfl)) ?aP (fun _ hk => hk.elim) ?aF ?aO ?aB ?aS ?aL ?_; (case aP => exact k41_mkM _ _ _ (⟨((rd_T41 l0 x17_1).f0), ((rd_T41 l0 x17_1).f1)⟩ : S41)); (case aB => exact (by repeat (first | (with_reducible first | exact HB.out | apply below_alloc | apply pw_below_drewN | apply below_drew1 | refine below_set ?_ GE124.out | refine below_set ?_ GE132.out) | exact HB.out))); (case aF => exact (fun k_ hk => ⟨Kd.fresh' (Kd.R_lt (by (with_reducible repeat (first | apply Kd.R_alloc | apply Kd.R_drewN | apply Kd.R_drew)); exact (Kd.R_mono (Kd.R_far (p := ⟨gb132, 1, none⟩) (Kd.R_far (p := ⟨gb132, 0, none⟩) (Kd.R_mono HO_22.out (fun k_ hk => (⟨hk, hk.2⟩ : _ ∧ k_ ≠ gb132))) (fun _ hk => hk.2) (.string ((rd_T41 x4_1 x24_2).f0))) (fun _ hk => hk.2) (.string ((rd_T41 x4_1 x24_2).f1))) (fun _ h_ => h_.1)))) k_ hk, Kd.freshB (g := gb124) (o := .cells #[.string ((rd_T41 l0 x17_1).f0), .string ((rd_T41 l0 x17_1).f1)] 41 (0, 0)) (by (with_reducible repeat (first | refine blk_drewN ?_ _ | refine blk_drew ?_ | refine blk_alloc ?_ _)); refine blk_far ?_ NB124_132.out _; (with_reducible repeat (first | refine blk_drewN ?_ _ | refine blk_drew ?_ | refine blk_alloc ?_ _)); refine blk_far ?_ NB124_132.out _; (with_reducible repeat (first | refine blk_drewN ?_ _ | refine blk_drew ?_ | refine blk_alloc ?_ _)); exact BK124.out) k_ hk, Kd.freshB (g := gb132) (o := .cells #[.string ((rd_T41 x4_1 x24_2).f0), .string ((rd_T41 x4_1 x24_2).f1)] 41 (0, 0)) (by (with_reducible repeat (first | refine blk_drewN ?_ _ | refine blk_drew ?_ | refine blk_alloc ?_ _)); refine blk_put (cs := #[.string ((rd_T41 x4_1 x24_2).f0), .string (⟨#[]⟩ : ByteArray)]) ?_ 1 _ rfl; (with_reducible repeat (first | refine blk_drewN ?_ _ | refine blk_drew ?_ | refine blk_alloc ?_ _)); refine blk_put (cs := #[.string (⟨#[]⟩ : ByteArray), .string (⟨#[]⟩ : ByteArray)]) ?_ 0 _ rfl; (with_reducible repeat (first | refine blk_drewN ?_ _ | refine blk_drew ?_ | refine blk_alloc ?_ _)); exact BK132.out) k_ hk⟩)); (case aO => exact (by (with_reducible repeat (first | apply Kd.R_alloc | apply Kd.R_drewN | apply Kd.R_drew)); exact Kd.R_mono (Kd.R_far (p := ⟨gb132, 1, none⟩) (Kd.R_far (p := ⟨gb132, 0, none⟩) (Kd.R_mono HO_7.out (fun k_ hk => (⟨hk, hk.2⟩ : _ ∧ k_ ≠ gb132))) (fun _ hk => hk.2) (.string ((rd_T41 x4_1 x24_2).f0))) (fun _ hk => hk.2) (.string ((rd_T41 x4_1 x24_2).f1))) (fun _ hk => ⟨hk.1.1.1, ⟨hk.1.1.2, hk.1.2⟩⟩))); (case aS => exact (below_size (by repeat (first | (with_reducible first | exact HB.out | apply below_alloc | apply pw_below_drewN | apply below_drew1 | refine below_set ?_ GE124.out | refine below_set ?_ GE132.out) | exact HB.out)))); (case aL => have := LMc31.out; omega); intro v137 w37 ho hb hg hat; rw [← Ny136.out] at ho; have n0_ := Aside0.mk (Kd.R_after (ok := (fun k_ => k_ ≠ gb124 ∧ k_ ≠ gb132)) (by (with_reducible repeat (first | apply Kd.R_alloc | apply Kd.R_drewN | apply Kd.R_drew)); exact Kd.R_mono (Kd.R_far (p := ⟨gb132, 1, none⟩) (Kd.R_far (p := ⟨gb132, 0, none⟩) (Kd.R_mono HO_22.out (fun k_ hk => (⟨hk, hk.2⟩ : _ ∧ k_ ≠ gb132))) (fun _ hk => hk.2) (.string ((rd_T41 x4_1 x24_2).f0))) (fun _ hk => hk.2) (.string ((rd_T41 x4_1 x24_2).f1))) (fun _ hk => ⟨⟨hk.1.1.2, hk.1.2⟩, hk.1.1.1⟩)) hg hat); have n1_ := Aside0.mk (blk_grown (g := gb124) (o := .cells #[.string ((rd_T41 l0 x17_1).f0), .string ((rd_T41 l0 x17_1).f1)] 41 (0, 0)) (by (with_reducible repeat (first | refine blk_drewN ?_ _ | refine blk_drew ?_ | refine blk_alloc ?_ _)); refine blk_far ?_ NB124_132.out _; (with_reducible repeat (first | refine blk_drewN ?_ _ | refine blk_drew ?_ | refine blk_alloc ?_ _)); refine blk_far ?_ NB124_132.out _; (with_reducible repeat (first | refine blk_drewN ?_ _ | refine blk_drew ?_ | refine blk_alloc ?_ _)); exact BK124.out) hg (Kd.R_away HO_7.out (fun _ hk => hk.1.2))); have n2_ := Aside0.mk (blk_grown (g := gb132) (o := .cells #[.string ((rd_T41 x4_1 x24_2).f0), .string ((rd_T41 x4_1 x24_2).f1)] 41 (0, 0)) (by (with_reducible repeat (first | refine blk_drewN ?_ _ | refine blk_drew ?_ | refine blk_alloc ?_ _)); refine blk_put (cs := #[.string ((rd_T41 x4_1 x24_2).f0), .string (⟨#[]⟩ : ByteArray)]) ?_ 1 _ rfl; (with_reducible repeat (first | refine blk_drewN ?_ _ | refine blk_drew ?_ | refine blk_alloc ?_ _)); refine blk_put (cs := #[.string (⟨#[]⟩ : ByteArray), .string (⟨#[]⟩ : ByteArray)]) ?_ 0 _ rfl; (with_reducible repeat (first | refine blk_drewN ?_ _ | refine blk_drew ?_ | refine blk_alloc ?_ _)); exact BK132.out) hg (Kd.R_away HO_7.out (fun _ hk => hk.2))); have n3_ := Aside0.mk (hb); have n4_ := Aside0.mk (ho); clear HO_22; clear BK124; clear BK132; clear HB; clear HO_7; have HO_22 := n0_; have BK124 := n1_; have BK132 := n2_; have HB := n3_; have HO138 := n4_; clear n0_ n1_ n2_ n3_ n4_; clear ho hb hg hat; have hcz38_0 : w37.cell? ⟨gb132, 0, none⟩ = some (.string ((rd_T41 x4_1 x24_2).f0)) := (blk_cell BK132.out 0).trans rfl; have hcz38_1 : w37.cell? ⟨gb132, 1, none⟩ = some (.string ((rd_T41 x4_1 x24_2).f1)) := (blk_cell BK132.out 1).trans rfl; have hfz38_0 := blk_frozen BK132.out 0; have hfz38_1 := blk_frozen BK132.out 1) | ((with_reducible refine gate_builtin (b := .append) (xs := #[.tmp 46, .tmp 48]) rfl ?_); at_builtin; refine Kd.R_append k41 (w0 := w) w.heap.size rfl (.tmp 46) (.tmp 48) 22 41 (.agg #[(.string ⟨#[]⟩), (.string ⟨#[]⟩)]) 32 rfl Try.underlying22 info41 rfl (by decide) (by omega) v137 y136 (⟨(rd_T41 x4_1 x24_2).f0, (rd_T41 x4_1 x24_2).f1⟩ : S41) [.string ((rd_T41 x4_1 x24_2).f0), .string ((rd_T41 x4_1 x24_2).f1)] (fun k_ => some k_ ≠ (.slice (some ad131) x4_1.length co14 : Value).ownBlock ∧ k_ ≠ gb124 ∧ k_ ≠ gb132) (fun _ => False) rfl rfl ?aP (fun _ hk => hk.elim) ?aF ?aO ?aB ?aS ?aL ?_; (case aP => exact k41_mkM _ _ _ (⟨(rd_T41 x4_1 x24_2).f0, (rd_T41 x4_1 x24_2).f1⟩ : S41)); (case aB => exact (by repeat (first | (with_reducible first | exact HB.out | apply below_alloc | apply pw_below_drewN | apply below_drew1 | refine below_set ?_ GE124.out | refine below_set ?_ GE132.out) | exact HB.out))); (case aF => exact (fun k_ hk => ⟨Kd.fresh' (Kd.R_lt (by (with_reducible repeat (first | apply Kd.R_alloc | apply Kd.R_drewN | apply Kd.R_drew)); exact HO_22.out)) k_ hk, Kd.freshB (g := gb124) (o := .cells #[.string ((rd_T41 l0 x17_1).f0), .string ((rd_T41 l0 x17_1).f1)] 41 (0, 0)) (by (with_reducible repeat (first | refine blk_drewN ?_ _ | refine blk_drew ?_ | refine blk_alloc ?_ _)); exact BK124.out) k_ hk, Kd.freshB (g := gb132) (o := .cells #[.string ((rd_T41 x4_1 x24_2).f0), .string ((rd_T41 x4_1 x24_2).f1)] 41 (0, 0)) (by (with_reducible repeat (first | refine blk_drewN ?_ _ | refine blk_drew ?_ | refine blk_alloc ?_ _)); exact BK132.out) k_ hk⟩)); (case aO => exact (by (with_reducible repeat (first | apply Kd.R_alloc | apply Kd.R_drewN | apply Kd.R_drew)); exact HO138.out)); (case aS => exact (below_size (by repeat (first | (with_reducible first | exact HB.out | apply below_alloc | apply pw_below_drewN | apply below_drew1 | refine below_set ?_ GE124.out | refine below_set ?_ GE132.out) | exact HB.out)))); (case aL => have := LMc32.out; omega); intro v140 w39 ho hb hg hat; rw [← Ny139.out] at ho; have n0_ := Aside0.mk (Kd.R_after (ok := (fun k_ => k_ ≠ gb124 ∧ k_ ≠ gb132)) (by (with_reducible repeat (first | apply Kd.R_alloc | apply Kd.R_drewN | apply Kd.R_drew)); exact HO_22.out) hg hat); have n1_ := Aside0.mk (blk_grown (g := gb124) (o := .cells #[.string ((rd_T41 l0 x17_1).f0), .string ((rd_T41 l0 x17_1).f1)] 41 (0, 0)) (by (with_reducible repeat (first | refine blk_drewN ?_ _ | refine blk_drew ?_ | refine blk_alloc ?_ _)); exact BK124.out) hg (Kd.R_away HO138.out (fun _ hk => hk.2.1))); have n2_ := Aside0.mk (blk_grown (g := gb132) (o := .cells #[.string ((rd_T41 x4_1 x24_2).f0), .string ((rd_T41 x4_1 x24_2).f1)] 41 (0, 0)) (by (with_reducible repeat (first | refine blk_drewN ?_ _ | refine blk_drew ?_ | refine blk_alloc ?_ _)); exact BK132.out) hg (Kd.R_away HO138.out (fun _ hk => hk.2.2))); have n3_ := Aside0.mk (hb); have n4_ := Aside0.mk (ho); clear HO_22; clear BK124; clear BK132; clear HB; clear HO138; have HO_22 := n0_; have BK124 := n1_; have BK132 := n2_; have HB := n3_; have HO141 := n4_; clear n0_ n1_ n2_ n3_ n4_; clear ho hb hg hat))
                                  go_roundg k2
                                  case measure => have := HK1.out; have := HK2.out; omega
                                  case rel => exact ⟨(y139), (true), (wrap64 (x24_2 + 1)), (by first | rfl | (simp; done) | (simp [*]; done)), (by first | rfl | (simp; done) | (simp [*]; done)), H', ⟨by have := HK1.out; have := HK2.out; omega⟩, ⟨by (with_reducible repeat (first | apply Kd.R_alloc | apply Kd.R_drewN | apply Kd.R_drew)); exact Kd.R_mono HO141.out (fun _ hk => ⟨hk.1, hk.2.1⟩)⟩, ⟨by (with_reducible repeat (first | apply Kd.R_alloc | apply Kd.R_drewN | apply Kd.R_drew)); exact Kd.R_mono HO_22.out (fun _ hk => ⟨hk.2, hk.1.1⟩)⟩, ⟨by (with_reducible repeat (first | refine blk_drewN ?_ _ | refine blk_drew ?_ | refine blk_alloc ?_ _)); exact BK124.out⟩, ⟨by repeat (first | (with_reducible first | exact HB.out | apply below_alloc | apply pw_below_drewN | apply below_drew1 | refine below_set ?_ GE124.out | refine below_set ?_ GE132.out) | exact HB.out)⟩⟩
                                · rw [if_neg c32] at H
                                  exact absurd H (by simp)
                              · rw [if_neg c31] at H
                                exact absurd H (by simp)
                            · rw [if_neg c30] at H
                              have c30b0 : (Op.bytesLess ((rd_T41 l0 x17_1).f0).toList (((rd_T41 x4_1 x24_2).f0).toList)) = false := by simpa using c30
                              clear c30
                              by_cases c40 : x7_2.length < 4398046511104
                              · rw [if_pos c40] at H
                                have LMc40 := Aside0.mk c40
                                clear c40
                                obtain ⟨y142, hy142⟩ : ∃ y_ : List (S41), y_ = (x7_2 ++ [(⟨(rd_T41 x4_1 x24_2).f0, (rd_T41 x4_1 x24_2).f1⟩ : S41)]) := ⟨_, rfl⟩
                                replace H : (foghornref10_Sort.l1 k2 y142 false l0 (l0.length : Int) x17_1 x4_1 (x4_1.length : Int) (wrap64 (x24_2 + 1)) ((rd_T41 l0 x17_1).f0) ((rd_T41 l0 x17_1).f1)) = some (r1, r2) := by first | (rw [hy142]; with_reducible exact H) | (have H2_ := (Option.bind_some _ _).symm.trans H; rw [hy142]; with_reducible exact H2_) | (have H2_ := (Option.bind_some _ _).symm.trans H; with_reducible exact H2_) | with_reducible exact H | (rw [hy142]; exact H) | exact H
                                have Ny142 := Aside0.mk hy142
                                clear hy142
                                have H' := Aside0.mk H
                                clear H
                                have p131 : 0 ≤ (x24_2 : Int) := of_decide_eq_true (by first | (with_reducible assumption) | assumption)
                                have q131 : x24_2 < (x4_1.length : Int) := of_decide_eq_true (by first | (with_reducible assumption) | assumption)
                                obtain ⟨ad131, e131, hx131_0, hx131_1⟩ := at_T41 (Kd.R_reads' HO_22.out).2.2 x24_2 p131 q131
                                cases e131
                                replace p131 := eq_true p131
                                replace q131 := eq_true q131
                                go_wp2_with (first | ((with_reducible refine gate_dst (N := 10) rfl ?_); refine box_event ?hg (N := 10) ?hd (cs := #[.string (⟨#[]⟩ : ByteArray), .string (⟨#[]⟩ : ByteArray)]) (t := 41) ?hr ?_; (case hd => rfl); (case hg => rfl); (case hr => first | (go_simp; done) | (go_simp; rfl)); intro gb132 hg w41 hbox hb; have n0_ := Aside0.mk (Kd.R_below (Kd.R_elderB (by (with_reducible repeat (first | apply Kd.R_alloc | apply Kd.R_drewN | apply Kd.R_drew)); exact HO_7.out) gb132 (Nat.le_of_eq hg.symm)) hb); have n1_ := Aside0.mk (Kd.R_below (Kd.R_elderB (by (with_reducible repeat (first | apply Kd.R_alloc | apply Kd.R_drewN | apply Kd.R_drew)); exact HO_22.out) gb132 (Nat.le_of_eq hg.symm)) hb); have n2_ := Aside0.mk (blk_below (g := gb124) (o := .cells #[.string ((rd_T41 l0 x17_1).f0), .string ((rd_T41 l0 x17_1).f1)] 41 (0, 0)) (by (with_reducible repeat (first | refine blk_drewN ?_ _ | refine blk_drew ?_ | refine blk_alloc ?_ _)); exact BK124.out) hb); have n3_ := Aside0.mk (below_step (by repeat (first | (with_reducible first | exact HB.out | apply below_alloc | apply pw_below_drewN | apply below_drew1 | refine below_set ?_ GE124.out) | exact HB.out)) hb); have n4_ := Aside0.mk (hbox); have n5_ := Aside0.mk ((by rw [hg]; exact (below_size (by repeat (first | (with_reducible first | exact HB.out | apply below_alloc | apply pw_below_drewN | apply below_drew1 | refine below_set ?_ GE124.out) | exact HB.out))) : w.heap.size ≤ gb132)); have n6_ := Aside0.mk ((by rw [hg]; exact (below_size (by repeat (first | (with_reducible first | exact HB.out | apply below_alloc | apply pw_below_drewN | apply below_drew1 | refine below_set ?_ GE124.out) | exact HB.out))) : w.heap.size ≤ gb132)); have n7_ := Aside0.mk ((by rw [hg]; exact Nat.ne_of_lt (blk_lt (g := gb124) (o := .cells #[.string ((rd_T41 l0 x17_1).f0), .string ((rd_T41 l0 x17_1).f1)] 41 (0, 0)) (by (with_reducible repeat (first | refine blk_drewN ?_ _ | refine blk_drew ?_ | refine blk_alloc ?_ _)); exact BK124.out)) : gb124 ≠ gb132)); have n8_ := Aside0.mk ((by rw [hg]; exact Nat.ne_of_gt (blk_lt (g := gb124) (o := .cells #[.string ((rd_T41 l0 x17_1).f0), .string ((rd_T41 l0 x17_1).f1)] 41 (0, 0)) (by (with_reducible repeat (first | refine blk_drewN ?_ _ | refine blk_drew ?_ | refine blk_alloc ?_ _)); exact BK124.out)) : gb132 ≠ gb124)); clear HO_7; clear HO_22; clear BK124; clear HB; have HO_7 := n0_; have HO_22 := n1_; have BK124 := n2_; have HB := n3_; have BK132 := n4_; have GW132 := n5_; have GE132 := n6_; have NB124_132 := n7_; have NB132_124 := n8_; clear n0_ n1_ n2_ n3_ n4_ n5_ n6_ n7_ n8_; clear hb hbox hg; have hnb42 := NB132_124.out; have hnc42 := NB124_132.out; have hcz43_0 : w41.cell? ⟨gb132, 0, none⟩ = some (.string (⟨#[]⟩ : ByteArray)) := (blk_cell BK132.out 0).trans rfl; have hcz43_1 : w41.cell? ⟨gb132, 1, none⟩ = some (.string (⟨#[]⟩ : ByteArray)) := (blk_cell BK132.out 1).trans rfl; have hfz43_0 := blk_frozen BK132.out 0; have hfz43_1 := blk_frozen BK132.out 1; have hcz44_0 : w41.cell? ⟨gb124, 0, none⟩ = some (.string ((rd_T41 l0 x17_1).f0)) := (blk_cell BK124.out 0).trans rfl; have hcz44_1 : w41.cell? ⟨gb124, 1, none⟩ = some (.string ((rd_T41 l0 x17_1).f1)) := (blk_cell BK124.out 1).trans rfl; have hfz44_0 := blk_frozen BK124.out 0; have hfz44_1 := blk_frozen BK124.out 1) | ((with_reducible refine gate_builtin (b := .append) (xs := #[.tmp 46, .tmp 48]) rfl ?_); at_builtin; refine Kd.R_append k41 (w0 := w) w.heap.size rfl (.tmp 46) (.tmp 48) 22 41 (.agg #[(.string ⟨#[]⟩), (.string ⟨#[]⟩)]) 32 rfl Try.underlying22 info41 rfl (by decide) (by omega) u7 x7_2 (⟨(rd_T41 x4_1 x24_2).f0, (rd_T41 x4_1 x24_2).f1⟩ : S41) [.string ((rd_T41 x4_1 x24_2).f0), .string ((rd_T41 x4_1 x24_2).f1)] (fun k_ => some k_ ≠ (.slice (some ad131) x4_1.length co14 : Value).ownBlock ∧ k_ ≠ gb124 ∧ k_ ≠ gb132) (fun _ => False) rfl (by first | (go_simp; done) | (go_simp; rfl)) ?aP (fun _ hk => hk.elim) ?aF ?aO ?aB ?aS ?aL ?_; (case aP => exact k41_mkM _ _ _ (⟨(rd_T41 x4_1 x24_2).f0, (rd_T41 x4_1 x24_2).f1⟩ : S41)); (case aB => exact (by repeat (first | (with_reducible first | exact HB.out | apply below_alloc | apply pw_below_drewN | apply below_drew1 | refine below_set ?_ GE124.out | refine below_set ?_ GE132.out) | exact HB.out))); (case aF => exact (fun k_ hk => ⟨Kd.fresh' (Kd.R_lt (by (with_reducible repeat (first | apply Kd.R_alloc | apply Kd.R_drewN | apply Kd.R_drew)); exact (Kd.R_mono (Kd.R_far (p := ⟨gb132, 1, none⟩) (Kd.R_far (p := ⟨gb132, 0, none⟩) (Kd.R_mono HO_22.out (fun k_ hk => (⟨hk, hk.2⟩ : _ ∧ k_ ≠ gb132))) (fun _ hk => hk.2) (.string ((rd_T41 x4_1 x24_2).f0))) (fun _ hk => hk.2) (.string ((rd_T41 x4_1 x24_2).f1))) (fun _ h_ => h_.1)))) k_ hk, Kd.freshB (g := gb124) (o := .cells #[.string ((rd_T41 l0 x17_1).f0), .string ((rd_T41 l0 x17_1).f1)] 41 (0, 0)) (by (with_reducible repeat (first | refine blk_drewN ?_ _ | refine blk_drew ?_ | refine blk_alloc ?_ _)); refine blk_far ?_ NB124_132.out _; (with_reducible repeat (first | refine blk_drewN ?_ _ | refine blk_drew ?_ | refine blk_alloc ?_ _)); refine blk_far ?_ NB124_132.out _; (with_reducible repeat (first | refine blk_drewN ?_ _ | refine blk_drew ?_ | refine blk_alloc ?_ _)); exact BK124.out) k_ hk, Kd.freshB (g := gb132) (o := .cells #[.string ((rd_T41 x4_1 x24_2).f0), .string ((rd_T41 x4_1 x24_2).f1)] 41 (0, 0)) (by (with_reducible repeat (first | refine blk_drewN ?_ _ | refine blk_drew ?_ | refine blk_alloc ?_ _)); refine blk_put (cs := #[.string ((rd_T41 x4_1 x24_2).f0), .string (⟨#[]⟩ : ByteArray)]) ?_ 1 _ rfl; (with_reducible repeat (first | refine blk_drewN ?_ _ | refine blk_drew ?_ | refine blk_alloc ?_ _)); refine blk_put (cs := #[.string (⟨#[]⟩ : ByteArray), .string (⟨#[]⟩ : ByteArray)]) ?_ 0 _ rfl; (with_reducible repeat (first | refine blk_drewN ?_ _ | refine blk_drew ?_ | refine blk_alloc ?_ _)); exact BK132.out) k_ hk⟩)); (case aO => exact (by (with_reducible repeat (first | apply Kd.R_alloc | apply Kd.R_drewN | apply Kd.R_drew)); exact Kd.R_mono (Kd.R_far (p := ⟨gb132, 1, none⟩) (Kd.R_far (p := ⟨gb132, 0, none⟩) (Kd.R_mono HO_7.out (fun k_ hk => (⟨hk, hk.2⟩ : _ ∧ k_ ≠ gb132))) (fun _ hk => hk.2) (.string ((rd_T41 x4_1 x24_2).f0))) (fun _ hk => hk.2) (.string ((rd_T41 x4_1 x24_2).f1))) (fun _ hk => ⟨hk.1.1.1, ⟨hk.1.1.2, hk.1.2⟩⟩))); (case aS => exact (below_size (by repeat (first | (with_reducible first | exact HB.out | apply below_alloc | apply pw_below_drewN | apply below_drew1 | refine below_set ?_ GE124.out | refine below_set ?_ GE132.out) | exact HB.out)))); (case aL => have := LMc40.out; omega); intro v143 w45 ho hb hg hat; rw [← Ny142.out] at ho; have n0_ := Aside0.mk (Kd.R_after (ok := (fun k_ => k_ ≠ gb124 ∧ k_ ≠ gb132)) (by (with_reducible repeat (first | apply Kd.R_alloc | apply Kd.R_drewN | apply Kd.R_drew)); exact Kd.R_mono (Kd.R_far (p := ⟨gb132, 1, none⟩) (Kd.R_far (p := ⟨gb132, 0, none⟩) (Kd.R_mono HO_22.out (fun k_ hk => (⟨hk, hk.2⟩ : _ ∧ k_ ≠ gb132))) (fun _ hk => hk.2) (.string ((rd_T41 x4_1 x24_2).f0))) (fun _ hk => hk.2) (.string ((rd_T41 x4_1 x24_2).f1))) (fun _ hk => ⟨⟨hk.1.1.2, hk.1.2⟩, hk.1.1.1⟩)) hg hat); have n1_ := Aside0.mk (blk_grown (g := gb124) (o := .cells #[.string ((rd_T41 l0 x17_1).f0), .string ((rd_T41 l0 x17_1).f1)] 41 (0, 0)) (by (with_reducible repeat (first | refine blk_drewN ?_ _ | refine blk_drew ?_ | refine blk_alloc ?_ _)); refine blk_far ?_ NB124_132.out _; (with_reducible repeat (first | refine blk_drewN ?_ _ | refine blk_drew ?_ | refine blk_alloc ?_ _)); refine blk_far ?_ NB124_132.out _; (with_reducible repeat (first | refine blk_drewN ?_ _ | refine blk_drew ?_ | refine blk_alloc ?_ _)); exact BK124.out) hg (Kd.R_away HO_7.out (fun _ hk => hk.1.2))); have n2_ := Aside0.mk (blk_grown (g := gb132) (o := .cells #[.string ((rd_T41 x4_1 x24_2).f0), .string ((rd_T41 x4_1 x24_2).f1)] 41 (0, 0)) (by (with_reducible repeat (first | refine blk_drewN ?_ _ | refine blk_drew ?_ | refine blk_alloc ?_ _)); refine blk_put (cs := #[.string ((rd_T41 x4_1 x24_2).f0), .string (⟨#[]⟩ : ByteArray)]) ?_ 1 _ rfl; (with_reducible repeat (first | refine blk_drewN ?_ _ | refine blk_drew ?_ | refine blk_alloc ?_ _)); refine blk_put (cs := #[.string (⟨#[]⟩ : ByteArray), .string (⟨#[]⟩ : ByteArray)]) ?_ 0 _ rfl; (with_reducible repeat (first | refine blk_drewN ?_ _ | refine blk_drew ?_ | refine blk_alloc ?_ _)); exact BK132.out) hg (Kd.R_away HO_7.out (fun _ hk => hk.2))); have n3_ := Aside0.mk (hb); have n4_ := Aside0.mk (ho); clear HO_22; clear BK124; clear BK132; clear HB; clear HO_7; have HO_22 := n0_; have BK124 := n1_; have BK132 := n2_; have HB := n3_; have HO144 := n4_; clear n0_ n1_ n2_ n3_ n4_; clear ho hb hg hat))
                                go_roundg k2
                                case measure => have := HK1.out; have := HK2.out; omega
                                case rel => exact ⟨(y142), (false), (wrap64 (x24_2 + 1)), (by first | rfl | (simp; done) | (simp [*]; done)), (by first | rfl | (simp; done) | (simp [*]; done)), H', ⟨by have := HK1.out; have := HK2.out; omega⟩, ⟨by (with_reducible repeat (first | apply Kd.R_alloc | apply Kd.R_drewN | apply Kd.R_drew)); exact Kd.R_mono HO144.out (fun _ hk => ⟨hk.1, hk.2.1⟩)⟩, ⟨by (with_reducible repeat (first | apply Kd.R_alloc | apply Kd.R_drewN | apply Kd.R_drew)); exact Kd.R_mono HO_22.out (fun _ hk => ⟨hk.2, hk.1.1⟩)⟩, ⟨by (with_reducible repeat (first | refine blk_drewN ?_ _ | refine blk_drew ?_ | refine blk_alloc ?_ _)); exact BK124.out⟩, ⟨by repeat (first | (with_reducible first | exact HB.out | apply below_alloc | apply pw_below_drewN | apply below_drew1 | refine below_set ?_ GE124.out | refine below_set ?_ GE132.out) | exact HB.out)⟩⟩
                              · rw [if_neg c40] at H
                                exact absurd H (by simp)
                      · rw [if_neg c17] at H
                        exact absurd H (by simp)
                    · rw [if_neg c16] at H
                      exact absurd H (by simp)
                  · rw [if_neg c15] at H
                    have c15b0 : decide (x24_2 < (x4_1.length : Int)) = false := decide_eq_false c15
                    clear c15
                    by_cases c46 : x8_2 = true
                    · subst c46
                      have H1 : (foghornref10_Sort.l0 k2 x7_2 l0 (l0.length : Int) (wrap64 (x17_1 + 1))) = some (r1, r2) := by rw [if_pos rfl] at H; exact H
                      clear H
                      have H := H1
                      clear H1
                      have H' := Aside0.mk H
                      clear H
                      go_wp2
                      go_roundg k2
                      case measure => have := HK1.out; have := HK2.out; omega
                      case rel => exact ⟨(x7_2), (wrap64 (x17_1 + 1)), (by first | rfl | (simp; done) | (simp [*]; done)), H', ⟨by have := HK1.out; have := HK2.out; omega⟩, ⟨by (with_reducible repeat (first | apply Kd.R_alloc | apply Kd.R_drewN | apply Kd.R_drew)); exact Kd.R_mono HO_7.out (fun _ hk => trivial)⟩, ⟨by repeat (first | (with_reducible first | exact HB.out | apply below_alloc | apply pw_below_drewN | apply below_drew1 | refine below_set ?_ GE124.out) | exact HB.out)⟩⟩
                    · replace c46 := Bool.eq_false_iff.mpr c46
                      subst c46
                      have H1 : (if x7_2.length < 4398046511104 then (foghornref10_Sort.l0 k2 (x7_2 ++ [(⟨((rd_T41 l0 x17_1).f0), ((rd_T41 l0 x17_1).f1)⟩ : S41)]) l0 (l0.length : Int) (wrap64 (x17_1 + 1))) else (none)) = some (r1, r2) := by rw [if_neg (show ¬ (false = true) by decide)] at H; exact H
                      clear H
                      have H := H1
                      clear H1
                      by_cases c47 : x7_2.length < 4398046511104
                      · rw [if_pos c47] at H
                        have LMc47 := Aside0.mk c47
                        clear c47
                        obtain ⟨y128, hy128⟩ : ∃ y_ : List (S41), y_ = (x7_2 ++ [(⟨((rd_T41 l0 x17_1).f0), ((rd_T41 l0 x17_1).f1)⟩ : S41)]) := ⟨_, rfl⟩
                        replace H : (foghornref10_Sort.l0 k2 y128 l0 (l0.length : Int) (wrap64 (x17_1 + 1))) = some (r1, r2) := by first | (rw [hy128]; with_reducible exact H) | (have H2_ := (Option.bind_some _ _).symm.trans H; rw [hy128]; with_reducible exact H2_) | (have H2_ := (Option.bind_some _ _).symm.trans H; with_reducible exact H2_) | with_reducible exact H | (rw [hy128]; exact H) | exact H
                        have Ny128 := Aside0.mk hy128
                        clear hy128
                        have H' := Aside0.mk H
                        clear H
                        have hcz48_0 : wr.cell? ⟨gb124, 0, none⟩ = some (.string ((rd_T41 l0 x17_1).f0)) := (blk_cell BK124.out 0).trans rfl
                        have hcz48_1 : wr.cell? ⟨gb124, 1, none⟩ = some (.string ((rd_T41 l0 x17_1).f1)) := (blk_cell BK124.out 1).trans rfl
                        have hfz48_0 := blk_frozen BK124.out 0
                        have hfz48_1 := blk_frozen BK124.out 1
                        go_wp2_with (first | ((with_reducible refine gate_builtin (b := .append) (xs := #[.tmp 53, .tmp 55]) rfl ?_); at_builtin; refine Kd.R_append k41 (w0 := w) w.heap.size rfl (.tmp 53) (.tmp 55) 22 41 (.agg #[(.string ⟨#[]⟩), (.string ⟨#[]⟩)]) 32 rfl Try.underlying22 info41 rfl (by decide) (by omega) u7 x7_2 (⟨((rd_T41 l0 x17_1).f0), ((rd_T41 l0 x17_1).f1)⟩ : S41) [.string ((rd_T41 l0 x17_1).f0), .string ((rd_T41 l0 x17_1).f1)] (fun k_ => some k_ ≠ (.slice Ao14 x4_1.length co14 : Value).ownBlock ∧ k_ ≠ gb124) (fun _ => False) rfl rfl ?aP (fun _ hk => hk.elim) ?aF ?aO ?aB ?aS ?aL ?_; (case aP => exact k41_mkM _ _ _ (⟨((rd_T41 l0 x17_1).f0), ((rd_T41 l0 x17_1).f1)⟩ : S41)); (case aB => exact (by repeat (first | (with_reducible first | exact HB.out | apply below_alloc | apply pw_below_drewN | apply below_drew1 | refine below_set ?_ GE124.out) | exact HB.out))); (case aF => exact (fun k_ hk => ⟨Kd.fresh' (Kd.R_lt (by (with_reducible repeat (first | apply Kd.R_alloc | apply Kd.R_drewN | apply Kd.R_drew)); exact HO_22.out)) k_ hk, Kd.freshB (g := gb124) (o := .cells #[.string ((rd_T41 l0 x17_1).f0), .string ((rd_T41 l0 x17_1).f1)] 41 (0, 0)) (by (with_reducible repeat (first | refine blk_drewN ?_ _ | refine blk_drew ?_ | refine blk_alloc ?_ _)); exact BK124.out) k_ hk⟩)); (case aO => exact (by (with_reducible repeat (first | apply Kd.R_alloc | apply Kd.R_drewN | apply Kd.R_drew)); exact HO_7.out)); (case aS => exact (below_size (by repeat (first | (with_reducible first | exact HB.out | apply below_alloc | apply pw_below_drewN | apply below_drew1 | refine below_set ?_ GE124.out) | exact HB.out)))); (case aL => have := LMc47.out; omega); intro v129 w49 ho hb hg hat; rw [← Ny128.out] at ho; have n0_ := Aside0.mk (Kd.R_after (ok := (fun k_ => k_ ≠ gb124)) (by (with_reducible repeat (first | apply Kd.R_alloc | apply Kd.R_drewN | apply Kd.R_drew)); exact Kd.R_mono HO_22.out (fun _ hk => ⟨hk.2, hk.1⟩)) hg hat); have n1_ := Aside0.mk (blk_grown (g := gb124) (o := .cells #[.string ((rd_T41 l0 x17_1).f0), .string ((rd_T41 l0 x17_1).f1)] 41 (0, 0)) (by (with_reducible repeat (first | refine blk_drewN ?_ _ | refine blk_drew ?_ | refine blk_alloc ?_ _)); exact BK124.out) hg (Kd.R_away HO_7.out (fun _ hk => hk.2))); have n2_ := Aside0.mk (hb); have n3_ := Aside0.mk (ho); clear HO_22; clear BK124; clear HB; clear HO_7; have HO_22 := n0_; have BK124 := n1_; have HB := n2_; have HO130 := n3_; clear n0_ n1_ n2_ n3_; clear ho hb hg hat))
                        go_roundg k2
                        case measure => have := HK1.out; have := HK2.out; omega
                        case rel => exact ⟨(y128), (wrap64 (x17_1 + 1)), (by first | rfl | (simp; done) | (simp [*]; done)), H', ⟨by have := HK1.out; have := HK2.out; omega⟩, ⟨by (with_reducible repeat (first | apply Kd.R_alloc | apply Kd.R_drewN | apply Kd.R_drew)); exact Kd.R_mono HO130.out (fun _ hk => trivial)⟩, ⟨by repeat (first | (with_reducible first | exact HB.out | apply below_alloc | apply pw_below_drewN | apply below_drew1 | refine below_set ?_ GE124.out) | exact HB.out)⟩⟩
                      · rw [if_neg c47] at H
                        exact absurd H (by simp)
            · rw [if_neg c9] at H
              exact absurd H (by simp)
          · rw [if_neg c8] at H
            exact absurd H (by simp)
        · rw [if_neg c7] at H
          have c7b0 : decide (x17_1 < (l0.length : Int)) = false := decide_eq_false c7
          clear c7
          simp only [Option.some.injEq, Prod.mk.injEq] at H
          obtain ⟨rfl, rfl⟩ := H
          go_wp2
          go_ret2
          exact ⟨_, by first | rfl | (simp [errW_none, errW_some] <;> rfl) | (simp [*, errW_none, errW_some] <;> rfl), by (with_reducible repeat (first | apply Kd.R_alloc | apply Kd.R_drewN | apply Kd.R_drew)); exact HO_4.out, by repeat (first | (with_reducible first | exact HB.out | apply below_alloc | apply pw_below_drewN | apply below_drew1) | exact HB.out)⟩
  · replace c3 := Bool.eq_false_iff.mpr c3
    subst c3
    have H1 : (some (([] : List (S41)), 1)) = some (r1, r2) := by rw [if_neg (show ¬ (false = true) by decide)] at H; exact H
    clear H
    have H := H1
    clear H1
    simp only [Option.some.injEq, Prod.mk.injEq] at H
    obtain ⟨rfl, rfl⟩ := H
    go_enter Try.func14, Try.ntmps14
    go_wp2_with (first | ((with_reducible refine gate_callee (f := 41) rfl ?_); refine goesL_ (some 12) rfl rfl Try.func41 (by kernel_rfl) rfl #[.slice A0 l0.length c0] rfl (by (try simp only [List.map_toArray, List.map_cons, List.map_nil]); first | done | rfl | (simp only [List.length_drop, List.length_take]; rfl)) ?_; (with_reducible refine (foghornref10_each.calls _ _ l0 false _ ?side1 ?side2 A2.out).mono ?_); (case side1 => repeat (first | exact HR0.out | (with_reducible refine Kd.C_alloc ?_ _) | (with_reducible refine Kd.C_drewN ?_ _) | (with_reducible refine Kd.C_drew ?_))); (case side2 => exact HC0.out); rintro e w50 ⟨rfl, hb⟩; refine ⟨_, rfl, ?_⟩; have n0_ := Aside0.mk (below_step (by repeat (first | (with_reducible first | exact HB.out | apply below_alloc | apply pw_below_drewN | apply below_drew1) | exact HB.out)) hb); clear HB; have HB := n0_; clear n0_; (try clear hb); (try clear hb2); (try clear hk); (try clear hi)))
    go_ret2
    exact ⟨_, by first | rfl | (simp [errW_none, errW_some] <;> rfl) | (simp [*, errW_none, errW_some] <;> rfl), by first | exact Kd.R_nil _ _ _ _ _ | exact Kd.N_nil _ _ _ _ _ | exact Kd.V_nil _ _ _ _ _ | exact Kd.Q_nil _ _ _ _ _ | exact Kd.S_nil _ _ _ _ _, by repeat (first | (with_reducible first | exact HB.out | apply below_alloc | apply pw_below_drewN | apply below_drew1) | exact HB.out)⟩


-- by hand: label_Right


-- by hand: foghornref10_Right


-- by hand: foghornref10_Same


-- by hand: foghornlaw10_alive


-- by hand: label_Matcher


-- by hand: foghornref10_Matcher


-- by hand: foghornref10_Matchers


-- by hand: foghornref10_All

end Go.Proofs.YtndgollcganhmaaQ.P
/- Helpers of the statements of layer 10: few, asked. -/
namespace Go.Proofs.Ytndgollcganhmaa
open Go.RowKit
attribute [local go_sem high] ext_size ext_cell ext_frozen alloc_cell alloc_frozen
def cut12 (x : ByteArray) : ByteArray := x.extract 0 12
theorem cut12_min (x : ByteArray) (m : Nat) (h : m = min x.size 12) : x.extract 0 m = cut12 x := by
  unfold cut12
  rcases Nat.lt_or_ge x.size 12 with c | c
  · rw [show m = x.size by omega, ext0_all x 12 (by omega), ext0_all x x.size (Nat.le_refl _)]
  · rw [show m = 12 by omega]
def cutL (x : Lab) : Lab := ⟨cut12 x.name, cut12 x.value⟩
def fewL (xs : List Lab) : List Lab := (xs.take 6).map cutL
theorem fewL_step (xs : List Lab) (k : Nat) (hk : k < xs.length) : labsC ((xs.take k).map cutL) ++ labC (cutL xs[k]) = labsC ((xs.take (k + 1)).map cutL) := by
  rw [List.take_succ_eq_append_getElem hk, List.map_append]
  unfold labsC
  rw [List.flatMap_append]
  simp
def LabsTo (w : World) (xs : List Lab) (e : Ending) (w' : World) : Prop := ∃ v, e = .returned v ∧ SlAt w' v 2 xs.length (labsC xs) ∧ FreshV w.heap.size v ∧ Below w.heap.size w w'
set_option maxRecDepth 100000 in
set_option maxHeartbeats 1000000 in
theorem few10_any (v : Value) (xs : List Lab) (w : World) (hS : SlAt w v 2 xs.length (labsC xs)) (hL : LabsOk xs) :
    Calls Try.prog 10 #[v] w (LabsTo w (fewL xs)) := by
  obtain ⟨a, c, rfl, hnc, hcm⟩ := hS.form
  obtain ⟨m, hm⟩ : ∃ m, m = min xs.length 6 := ⟨_, rfl⟩
  have hm1 : m ≤ xs.length := by omega
  have hfl : fewL xs = (xs.take m).map cutL := by
    unfold fewL
    rw [hm, List.take_eq_take_min]
    congr 1
    rw [Nat.min_comm]
  rw [hfl]
  clear hfl
  have HS := Lib.hid hS
  have HL := Lib.hid hL
  have hmin : min (xs.length : Int) 6 = (m : Int) := by omega
  have hm6 : m ≤ 6 := by omega
  unfold maxLen at hcm
  clear hS hL hm
  go_enter Try.func10, Try.ntmps10
  go_wp2
  clear hmin
  go_loopw [3, 12] (fun v i wr => ∃ (k : Nat), k ≤ m ∧ i = .int .i64 k ∧ Hid (wr.ownsRow w.heap.size 41 2 v k (labsC ((xs.take k).map cutL))) ∧ Below w.heap.size w wr) (fun _ i _ => m - (intOf i).toNat)
  case atStart => exact ⟨0, Nat.zero_le _, rfl, World.ownsRow_nil _ _ _ _, Below.refl _ _⟩
  case round =>
    obtain ⟨k, hk, rfl, HO, hbel⟩ := hrel
    by_cases hlt : k < m
    · obtain ⟨b, o, rfl, hbl, hcell⟩ := HS.out.at (by omega)
      have g0 := labs_get xs k (by omega)
      have k0 : w.cell? ⟨b, o + k * 2, none⟩ = some (.string xs[k].name) := hcell _ _ g0.1
      have k1 : w.cell? ⟨b, o + k * 2 + 1, none⟩ = some (.string xs[k].value) := by rw [Nat.add_assoc]; exact hcell _ _ g0.2
      have hok := HL.out xs[k] (List.getElem_mem _)
      have hst := fewL_step xs k (by omega)
      obtain ⟨x, hx⟩ : ∃ x, x = xs[k] := ⟨_, rfl⟩
      rw [← hx] at k0 k1 hok hst
      obtain ⟨f0, f1⟩ := x
      simp only at k0 k1 hok
      obtain ⟨h0, h1⟩ := hok
      unfold maxLen at h0 h1
      obtain ⟨m0, hm0'⟩ : ∃ m, m = min f0.size 12 := ⟨_, rfl⟩
      have c0 := cut12_min f0 m0 hm0'
      have q0 : min (f0.size : Int) 12 = (m0 : Int) := by omega
      have p0 : (m0 : Int) ≤ (f0.size : Int) := by omega
      have HC0 := Lib.hid c0
      obtain ⟨m1, hm1'⟩ : ∃ m, m = min f1.size 12 := ⟨_, rfl⟩
      have c1 := cut12_min f1 m1 hm1'
      have q1 : min (f1.size : Int) 12 = (m1 : Int) := by omega
      have p1 : (m1 : Int) ≤ (f1.size : Int) := by omega
      have HC1 := Lib.hid c1
      have HST := Lib.hid hst
      have HI := Lib.hid infoLab
      obtain ⟨xr, rfl⟩ := ext_of hbel
      clear hcell g0 hx hst hbel hm0' c0 hm1' c1
      go_wp2
      go_region_held3 (fun W => W.cell? ⟨w.heap.size + more xr, 0, none⟩ = some (.string f0) ∧ W.cell? ⟨w.heap.size + more xr, 1, none⟩ = some (.string f1))
        ((refine ⟨?_, ?_⟩ <;> ((try simp only [drew_cell, drew_size, ext_cell, ext_size, alloc_cell, size_alloc]); (repeat (first | rw [if_pos (by omega)] | rw [if_neg (by omega)])); first | rfl | assumption)))
        ((refine st_app1 (W := ((ext w xr).alloc (.cells #[.string f0, .string f1] 41)).drew) rfl (.tmp 16) (.tmp 32) 22 (by rfl) (.agg #[.string ⟨#[]⟩, .string ⟨#[]⟩]) 32 Try.underlying22 HI.out rfl (by omega) (by omega) [.string (f0.extract 0 m0), .string (f1.extract 0 m1)] (by rfl) (by simp only [drew_size, size_alloc, ext_size]; rfl) rfl (by intro q hq; simp at hq; rcases hq with rfl | rfl <;> rfl) (by exact HO.out.alloc _) (by simp only [drew_size, size_alloc, ext_size]; omega) (by omega) ?_; intro g1 cap1 w1 HO1 hB1 hlt1 hg1; have hb1 := bel_row (show Below w.heap.size w ((ext w xr).alloc (.cells #[.string f0, .string f1] 41)).drew from (by repeat (first | exact Below.refl _ _ | apply bal | apply bext | apply bdr | apply bdrN | (refine bst ?_ _ (by simp only [ext_size, size_alloc, size_set]; omega))))) (by simp only [drew_size, size_alloc, ext_size]; omega) (HO.out.alloc (.cells #[.string f0, .string f1] 41)) (Nat.le_refl _) hg1; have r0 := (hg1.cell_far ⟨w.heap.size + more xr, 0, none⟩ (by simp only [drew_size, size_alloc, ext_size]; omega) (by intro e; have h2 : (w.heap.size + more xr) < (ext w xr).heap.size := (HO.out.lt _ e.symm).2; rw [ext_size] at h2; omega)).trans (show ((ext w xr).alloc (.cells #[.string f0, .string f1] 41)).drew.cell? ⟨w.heap.size + more xr, 0, none⟩ = some (.string f0) by rw [drew_cell, alloc_cell, ext_size, if_neg (Nat.lt_irrefl _), if_pos rfl]; rfl); have r1 := (hg1.cell_far ⟨w.heap.size + more xr, 1, none⟩ (by simp only [drew_size, size_alloc, ext_size]; omega) (by intro e; have h2 : (w.heap.size + more xr) < (ext w xr).heap.size := (HO.out.lt _ e.symm).2; rw [ext_size] at h2; omega)).trans (show ((ext w xr).alloc (.cells #[.string f0, .string f1] 41)).drew.cell? ⟨w.heap.size + more xr, 1, none⟩ = some (.string f1) by rw [drew_cell, alloc_cell, ext_size, if_neg (Nat.lt_irrefl _), if_pos rfl]; rfl)))
      all_goals
        go_wp2
        have HO2 := HO1.out
        rw [HC0.out, HC1.out] at HO2
        have h9 := HST.out
        rw [show labC (cutL ⟨f0, f1⟩) = [.string (cut12 f0), .string (cut12 f1)] from rfl] at h9
        rw [h9] at HO2
        exact ⟨⟨k + 1, by omega, by go_num, HO2, hb1⟩, by simp [intOf]; omega⟩
    · obtain rfl : k = m := by omega
      have h := SlAt.of_own HO.out (by unfold maxLen; omega)
      have hfr := FreshV.of_own HO.out
      obtain ⟨a2, c2, hv, _, _⟩ := h.form
      subst hv
      have H := Lib.hid h
      have hlen : ((xs.take k).map cutL).length = k := by rw [List.length_map, List.length_take]; omega
      have HLEN := Lib.hid hlen
      clear h hlen
      go_wp2
      go_ret
      refine ⟨_, rfl, ?_, hfr, hbel⟩
      rw [HLEN.out]
      exact H.out
theorem infoMat : (Try.prog.info? 35).map (fun i => (i.zero, i.size, i.bytes)) = some (some (.agg #[.int .i64 0, .string ⟨#[]⟩, .string ⟨#[]⟩]), 3, 40) := by kernel_rfl
def cutM (x : Mat) : Mat := ⟨x.kind, cut12 x.name, cut12 x.value⟩
def fewM (xs : List Mat) : List Mat := (xs.take 6).map cutM
theorem fewM_step (xs : List Mat) (k : Nat) (hk : k < xs.length) : matsC ((xs.take k).map cutM) ++ matC (cutM xs[k]) = matsC ((xs.take (k + 1)).map cutM) := by
  rw [List.take_succ_eq_append_getElem hk, List.map_append]
  unfold matsC
  rw [List.flatMap_append]
  simp
def MatsTo (w : World) (xs : List Mat) (e : Ending) (w' : World) : Prop := ∃ v, e = .returned v ∧ SlAt w' v 3 xs.length (matsC xs) ∧ FreshV w.heap.size v ∧ Below w.heap.size w w'
set_option maxRecDepth 100000 in
set_option maxHeartbeats 1000000 in
theorem asked10_any (v : Value) (xs : List Mat) (w : World) (hS : SlAt w v 3 xs.length (matsC xs)) (hL : MatsOk xs) :
    Calls Try.prog 11 #[v] w (MatsTo w (fewM xs)) := by
  obtain ⟨a, c, rfl, hnc, hcm⟩ := hS.form
  obtain ⟨m, hm⟩ : ∃ m, m = min xs.length 6 := ⟨_, rfl⟩
  have hm1 : m ≤ xs.length := by omega
  have hfl : fewM xs = (xs.take m).map cutM := by
    unfold fewM
    rw [hm, List.take_eq_take_min]
    congr 1
    rw [Nat.min_comm]
  rw [hfl]
  clear hfl
  have HS := Lib.hid hS
  have HL := Lib.hid hL
  have hmin : min (xs.length : Int) 6 = (m : Int) := by omega
  have hm6 : m ≤ 6 := by omega
  unfold maxLen at hcm
  clear hS hL hm
  go_enter Try.func11, Try.ntmps11
  go_wp2
  clear hmin
  go_loopw [3, 12] (fun v i wr => ∃ (k : Nat), k ≤ m ∧ i = .int .i64 k ∧ Hid (wr.ownsRow w.heap.size 35 3 v k (matsC ((xs.take k).map cutM))) ∧ Below w.heap.size w wr) (fun _ i _ => m - (intOf i).toNat)
  case atStart => exact ⟨0, Nat.zero_le _, rfl, World.ownsRow_nil _ _ _ _, Below.refl _ _⟩
  case round =>
    obtain ⟨k, hk, rfl, HO, hbel⟩ := hrel
    by_cases hlt : k < m
    · obtain ⟨b, o, rfl, hbl, hcell⟩ := HS.out.at (by omega)
      have g0 := mats_get xs k (by omega)
      have k0 : w.cell? ⟨b, o + k * 3, none⟩ = some (.int .i64 xs[k].kind) := hcell _ _ g0.1
      have k1 : w.cell? ⟨b, o + k * 3 + 1, none⟩ = some (.string xs[k].name) := by rw [Nat.add_assoc]; exact hcell _ _ g0.2.1
      have k2 : w.cell? ⟨b, o + k * 3 + 2, none⟩ = some (.string xs[k].value) := by rw [Nat.add_assoc]; exact hcell _ _ g0.2.2
      have hok := HL.out xs[k] (List.getElem_mem _)
      have hst := fewM_step xs k (by omega)
      obtain ⟨x, hx⟩ : ∃ x, x = xs[k] := ⟨_, rfl⟩
      rw [← hx] at k0 k1 k2 hok hst
      obtain ⟨f0, f1, f2⟩ := x
      simp only at k0 k1 k2 hok
      obtain ⟨h1, h2⟩ := hok
      unfold maxLen at h1 h2
      obtain ⟨m1, hm1'⟩ : ∃ m, m = min f1.size 12 := ⟨_, rfl⟩
      have c1 := cut12_min f1 m1 hm1'
      have q1 : min (f1.size : Int) 12 = (m1 : Int) := by omega
      have p1 : (m1 : Int) ≤ (f1.size : Int) := by omega
      have HC1 := Lib.hid c1
      obtain ⟨m2, hm2'⟩ : ∃ m, m = min f2.size 12 := ⟨_, rfl⟩
      have c2 := cut12_min f2 m2 hm2'
      have q2 : min (f2.size : Int) 12 = (m2 : Int) := by omega
      have p2 : (m2 : Int) ≤ (f2.size : Int) := by omega
      have HC2 := Lib.hid c2
      have HST := Lib.hid hst
      have HI := Lib.hid infoMat
      obtain ⟨xr, rfl⟩ := ext_of hbel
      clear hcell g0 hx hst hbel hm1' c1 hm2' c2
      go_wp2
      go_region_held3 (fun W => W.cell? ⟨w.heap.size + more xr, 0, none⟩ = some (.int .i64 f0) ∧ W.cell? ⟨w.heap.size + more xr, 1, none⟩ = some (.string f1) ∧ W.cell? ⟨w.heap.size + more xr, 2, none⟩ = some (.string f2))
        ((refine ⟨?_, ?_, ?_⟩ <;> ((try simp only [drew_cell, drew_size, ext_cell, ext_size, alloc_cell, size_alloc]); (repeat (first | rw [if_pos (by omega)] | rw [if_neg (by omega)])); first | rfl | assumption)))
        ((refine st_app1 (W := ((ext w xr).alloc (.cells #[.int .i64 f0, .string f1, .string f2] 35)).drew) rfl (.tmp 16) (.tmp 34) 23 (by rfl) (.agg #[.int .i64 0, .string ⟨#[]⟩, .string ⟨#[]⟩]) 40 Try.underlying23 HI.out rfl (by omega) (by omega) [.int .i64 f0, .string (f1.extract 0 m1), .string (f2.extract 0 m2)] (by rfl) (by simp only [drew_size, size_alloc, ext_size]; rfl) rfl (by intro q hq; simp at hq; rcases hq with rfl | rfl | rfl <;> rfl) (by exact HO.out.alloc _) (by simp only [drew_size, size_alloc, ext_size]; omega) (by omega) ?_; intro g1 cap1 w1 HO1 hB1 hlt1 hg1; have hb1 := bel_row (show Below w.heap.size w ((ext w xr).alloc (.cells #[.int .i64 f0, .string f1, .string f2] 35)).drew from (by repeat (first | exact Below.refl _ _ | apply bal | apply bext | apply bdr | apply bdrN | (refine bst ?_ _ (by simp only [ext_size, size_alloc, size_set]; omega))))) (by simp only [drew_size, size_alloc, ext_size]; omega) (HO.out.alloc (.cells #[.int .i64 f0, .string f1, .string f2] 35)) (Nat.le_refl _) hg1; have r0 := (hg1.cell_far ⟨w.heap.size + more xr, 0, none⟩ (by simp only [drew_size, size_alloc, ext_size]; omega) (by intro e; have h2 : (w.heap.size + more xr) < (ext w xr).heap.size := (HO.out.lt _ e.symm).2; rw [ext_size] at h2; omega)).trans (show ((ext w xr).alloc (.cells #[.int .i64 f0, .string f1, .string f2] 35)).drew.cell? ⟨w.heap.size + more xr, 0, none⟩ = some (.int .i64 f0) by rw [drew_cell, alloc_cell, ext_size, if_neg (Nat.lt_irrefl _), if_pos rfl]; rfl); have r1 := (hg1.cell_far ⟨w.heap.size + more xr, 1, none⟩ (by simp only [drew_size, size_alloc, ext_size]; omega) (by intro e; have h2 : (w.heap.size + more xr) < (ext w xr).heap.size := (HO.out.lt _ e.symm).2; rw [ext_size] at h2; omega)).trans (show ((ext w xr).alloc (.cells #[.int .i64 f0, .string f1, .string f2] 35)).drew.cell? ⟨w.heap.size + more xr, 1, none⟩ = some (.string f1) by rw [drew_cell, alloc_cell, ext_size, if_neg (Nat.lt_irrefl _), if_pos rfl]; rfl); have r2 := (hg1.cell_far ⟨w.heap.size + more xr, 2, none⟩ (by simp only [drew_size, size_alloc, ext_size]; omega) (by intro e; have h2 : (w.heap.size + more xr) < (ext w xr).heap.size := (HO.out.lt _ e.symm).2; rw [ext_size] at h2; omega)).trans (show ((ext w xr).alloc (.cells #[.int .i64 f0, .string f1, .string f2] 35)).drew.cell? ⟨w.heap.size + more xr, 2, none⟩ = some (.string f2) by rw [drew_cell, alloc_cell, ext_size, if_neg (Nat.lt_irrefl _), if_pos rfl]; rfl)))
      all_goals
        go_wp2
        have HO2 := HO1.out
        rw [HC1.out, HC2.out] at HO2
        have h9 := HST.out
        rw [show matC (cutM ⟨f0, f1, f2⟩) = [.int .i64 f0, .string (cut12 f1), .string (cut12 f2)] from rfl] at h9
        rw [h9] at HO2
        exact ⟨⟨k + 1, by omega, by go_num, HO2, hb1⟩, by simp [intOf]; omega⟩
    · obtain rfl : k = m := by omega
      have h := SlAt.of_own HO.out (by unfold maxLen; omega)
      have hfr := FreshV.of_own HO.out
      obtain ⟨a2, c2, hv, _, _⟩ := h.form
      subst hv
      have H := Lib.hid h
      have hlen : ((xs.take k).map cutM).length = k := by rw [List.length_map, List.length_take]; omega
      have HLEN := Lib.hid hlen
      clear h hlen
      go_wp2
      go_ret
      refine ⟨_, rfl, ?_, hfr, hbel⟩
      rw [HLEN.out]
      exact H.out
end Go.Proofs.Ytndgollcganhmaa
/- foghornlaw10.alive. -/
namespace Go.Proofs.Ytndgollcganhmaa
open Go.RowKit
attribute [local go_sem high] ext_size ext_cell ext_frozen alloc_cell alloc_frozen
theorem slat_lit (W : World) {H sz n : Nat} {arr : Array Value} {e : TypeId} {cells : List Value} (hH : W.heap.size = H) (hc : arr = cells.toArray) (hn : cells.length = n * sz) (hm : n ≤ maxLen) : SlAt (W.alloc (.cells arr e)) (.slice (some ⟨H, 0, none⟩) n n) sz n cells := by
  subst hH hc
  refine ⟨hn, _, n, rfl, Nat.le_refl _, hm, .inr ⟨_, 0, rfl, by rw [size_alloc]; omega, fun j u hu => ?_⟩⟩
  rw [Nat.zero_add]
  exact blk_cell (blk_new W _) (by simpa using hu)
def aliveL : List Lab := [⟨⟨#[122]⟩, ⟨#[101, 117, 45, 49]⟩⟩, ⟨⟨#[97]⟩, ⟨#[100, 98]⟩⟩]
def aliveM : List Mat := [⟨2, ⟨#[122]⟩, ⟨#[101, 117]⟩⟩, ⟨1, ⟨#[97]⟩, ⟨#[119, 101, 98]⟩⟩]
def aliveS : List Lab := [⟨⟨#[97]⟩, ⟨#[100, 98]⟩⟩, ⟨⟨#[122]⟩, ⟨#[101, 117, 45, 49]⟩⟩]
theorem alive10_any (w : World) :
    Calls Try.prog 18 #[] w fun e w' => e = .returned (.bool true) ∧ Below w.heap.size w w' := by
  have h1 : sortL aliveL = aliveS ∧ sortE aliveL = 0 := by decide +kernel
  have h2 : allE aliveM aliveS = 0 ∧ allB aliveM aliveS = true := by decide +kernel
  have HS := Lib.hid fun v W (h : SlAt W v 2 2 (labsC aliveL)) => labSort_any v aliveL W h (fun x hx => by simp [aliveL] at hx; rcases hx with rfl | rfl <;> decide)
  rw [h1.1, h1.2] at HS
  have HA := Lib.hid fun u v W (h : SlAt W u 3 2 (matsC aliveM)) (h' : SlAt W v 2 2 (labsC aliveS)) => labAll_any u v aliveM aliveS W h h' (fun x hx => by simp [aliveM] at hx; rcases hx with rfl | rfl <;> decide) (fun x hx => by simp [aliveS] at hx; rcases hx with rfl | rfl <;> decide)
  rw [h2.1, h2.2] at HA
  clear h1 h2
  go_enter Try.func18, Try.ntmps18
  go_wp2_with fail
  refine (HS.out _ _ (slat_lit w rfl rfl rfl (by decide))).mono ?_
  rintro e w1 ⟨v1, rfl, hs1, hf1, hb1⟩
  replace hs1 : SlAt w1 v1 2 2 (labsC aliveS) := hs1
  obtain ⟨a1, c1, rfl, hn1, hm1⟩ := hs1.form
  obtain ⟨x1, rfl⟩ := ext_of hb1
  have HS1 := Lib.hid hs1
  obtain ⟨b, o, rfl, hbl, hcell⟩ := hs1.at (by decide)
  have k0 : cellX x1 ⟨b, o, none⟩ = some (.string ⟨#[97]⟩) := hcell 0 _ rfl
  have hge : w.heap.size + 1 ≤ b := by have := hf1 b rfl; rwa [size_alloc] at this
  rw [ext_size, size_alloc] at hbl
  clear hs1 hb1 hcell hf1
  go_wp2_with fail
  refine (HA.out _ _ _ (slat_lit _ (by simp only [ext_size, size_alloc]) rfl rfl (by decide)) (HS1.out.stay (by repeat (first | exact Below.refl _ _ | apply bal | apply bext | apply bdr | apply bdrN | (refine bst ?_ _ (by simp only [ext_size, size_alloc, size_set]; omega)))))).mono ?_
  rintro e w2 ⟨rfl, hb2⟩
  obtain ⟨x2, rfl⟩ := ext_of hb2
  clear hb2
  go_wp2_with fail
  go_ret
  exact ⟨ret_bool (by first | rfl | simp), (by repeat (first | exact Below.refl _ _ | apply bal | apply bext | apply bdr | apply bdrN | (refine bst ?_ _ (by simp only [ext_size, size_alloc, size_set]; omega))))⟩
end Go.Proofs.Ytndgollcganhmaa
/- The contract of layer 10's alive, in the printer's form. -/
namespace Go.Proofs.YtndgollcganhmaaQ.P
open Go.RowKit Go.Proofs.YtndgollcganhmaaW.PrintWords Go.Proofs.Ytndgollcganhmaa
def foghornlaw10_alive.f : Option Bool := some true
theorem foghornlaw10_alive.calls (r : Bool) (w : World) (h : foghornlaw10_alive.f = some r) :
    Calls Try.prog 18 #[] w fun e w' => e = .returned (.bool r) ∧ Below w.heap.size w w' := by
  obtain rfl : true = r := Option.some.inj h
  exact alive10_any w
end Go.Proofs.YtndgollcganhmaaQ.P
/- Printed by the kit's printer, with my stubs, for this claim. -/
namespace Go.Proofs.YtndgollcganhmaaQ.P
open Go.RowKit Go.Proofs.YtndgollcganhmaaW.PrintWords Go.Proofs.YtndgollcganhmaaW.PrintLast Go.Proofs.YtndgollcganhmaaW.PrintMore
attribute [local go_sem] max2_int min2_int max_two min_two max_three min_three max_four min_four   -- for this text's walks alone

/-! ### foghornlaw10_LabelTells: function 3 -/
mutual
def foghornlaw10_LabelTells.j0 : Nat → List (S41) → List (S35) → Bool → Int → Bool → Option (Bool)
  | 0, _, _, _, _, _ => none
  | k + 1, x0, x1, x7, x8, x52 => if x52 = true then (some false) else (foghornlaw10_LabelTells.l0 k x0 x1 x7 x8 x1 (x1.length : Int) 0)
def foghornlaw10_LabelTells.l0 : Nat → List (S41) → List (S35) → Bool → Int → List (S35) → Int → Int → Option (Bool)
  | 0, _, _, _, _, _, _, _ => none
  | k + 1, x0, x1, x7, x8, x53, x54, x55 => if x55 < x54 then (if 0 ≤ x55 then (if x55 < (x53.length : Int) then ((label_Matcher.f ((rd_T35 x53 x55).f0) ((rd_T35 x53 x55).f1) ((rd_T35 x53 x55).f2)).bind fun t167 => ((foghornref10_Matcher.f ((rd_T35 x53 x55).f0) ((rd_T35 x53 x55).f1) ((rd_T35 x53 x55).f2)).bind fun t168 => (if (t167 != t168) = true then (some false) else (foghornlaw10_LabelTells.l0 k x0 x1 x7 x8 x53 x54 (wrap64 (x55 + 1)))))) else (none)) else (none)) else ((foghornref10_Right.f x0).bind fun t169 => (if t169 = true then ((foghornref10_Matchers.f x1).bind fun t170 => (if t170 = true then (if x8 = 0 then ((foghornref10_All.f x1 x0).bind fun t171 => (some (x7 == t171))) else (some false)) else (if x8 = 1 then (some (!x7)) else (some false)))) else (if x8 = 1 then (some (!x7)) else (some false))))
end
def foghornlaw10_LabelTells.f (k : Nat) (l0 : List (S41)) (l1 : List (S35)) : Option (Bool) := (foghornlaw10_few.f k l0).bind fun t145 => ((foghornlaw10_asked.f k l1).bind fun t148 => ((label_Sort.f t145).bind fun bt151 => ((label_All.f t148 t145).bind fun bt155 => ((foghornref10_Sort.f k t145).bind fun bt157 => ((label_Right.f t145).bind fun t161 => ((foghornref10_Right.f t145).bind fun t162 => (if (t161 != t162) = true then (foghornlaw10_LabelTells.j0 k t145 t148 bt155.1 bt155.2 true) else (if bt151.2 = bt157.2 then ((foghornref10_Same.f bt151.1 bt157.1).bind fun t163 => (if t163 = true then ((foghornlaw10_alive.f).bind fun t164 => (foghornlaw10_LabelTells.j0 k t145 t148 bt155.1 bt155.2 (!t164))) else (foghornlaw10_LabelTells.j0 k t145 t148 bt155.1 bt155.2 true))) else (foghornlaw10_LabelTells.j0 k t145 t148 bt155.1 bt155.2 true)))))))))
theorem foghornlaw10_LabelTells.mono_l : ∀ k, (∀ y0 y1 y2 y3 y4, LeO (foghornlaw10_LabelTells.j0 k y0 y1 y2 y3 y4) (foghornlaw10_LabelTells.j0 (k + 1) y0 y1 y2 y3 y4)) ∧ (∀ y0 y1 y2 y3 y4 y5 y6, LeO (foghornlaw10_LabelTells.l0 k y0 y1 y2 y3 y4 y5 y6) (foghornlaw10_LabelTells.l0 (k + 1) y0 y1 y2 y3 y4 y5 y6))
  | 0 => ⟨fun _ _ _ _ _ r h => by simp [foghornlaw10_LabelTells.j0] at h, fun _ _ _ _ _ _ _ r h => by simp [foghornlaw10_LabelTells.l0] at h⟩
  | k + 1 => by
    obtain ⟨ih0, ih1⟩ := foghornlaw10_LabelTells.mono_l k
    refine ⟨?_, ?_⟩
    · intro y0 y1 y2 y3 y4
      unfold foghornlaw10_LabelTells.j0
      repeat' first
      | (with_reducible exact ih0 _ _ _ _ _)
      | (with_reducible exact ih1 _ _ _ _ _ _ _)
      | (with_reducible exact foghornlaw10_asked.mono _ _)
      | (with_reducible exact foghornlaw10_few.mono _ _)
      | (with_reducible exact foghornref10_Sort.mono _ _)
      | (with_reducible exact LeO.refl _)
      | (with_reducible exact LeO.none _)
      | (with_reducible refine LeO.ite ?_ ?_)
      | (with_reducible refine LeO.bind ?_ (fun _ => ?_))
      | exact ih0 _ _ _ _ _
      | exact ih1 _ _ _ _ _ _ _
      | exact foghornlaw10_asked.mono _ _
      | exact foghornlaw10_few.mono _ _
      | exact foghornref10_Sort.mono _ _
      | exact LeO.none _
      | refine LeO.ite ?_ ?_
      | refine LeO.bind ?_ (fun _ => ?_)
    · intro y0 y1 y2 y3 y4 y5 y6
      unfold foghornlaw10_LabelTells.l0
      repeat' first
      | (with_reducible exact ih0 _ _ _ _ _)
      | (with_reducible exact ih1 _ _ _ _ _ _ _)
      | (with_reducible exact foghornlaw10_asked.mono _ _)
      | (with_reducible exact foghornlaw10_few.mono _ _)
      | (with_reducible exact foghornref10_Sort.mono _ _)
      | (with_reducible exact LeO.refl _)
      | (with_reducible exact LeO.none _)
      | (with_reducible refine LeO.ite ?_ ?_)
      | (with_reducible refine LeO.bind ?_ (fun _ => ?_))
      | exact ih0 _ _ _ _ _
      | exact ih1 _ _ _ _ _ _ _
      | exact foghornlaw10_asked.mono _ _
      | exact foghornlaw10_few.mono _ _
      | exact foghornref10_Sort.mono _ _
      | exact LeO.none _
      | refine LeO.ite ?_ ?_
      | refine LeO.bind ?_ (fun _ => ?_)
theorem foghornlaw10_LabelTells.mono : ∀ a0 a1 k, LeO (foghornlaw10_LabelTells.f k a0 a1) (foghornlaw10_LabelTells.f (k + 1) a0 a1) := by
  intro a0 a1 k
  obtain ⟨ih0, ih1⟩ := foghornlaw10_LabelTells.mono_l k
  unfold foghornlaw10_LabelTells.f
  repeat' first
      | (with_reducible exact ih0 _ _ _ _ _)
      | (with_reducible exact ih1 _ _ _ _ _ _ _)
      | (with_reducible exact foghornlaw10_asked.mono _ _)
      | (with_reducible exact foghornlaw10_few.mono _ _)
      | (with_reducible exact foghornref10_Sort.mono _ _)
      | (with_reducible exact LeO.refl _)
      | (with_reducible exact LeO.none _)
      | (with_reducible refine LeO.ite ?_ ?_)
      | (with_reducible refine LeO.bind ?_ (fun _ => ?_))
      | exact ih0 _ _ _ _ _
      | exact ih1 _ _ _ _ _ _ _
      | exact foghornlaw10_asked.mono _ _
      | exact foghornlaw10_few.mono _ _
      | exact foghornref10_Sort.mono _ _
      | exact LeO.none _
      | refine LeO.ite ?_ ?_
      | refine LeO.bind ?_ (fun _ => ?_)
set_option maxHeartbeats 8000000 in
set_option maxRecDepth 100000 in
theorem foghornlaw10_LabelTells.calls (k : Nat) (A0 : Option Addr) (c0 : Nat) (l0 : List (S41)) (A1 : Option Addr) (c1 : Nat) (l1 : List (S35)) (r : Bool) (w : World) (hr0 : Kd.C k41 w A0 l0.length l0) (hc0 : l0.length ≤ c0) (hr1 : Kd.C k35 w A1 l1.length l1) (hc1 : l1.length ≤ c1) (h : foghornlaw10_LabelTells.f k l0 l1 = some r) :
    Calls Try.prog 3 #[.slice A0 l0.length c0, .slice A1 l1.length c1] w fun e w' => e = .returned (.bool r) ∧ Below w.heap.size w w' := by
  have hu35 := Try.underlying35
  have HR0 := Aside0.mk hr0
  have HC0 := Aside0.mk hc0
  clear hr0 hc0
  have HR1 := Aside0.mk hr1
  have HC1 := Aside0.mk hc1
  clear hr1 hc1
  have HB := Aside0.mk (Below.refl w.heap.size w)
  have H : ((foghornlaw10_few.f k l0).bind fun t145 => ((foghornlaw10_asked.f k l1).bind fun t148 => ((label_Sort.f t145).bind fun bt151 => ((label_All.f t148 t145).bind fun bt155 => ((foghornref10_Sort.f k t145).bind fun bt157 => ((label_Right.f t145).bind fun t161 => ((foghornref10_Right.f t145).bind fun t162 => (if (t161 != t162) = true then (foghornlaw10_LabelTells.j0 k t145 t148 bt155.1 bt155.2 true) else (if bt151.2 = bt157.2 then ((foghornref10_Same.f bt151.1 bt157.1).bind fun t163 => (if t163 = true then ((foghornlaw10_alive.f).bind fun t164 => (foghornlaw10_LabelTells.j0 k t145 t148 bt155.1 bt155.2 (!t164))) else (foghornlaw10_LabelTells.j0 k t145 t148 bt155.1 bt155.2 true))) else (foghornlaw10_LabelTells.j0 k t145 t148 bt155.1 bt155.2 true)))))))))) = some r := h
  clear h
  replace H := Option.bind_eq_some_iff.mp H
  obtain ⟨t145, A30, H⟩ := H
  replace H : ((foghornlaw10_asked.f k l1).bind fun t148 => ((label_Sort.f t145).bind fun bt151 => ((label_All.f t148 t145).bind fun bt155 => ((foghornref10_Sort.f k t145).bind fun bt157 => ((label_Right.f t145).bind fun t161 => ((foghornref10_Right.f t145).bind fun t162 => (if (t161 != t162) = true then (foghornlaw10_LabelTells.j0 k t145 t148 bt155.1 bt155.2 true) else (if bt151.2 = bt157.2 then ((foghornref10_Same.f bt151.1 bt157.1).bind fun t163 => (if t163 = true then ((foghornlaw10_alive.f).bind fun t164 => (foghornlaw10_LabelTells.j0 k t145 t148 bt155.1 bt155.2 (!t164))) else (foghornlaw10_LabelTells.j0 k t145 t148 bt155.1 bt155.2 true))) else (foghornlaw10_LabelTells.j0 k t145 t148 bt155.1 bt155.2 true))))))))) = some r := H
  have A3 := Aside0.mk A30
  clear A30
  replace H := Option.bind_eq_some_iff.mp H
  obtain ⟨t148, A40, H⟩ := H
  replace H : ((label_Sort.f t145).bind fun bt151 => ((label_All.f t148 t145).bind fun bt155 => ((foghornref10_Sort.f k t145).bind fun bt157 => ((label_Right.f t145).bind fun t161 => ((foghornref10_Right.f t145).bind fun t162 => (if (t161 != t162) = true then (foghornlaw10_LabelTells.j0 k t145 t148 bt155.1 bt155.2 true) else (if bt151.2 = bt157.2 then ((foghornref10_Same.f bt151.1 bt157.1).bind fun t163 => (if t163 = true then ((foghornlaw10_alive.f).bind fun t164 => (foghornlaw10_LabelTells.j0 k t145 t148 bt155.1 bt155.2 (!t164))) else (foghornlaw10_LabelTells.j0 k t145 t148 bt155.1 bt155.2 true))) else (foghornlaw10_LabelTells.j0 k t145 t148 bt155.1 bt155.2 true)))))))) = some r := H
  have A4 := Aside0.mk A40
  clear A40
  replace H := Option.bind_eq_some_iff.mp H
  obtain ⟨⟨t151, t152⟩, A50, H⟩ := H
  replace H : ((label_All.f t148 t145).bind fun bt155 => ((foghornref10_Sort.f k t145).bind fun bt157 => ((label_Right.f t145).bind fun t161 => ((foghornref10_Right.f t145).bind fun t162 => (if (t161 != t162) = true then (foghornlaw10_LabelTells.j0 k t145 t148 bt155.1 bt155.2 true) else (if t152 = bt157.2 then ((foghornref10_Same.f t151 bt157.1).bind fun t163 => (if t163 = true then ((foghornlaw10_alive.f).bind fun t164 => (foghornlaw10_LabelTells.j0 k t145 t148 bt155.1 bt155.2 (!t164))) else (foghornlaw10_LabelTells.j0 k t145 t148 bt155.1 bt155.2 true))) else (foghornlaw10_LabelTells.j0 k t145 t148 bt155.1 bt155.2 true))))))) = some r := H
  have A5 := Aside0.mk A50
  clear A50
  replace H := Option.bind_eq_some_iff.mp H
  obtain ⟨⟨t155, t156⟩, A60, H⟩ := H
  replace H : ((foghornref10_Sort.f k t145).bind fun bt157 => ((label_Right.f t145).bind fun t161 => ((foghornref10_Right.f t145).bind fun t162 => (if (t161 != t162) = true then (foghornlaw10_LabelTells.j0 k t145 t148 t155 t156 true) else (if t152 = bt157.2 then ((foghornref10_Same.f t151 bt157.1).bind fun t163 => (if t163 = true then ((foghornlaw10_alive.f).bind fun t164 => (foghornlaw10_LabelTells.j0 k t145 t148 t155 t156 (!t164))) else (foghornlaw10_LabelTells.j0 k t145 t148 t155 t156 true))) else (foghornlaw10_LabelTells.j0 k t145 t148 t155 t156 true)))))) = some r := H
  have A6 := Aside0.mk A60
  clear A60
  replace H := Option.bind_eq_some_iff.mp H
  obtain ⟨⟨t157, t158⟩, A70, H⟩ := H
  replace H : ((label_Right.f t145).bind fun t161 => ((foghornref10_Right.f t145).bind fun t162 => (if (t161 != t162) = true then (foghornlaw10_LabelTells.j0 k t145 t148 t155 t156 true) else (if t152 = t158 then ((foghornref10_Same.f t151 t157).bind fun t163 => (if t163 = true then ((foghornlaw10_alive.f).bind fun t164 => (foghornlaw10_LabelTells.j0 k t145 t148 t155 t156 (!t164))) else (foghornlaw10_LabelTells.j0 k t145 t148 t155 t156 true))) else (foghornlaw10_LabelTells.j0 k t145 t148 t155 t156 true))))) = some r := H
  have A7 := Aside0.mk A70
  clear A70
  have HC8 := Aside0.mk H
  clear H
  go_enter Try.func3, Try.ntmps3
  go_upto_region 5 with (first | ((with_reducible refine gate_callee (f := 10) rfl ?_); refine goesL_ (some 14) rfl rfl Try.func10 (by kernel_rfl) rfl #[.slice A0 l0.length c0] rfl (by (try simp only [List.map_toArray, List.map_cons, List.map_nil]); first | done | rfl | (simp only [List.length_drop, List.length_take]; rfl)) ?_; (with_reducible refine (foghornlaw10_few.calls k _ _ l0 t145 _ ?side1 ?side2 A3.out).mono ?_); (case side1 => repeat (first | exact HR0.out | (with_reducible refine Kd.C_alloc ?_ _) | (with_reducible refine Kd.C_drewN ?_ _) | (with_reducible refine Kd.C_drew ?_))); (case side2 => exact HC0.out); rintro e w9 ⟨v146, rfl, ho0, hb⟩; refine ⟨_, rfl, ?_⟩; have n0_ := Aside0.mk (Kd.R_lower ho0 (below_size (by repeat (first | (with_reducible first | exact HB.out | apply below_alloc | apply pw_below_drewN | apply below_drew1) | exact HB.out)))); have n1_ := Aside0.mk (below_step (by repeat (first | (with_reducible first | exact HB.out | apply below_alloc | apply pw_below_drewN | apply below_drew1) | exact HB.out)) hb); clear HB; have HO147 := n0_; have HB := n1_; clear n0_ n1_; (try clear hb); (try clear hb2); (try clear hk); (try clear hi); (try clear ho0)) | ((with_reducible refine gate_callee (f := 11) rfl ?_); refine goesL_ (some 16) rfl rfl Try.func11 (by kernel_rfl) rfl #[.slice A1 l1.length c1] rfl (by (try simp only [List.map_toArray, List.map_cons, List.map_nil]); first | done | rfl | (simp only [List.length_drop, List.length_take]; rfl)) ?_; (with_reducible refine (foghornlaw10_asked.calls k _ _ l1 t148 _ ?side1 ?side2 A4.out).mono ?_); (case side1 => repeat (first | exact (Kd.C_below HR1.out HB.out) | (with_reducible refine Kd.C_alloc ?_ _) | (with_reducible refine Kd.C_drewN ?_ _) | (with_reducible refine Kd.C_drew ?_))); (case side2 => exact HC1.out); rintro e w10 ⟨v149, rfl, ho0, hb⟩; refine ⟨_, rfl, ?_⟩; have n0_ := Aside0.mk (Kd.R_below (by (with_reducible repeat (first | apply Kd.R_alloc | apply Kd.R_drewN | apply Kd.R_drew)); exact HO147.out) hb); have n1_ := Aside0.mk (Kd.R_lower ho0 (below_size (by repeat (first | (with_reducible first | exact HB.out | apply below_alloc | apply pw_below_drewN | apply below_drew1) | exact HB.out)))); have n2_ := Aside0.mk (below_step (by repeat (first | (with_reducible first | exact HB.out | apply below_alloc | apply pw_below_drewN | apply below_drew1) | exact HB.out)) hb); clear HO147; clear HB; have HO147 := n0_; have HO150 := n1_; have HB := n2_; clear n0_ n1_ n2_; (try clear hb); (try clear hb2); (try clear hk); (try clear hi); (try clear ho0); obtain ⟨Ao11, co11, eo11⟩ := Kd.R_slice HO147.out; subst eo11) | ((with_reducible refine gate_callee (f := 12) rfl ?_); refine goesL_ (some 19) rfl rfl Try.func12 (by kernel_rfl) rfl #[.slice Ao11 t145.length co11] rfl (by (try simp only [List.map_toArray, List.map_cons, List.map_nil]); first | done | rfl | (simp only [List.length_drop, List.length_take]; rfl)) ?_; (with_reducible refine (label_Sort.calls _ _ t145 t151 t152 _ ?side1 ?side2 A5.out).mono ?_); (case side1 => repeat (first | exact (Kd.R_reads' HO147.out).2.2 | (with_reducible refine Kd.C_alloc ?_ _) | (with_reducible refine Kd.C_drewN ?_ _) | (with_reducible refine Kd.C_drew ?_))); (case side2 => exact (Kd.R_reads' HO147.out).2.1); rintro e w12 ⟨v153, rfl, ho0, hb⟩; refine ⟨_, rfl, ?_⟩; have n0_ := Aside0.mk (Kd.R_elder' (by (with_reducible repeat (first | apply Kd.R_alloc | apply Kd.R_drewN | apply Kd.R_drew)); exact HO147.out) (Kd.R_base ho0) hb); have n1_ := Aside0.mk (Kd.R_below (by (with_reducible repeat (first | apply Kd.R_alloc | apply Kd.R_drewN | apply Kd.R_drew)); exact HO150.out) hb); have n2_ := Aside0.mk (Kd.R_lower (Kd.R_new' ho0 (Kd.R_lt (by (with_reducible repeat (first | apply Kd.R_alloc | apply Kd.R_drewN | apply Kd.R_drew)); exact HO147.out))) (below_size (by repeat (first | (with_reducible first | exact HB.out | apply below_alloc | apply pw_below_drewN | apply below_drew1) | exact HB.out)))); have n3_ := Aside0.mk (below_step (by repeat (first | (with_reducible first | exact HB.out | apply below_alloc | apply pw_below_drewN | apply below_drew1) | exact HB.out)) hb); clear HO147; clear HO150; clear HB; have HO147 := n0_; have HO150 := n1_; have HO154 := n2_; have HB := n3_; clear n0_ n1_ n2_ n3_; (try clear hb); (try clear hb2); (try clear hk); (try clear hi); (try clear ho0); obtain ⟨Ao13, co13, eo13⟩ := Kd.R_slice HO150.out; subst eo13) | ((with_reducible refine gate_callee (f := 13) rfl ?_); refine goesL_ (some 25) rfl rfl Try.func13 (by kernel_rfl) rfl #[.slice Ao13 t148.length co13, .slice Ao11 t145.length co11] rfl (by (try simp only [List.map_toArray, List.map_cons, List.map_nil]); first | done | rfl | (simp only [List.length_drop, List.length_take]; rfl)) ?_; (with_reducible refine (label_All.calls _ _ t148 _ _ t145 t155 t156 _ ?side1 ?side2 ?side3 ?side4 A6.out).mono ?_); (case side1 => repeat (first | exact (Kd.R_reads' HO150.out).2.2 | (with_reducible refine Kd.C_alloc ?_ _) | (with_reducible refine Kd.C_drewN ?_ _) | (with_reducible refine Kd.C_drew ?_))); (case side2 => exact (Kd.R_reads' HO150.out).2.1); (case side3 => repeat (first | exact (Kd.R_reads' HO147.out).2.2 | (with_reducible refine Kd.C_alloc ?_ _) | (with_reducible refine Kd.C_drewN ?_ _) | (with_reducible refine Kd.C_drew ?_))); (case side4 => exact (Kd.R_reads' HO147.out).2.1); rintro e w14 ⟨rfl, hb⟩; refine ⟨_, rfl, ?_⟩; have n0_ := Aside0.mk (Kd.R_below (by (with_reducible repeat (first | apply Kd.R_alloc | apply Kd.R_drewN | apply Kd.R_drew)); exact HO147.out) hb); have n1_ := Aside0.mk (Kd.R_below (by (with_reducible repeat (first | apply Kd.R_alloc | apply Kd.R_drewN | apply Kd.R_drew)); exact HO150.out) hb); have n2_ := Aside0.mk (Kd.R_below (by (with_reducible repeat (first | apply Kd.R_alloc | apply Kd.R_drewN | apply Kd.R_drew)); exact HO154.out) hb); have n3_ := Aside0.mk (below_step (by repeat (first | (with_reducible first | exact HB.out | apply below_alloc | apply pw_below_drewN | apply below_drew1) | exact HB.out)) hb); clear HO147; clear HO150; clear HO154; clear HB; have HO147 := n0_; have HO150 := n1_; have HO154 := n2_; have HB := n3_; clear n0_ n1_ n2_ n3_; (try clear hb); (try clear hb2); (try clear hk); (try clear hi)) | ((with_reducible refine gate_callee (f := 14) rfl ?_); refine goesL_ (some 30) rfl rfl Try.func14 (by kernel_rfl) rfl #[.slice Ao11 t145.length co11] rfl (by (try simp only [List.map_toArray, List.map_cons, List.map_nil]); first | done | rfl | (simp only [List.length_drop, List.length_take]; rfl)) ?_; (with_reducible refine (foghornref10_Sort.calls k _ _ t145 t157 t158 _ ?side1 ?side2 A7.out).mono ?_); (case side1 => repeat (first | exact (Kd.R_reads' HO147.out).2.2 | (with_reducible refine Kd.C_alloc ?_ _) | (with_reducible refine Kd.C_drewN ?_ _) | (with_reducible refine Kd.C_drew ?_))); (case side2 => exact (Kd.R_reads' HO147.out).2.1); rintro e w15 ⟨v159, rfl, ho0, hb⟩; refine ⟨_, rfl, ?_⟩; have n0_ := Aside0.mk (Kd.R_elder' (by (with_reducible repeat (first | apply Kd.R_alloc | apply Kd.R_drewN | apply Kd.R_drew)); exact HO147.out) (Kd.R_base ho0) hb); have n1_ := Aside0.mk (Kd.R_below (by (with_reducible repeat (first | apply Kd.R_alloc | apply Kd.R_drewN | apply Kd.R_drew)); exact HO150.out) hb); have n2_ := Aside0.mk (Kd.R_elder' (by (with_reducible repeat (first | apply Kd.R_alloc | apply Kd.R_drewN | apply Kd.R_drew)); exact HO154.out) (Kd.R_base ho0) hb); have n3_ := Aside0.mk (Kd.R_lower (Kd.R_new' (Kd.R_new' ho0 (Kd.R_lt (by (with_reducible repeat (first | apply Kd.R_alloc | apply Kd.R_drewN | apply Kd.R_drew)); exact HO147.out))) (Kd.R_lt (by (with_reducible repeat (first | apply Kd.R_alloc | apply Kd.R_drewN | apply Kd.R_drew)); exact HO154.out))) (below_size (by repeat (first | (with_reducible first | exact HB.out | apply below_alloc | apply pw_below_drewN | apply below_drew1) | exact HB.out)))); have n4_ := Aside0.mk (below_step (by repeat (first | (with_reducible first | exact HB.out | apply below_alloc | apply pw_below_drewN | apply below_drew1) | exact HB.out)) hb); clear HO147; clear HO150; clear HO154; clear HB; have HO147 := n0_; have HO150 := n1_; have HO154 := n2_; have HO160 := n3_; have HB := n4_; clear n0_ n1_ n2_ n3_ n4_; (try clear hb); (try clear hb2); (try clear hk); (try clear hi); (try clear ho0)))
  (try simp only [Act.put, List.setIfInBounds_toArray, List.set_cons_zero, List.set_cons_succ])
  go_cut [52] (fun v52 wc => ∃ (kq : Nat) (x52_7 : Bool), v52 = .bool x52_7 ∧ Aside0 (foghornlaw10_LabelTells.j0 kq t145 t148 t155 t156 x52_7 = some r) ∧ Aside0 (kq ≤ k) ∧ Aside0 (Kd.R k41 41 wc w.heap.size (fun _ => True) (.slice Ao11 t145.length co11) t145) ∧ Aside0 (Kd.R k35 35 wc w.heap.size (fun _ => True) (.slice Ao13 t148.length co13) t148) ∧ Aside0 (Below w.heap.size w wc))
  case first =>
    have H := HC8.out
    clear HC8
    replace H := Option.bind_eq_some_iff.mp H
    obtain ⟨t161, A160, H⟩ := H
    replace H : ((foghornref10_Right.f t145).bind fun t162 => (if (t161 != t162) = true then (foghornlaw10_LabelTells.j0 k t145 t148 t155 t156 true) else (if t152 = t158 then ((foghornref10_Same.f t151 t157).bind fun t163 => (if t163 = true then ((foghornlaw10_alive.f).bind fun t164 => (foghornlaw10_LabelTells.j0 k t145 t148 t155 t156 (!t164))) else (foghornlaw10_LabelTells.j0 k t145 t148 t155 t156 true))) else (foghornlaw10_LabelTells.j0 k t145 t148 t155 t156 true)))) = some r := H
    have A16 := Aside0.mk A160
    clear A160
    replace H := Option.bind_eq_some_iff.mp H
    obtain ⟨t162, A170, H⟩ := H
    replace H : (if (t161 != t162) = true then (foghornlaw10_LabelTells.j0 k t145 t148 t155 t156 true) else (if t152 = t158 then ((foghornref10_Same.f t151 t157).bind fun t163 => (if t163 = true then ((foghornlaw10_alive.f).bind fun t164 => (foghornlaw10_LabelTells.j0 k t145 t148 t155 t156 (!t164))) else (foghornlaw10_LabelTells.j0 k t145 t148 t155 t156 true))) else (foghornlaw10_LabelTells.j0 k t145 t148 t155 t156 true))) = some r := H
    have A17 := Aside0.mk A170
    clear A170
    by_cases c18 : (t161 != t162) = true
    · rw [if_pos c18] at H
      have c18b0 : (t161 != t162) = true := c18
      (try (have c18b1 : decide (t161 = t162) = false := by simpa using c18))
      (try (have c18b2 : (t161 == t162) = false := by simpa using c18))
      (try (have c18b3 : ¬ (t161 = t162) := by simpa using c18))
      clear c18
      (first | rw [c18b0] | (simp only [i64_w, i32_w]; rw [c18b0]) | skip)
      have H' := Aside0.mk H
      clear H
      go_wp2_with (first | ((with_reducible refine gate_callee (f := 15) rfl ?_); refine goesL_ (some 34) rfl rfl Try.func15 (by kernel_rfl) rfl #[.slice Ao11 t145.length co11] rfl (by (try simp only [List.map_toArray, List.map_cons, List.map_nil]); first | done | rfl | (simp only [List.length_drop, List.length_take]; rfl)) ?_; (with_reducible refine (label_Right.calls _ _ t145 t161 _ ?side1 ?side2 A16.out).mono ?_); (case side1 => repeat (first | exact (Kd.R_reads' HO147.out).2.2 | (with_reducible refine Kd.C_alloc ?_ _) | (with_reducible refine Kd.C_drewN ?_ _) | (with_reducible refine Kd.C_drew ?_))); (case side2 => exact (Kd.R_reads' HO147.out).2.1); rintro e w19 ⟨rfl, hb⟩; refine ⟨_, rfl, ?_⟩; have n0_ := Aside0.mk (Kd.R_below (by (with_reducible repeat (first | apply Kd.R_alloc | apply Kd.R_drewN | apply Kd.R_drew)); exact HO147.out) hb); have n1_ := Aside0.mk (Kd.R_below (by (with_reducible repeat (first | apply Kd.R_alloc | apply Kd.R_drewN | apply Kd.R_drew)); exact HO150.out) hb); have n2_ := Aside0.mk (Kd.R_below (by (with_reducible repeat (first | apply Kd.R_alloc | apply Kd.R_drewN | apply Kd.R_drew)); exact HO154.out) hb); have n3_ := Aside0.mk (Kd.R_below (by (with_reducible repeat (first | apply Kd.R_alloc | apply Kd.R_drewN | apply Kd.R_drew)); exact HO160.out) hb); have n4_ := Aside0.mk (below_step (by repeat (first | (with_reducible first | exact HB.out | apply below_alloc | apply pw_below_drewN | apply below_drew1) | exact HB.out)) hb); clear HO147; clear HO150; clear HO154; clear HO160; clear HB; have HO147 := n0_; have HO150 := n1_; have HO154 := n2_; have HO160 := n3_; have HB := n4_; clear n0_ n1_ n2_ n3_ n4_; (try clear hb); (try clear hb2); (try clear hk); (try clear hi)) | ((with_reducible refine gate_callee (f := 16) rfl ?_); refine goesL_ (some 36) rfl rfl Try.func16 (by kernel_rfl) rfl #[.slice Ao11 t145.length co11] rfl (by (try simp only [List.map_toArray, List.map_cons, List.map_nil]); first | done | rfl | (simp only [List.length_drop, List.length_take]; rfl)) ?_; (with_reducible refine (foghornref10_Right.calls _ _ t145 t162 _ ?side1 ?side2 A17.out).mono ?_); (case side1 => repeat (first | exact (Kd.R_reads' HO147.out).2.2 | (with_reducible refine Kd.C_alloc ?_ _) | (with_reducible refine Kd.C_drewN ?_ _) | (with_reducible refine Kd.C_drew ?_))); (case side2 => exact (Kd.R_reads' HO147.out).2.1); rintro e w20 ⟨rfl, hb⟩; refine ⟨_, rfl, ?_⟩; have n0_ := Aside0.mk (Kd.R_below (by (with_reducible repeat (first | apply Kd.R_alloc | apply Kd.R_drewN | apply Kd.R_drew)); exact HO147.out) hb); have n1_ := Aside0.mk (Kd.R_below (by (with_reducible repeat (first | apply Kd.R_alloc | apply Kd.R_drewN | apply Kd.R_drew)); exact HO150.out) hb); have n2_ := Aside0.mk (Kd.R_below (by (with_reducible repeat (first | apply Kd.R_alloc | apply Kd.R_drewN | apply Kd.R_drew)); exact HO154.out) hb); have n3_ := Aside0.mk (Kd.R_below (by (with_reducible repeat (first | apply Kd.R_alloc | apply Kd.R_drewN | apply Kd.R_drew)); exact HO160.out) hb); have n4_ := Aside0.mk (below_step (by repeat (first | (with_reducible first | exact HB.out | apply below_alloc | apply pw_below_drewN | apply below_drew1) | exact HB.out)) hb); clear HO147; clear HO150; clear HO154; clear HO160; clear HB; have HO147 := n0_; have HO150 := n1_; have HO154 := n2_; have HO160 := n3_; have HB := n4_; clear n0_ n1_ n2_ n3_ n4_; (try clear hb); (try clear hb2); (try clear hk); (try clear hi)))
      go_meet
      case rel => exact ⟨_, (true), (by first | rfl | (simp; done) | (simp [*]; done)), H', ⟨by first | omega | exact Nat.le_refl _⟩, ⟨by (with_reducible repeat (first | apply Kd.R_alloc | apply Kd.R_drewN | apply Kd.R_drew)); exact Kd.R_mono HO147.out (fun _ hk => trivial)⟩, ⟨by (with_reducible repeat (first | apply Kd.R_alloc | apply Kd.R_drewN | apply Kd.R_drew)); exact HO150.out⟩, ⟨by repeat (first | (with_reducible first | exact HB.out | apply below_alloc | apply pw_below_drewN | apply below_drew1) | exact HB.out)⟩⟩
    · rw [if_neg c18] at H
      have c18b0 : (t161 != t162) = false := by simpa using c18
      (try (have c18b1 : decide (t161 = t162) = true := by simpa using c18))
      (try (have c18b2 : (t161 == t162) = true := by simpa using c18))
      clear c18
      (first | rw [c18b0] | (simp only [i64_w, i32_w]; rw [c18b0]) | skip)
      by_cases c21 : t152 = t158
      · rw [if_pos c21] at H
        have c21b0 : (t152 == t158) = true := beq_iff_eq.mpr c21
        have c21b1 : (t152 != t158) = false := bne_eq_false_iff_eq.mpr c21
        clear c21
        replace H := Option.bind_eq_some_iff.mp H
        obtain ⟨t163, A220, H⟩ := H
        replace H : (if t163 = true then ((foghornlaw10_alive.f).bind fun t164 => (foghornlaw10_LabelTells.j0 k t145 t148 t155 t156 (!t164))) else (foghornlaw10_LabelTells.j0 k t145 t148 t155 t156 true)) = some r := H
        have A22 := Aside0.mk A220
        clear A220
        by_cases c23 : t163 = true
        · subst c23
          have H1 : ((foghornlaw10_alive.f).bind fun t164 => (foghornlaw10_LabelTells.j0 k t145 t148 t155 t156 (!t164))) = some r := by rw [if_pos rfl] at H; exact H
          clear H
          have H := H1
          clear H1
          replace H := Option.bind_eq_some_iff.mp H
          obtain ⟨t164, A240, H⟩ := H
          replace H : (foghornlaw10_LabelTells.j0 k t145 t148 t155 t156 (!t164)) = some r := H
          have A24 := Aside0.mk A240
          clear A240
          have H' := Aside0.mk H
          clear H
          go_wp2_with (first | ((with_reducible refine gate_callee (f := 15) rfl ?_); refine goesL_ (some 34) rfl rfl Try.func15 (by kernel_rfl) rfl #[.slice Ao11 t145.length co11] rfl (by (try simp only [List.map_toArray, List.map_cons, List.map_nil]); first | done | rfl | (simp only [List.length_drop, List.length_take]; rfl)) ?_; (with_reducible refine (label_Right.calls _ _ t145 t161 _ ?side1 ?side2 A16.out).mono ?_); (case side1 => repeat (first | exact (Kd.R_reads' HO147.out).2.2 | (with_reducible refine Kd.C_alloc ?_ _) | (with_reducible refine Kd.C_drewN ?_ _) | (with_reducible refine Kd.C_drew ?_))); (case side2 => exact (Kd.R_reads' HO147.out).2.1); rintro e w25 ⟨rfl, hb⟩; refine ⟨_, rfl, ?_⟩; have n0_ := Aside0.mk (Kd.R_below (by (with_reducible repeat (first | apply Kd.R_alloc | apply Kd.R_drewN | apply Kd.R_drew)); exact HO147.out) hb); have n1_ := Aside0.mk (Kd.R_below (by (with_reducible repeat (first | apply Kd.R_alloc | apply Kd.R_drewN | apply Kd.R_drew)); exact HO150.out) hb); have n2_ := Aside0.mk (Kd.R_below (by (with_reducible repeat (first | apply Kd.R_alloc | apply Kd.R_drewN | apply Kd.R_drew)); exact HO154.out) hb); have n3_ := Aside0.mk (Kd.R_below (by (with_reducible repeat (first | apply Kd.R_alloc | apply Kd.R_drewN | apply Kd.R_drew)); exact HO160.out) hb); have n4_ := Aside0.mk (below_step (by repeat (first | (with_reducible first | exact HB.out | apply below_alloc | apply pw_below_drewN | apply below_drew1) | exact HB.out)) hb); clear HO147; clear HO150; clear HO154; clear HO160; clear HB; have HO147 := n0_; have HO150 := n1_; have HO154 := n2_; have HO160 := n3_; have HB := n4_; clear n0_ n1_ n2_ n3_ n4_; (try clear hb); (try clear hb2); (try clear hk); (try clear hi)) | ((with_reducible refine gate_callee (f := 16) rfl ?_); refine goesL_ (some 36) rfl rfl Try.func16 (by kernel_rfl) rfl #[.slice Ao11 t145.length co11] rfl (by (try simp only [List.map_toArray, List.map_cons, List.map_nil]); first | done | rfl | (simp only [List.length_drop, List.length_take]; rfl)) ?_; (with_reducible refine (foghornref10_Right.calls _ _ t145 t162 _ ?side1 ?side2 A17.out).mono ?_); (case side1 => repeat (first | exact (Kd.R_reads' HO147.out).2.2 | (with_reducible refine Kd.C_alloc ?_ _) | (with_reducible refine Kd.C_drewN ?_ _) | (with_reducible refine Kd.C_drew ?_))); (case side2 => exact (Kd.R_reads' HO147.out).2.1); rintro e w26 ⟨rfl, hb⟩; refine ⟨_, rfl, ?_⟩; have n0_ := Aside0.mk (Kd.R_below (by (with_reducible repeat (first | apply Kd.R_alloc | apply Kd.R_drewN | apply Kd.R_drew)); exact HO147.out) hb); have n1_ := Aside0.mk (Kd.R_below (by (with_reducible repeat (first | apply Kd.R_alloc | apply Kd.R_drewN | apply Kd.R_drew)); exact HO150.out) hb); have n2_ := Aside0.mk (Kd.R_below (by (with_reducible repeat (first | apply Kd.R_alloc | apply Kd.R_drewN | apply Kd.R_drew)); exact HO154.out) hb); have n3_ := Aside0.mk (Kd.R_below (by (with_reducible repeat (first | apply Kd.R_alloc | apply Kd.R_drewN | apply Kd.R_drew)); exact HO160.out) hb); have n4_ := Aside0.mk (below_step (by repeat (first | (with_reducible first | exact HB.out | apply below_alloc | apply pw_below_drewN | apply below_drew1) | exact HB.out)) hb); clear HO147; clear HO150; clear HO154; clear HO160; clear HB; have HO147 := n0_; have HO150 := n1_; have HO154 := n2_; have HO160 := n3_; have HB := n4_; clear n0_ n1_ n2_ n3_ n4_; (try clear hb); (try clear hb2); (try clear hk); (try clear hi); obtain ⟨Ao27, co27, eo27⟩ := Kd.R_slice HO154.out; subst eo27; obtain ⟨Ao28, co28, eo28⟩ := Kd.R_slice HO160.out; subst eo28) | (go_at_call 17; (with_reducible refine (foghornref10_Same.calls _ _ t151 _ _ t157 true _ ?side1 ?side2 ?side3 ?side4 A22.out).mono ?_); (case side1 => repeat (first | exact (Kd.R_reads' HO154.out).2.2 | (with_reducible refine Kd.C_alloc ?_ _) | (with_reducible refine Kd.C_drewN ?_ _) | (with_reducible refine Kd.C_drew ?_))); (case side2 => exact (Kd.R_reads' HO154.out).2.1); (case side3 => repeat (first | exact (Kd.R_reads' HO160.out).2.2 | (with_reducible refine Kd.C_alloc ?_ _) | (with_reducible refine Kd.C_drewN ?_ _) | (with_reducible refine Kd.C_drew ?_))); (case side4 => exact (Kd.R_reads' HO160.out).2.1); rintro e w29 ⟨rfl, hb⟩; have n0_ := Aside0.mk (Kd.R_below (by (with_reducible repeat (first | apply Kd.R_alloc | apply Kd.R_drewN | apply Kd.R_drew)); exact HO147.out) hb); have n1_ := Aside0.mk (Kd.R_below (by (with_reducible repeat (first | apply Kd.R_alloc | apply Kd.R_drewN | apply Kd.R_drew)); exact HO150.out) hb); have n2_ := Aside0.mk (Kd.R_below (by (with_reducible repeat (first | apply Kd.R_alloc | apply Kd.R_drewN | apply Kd.R_drew)); exact HO154.out) hb); have n3_ := Aside0.mk (Kd.R_below (by (with_reducible repeat (first | apply Kd.R_alloc | apply Kd.R_drewN | apply Kd.R_drew)); exact HO160.out) hb); have n4_ := Aside0.mk (below_step (by repeat (first | (with_reducible first | exact HB.out | apply below_alloc | apply pw_below_drewN | apply below_drew1) | exact HB.out)) hb); clear HO147; clear HO150; clear HO154; clear HO160; clear HB; have HO147 := n0_; have HO150 := n1_; have HO154 := n2_; have HO160 := n3_; have HB := n4_; clear n0_ n1_ n2_ n3_ n4_; (try clear hb); (try clear hb2); (try clear hk); (try clear hi)) | (go_at_call 18; (with_reducible refine (foghornlaw10_alive.calls  t164 _ A24.out).mono ?_); rintro e w30 ⟨rfl, hb⟩; have n0_ := Aside0.mk (Kd.R_below (by (with_reducible repeat (first | apply Kd.R_alloc | apply Kd.R_drewN | apply Kd.R_drew)); exact HO147.out) hb); have n1_ := Aside0.mk (Kd.R_below (by (with_reducible repeat (first | apply Kd.R_alloc | apply Kd.R_drewN | apply Kd.R_drew)); exact HO150.out) hb); have n2_ := Aside0.mk (Kd.R_below (by (with_reducible repeat (first | apply Kd.R_alloc | apply Kd.R_drewN | apply Kd.R_drew)); exact HO154.out) hb); have n3_ := Aside0.mk (Kd.R_below (by (with_reducible repeat (first | apply Kd.R_alloc | apply Kd.R_drewN | apply Kd.R_drew)); exact HO160.out) hb); have n4_ := Aside0.mk (below_step (by repeat (first | (with_reducible first | exact HB.out | apply below_alloc | apply pw_below_drewN | apply below_drew1) | exact HB.out)) hb); clear HO147; clear HO150; clear HO154; clear HO160; clear HB; have HO147 := n0_; have HO150 := n1_; have HO154 := n2_; have HO160 := n3_; have HB := n4_; clear n0_ n1_ n2_ n3_ n4_; (try clear hb); (try clear hb2); (try clear hk); (try clear hi)))
          go_meet
          case rel => exact ⟨_, (!t164), (by first | rfl | (simp; done) | (simp [*]; done)), H', ⟨by first | omega | exact Nat.le_refl _⟩, ⟨by (with_reducible repeat (first | apply Kd.R_alloc | apply Kd.R_drewN | apply Kd.R_drew)); exact Kd.R_mono HO147.out (fun _ hk => trivial)⟩, ⟨by (with_reducible repeat (first | apply Kd.R_alloc | apply Kd.R_drewN | apply Kd.R_drew)); exact HO150.out⟩, ⟨by repeat (first | (with_reducible first | exact HB.out | apply below_alloc | apply pw_below_drewN | apply below_drew1) | exact HB.out)⟩⟩
        · replace c23 := Bool.eq_false_iff.mpr c23
          subst c23
          have H1 : (foghornlaw10_LabelTells.j0 k t145 t148 t155 t156 true) = some r := by rw [if_neg (show ¬ (false = true) by decide)] at H; exact H
          clear H
          have H := H1
          clear H1
          have H' := Aside0.mk H
          clear H
          go_wp2_with (first | ((with_reducible refine gate_callee (f := 15) rfl ?_); refine goesL_ (some 34) rfl rfl Try.func15 (by kernel_rfl) rfl #[.slice Ao11 t145.length co11] rfl (by (try simp only [List.map_toArray, List.map_cons, List.map_nil]); first | done | rfl | (simp only [List.length_drop, List.length_take]; rfl)) ?_; (with_reducible refine (label_Right.calls _ _ t145 t161 _ ?side1 ?side2 A16.out).mono ?_); (case side1 => repeat (first | exact (Kd.R_reads' HO147.out).2.2 | (with_reducible refine Kd.C_alloc ?_ _) | (with_reducible refine Kd.C_drewN ?_ _) | (with_reducible refine Kd.C_drew ?_))); (case side2 => exact (Kd.R_reads' HO147.out).2.1); rintro e w31 ⟨rfl, hb⟩; refine ⟨_, rfl, ?_⟩; have n0_ := Aside0.mk (Kd.R_below (by (with_reducible repeat (first | apply Kd.R_alloc | apply Kd.R_drewN | apply Kd.R_drew)); exact HO147.out) hb); have n1_ := Aside0.mk (Kd.R_below (by (with_reducible repeat (first | apply Kd.R_alloc | apply Kd.R_drewN | apply Kd.R_drew)); exact HO150.out) hb); have n2_ := Aside0.mk (Kd.R_below (by (with_reducible repeat (first | apply Kd.R_alloc | apply Kd.R_drewN | apply Kd.R_drew)); exact HO154.out) hb); have n3_ := Aside0.mk (Kd.R_below (by (with_reducible repeat (first | apply Kd.R_alloc | apply Kd.R_drewN | apply Kd.R_drew)); exact HO160.out) hb); have n4_ := Aside0.mk (below_step (by repeat (first | (with_reducible first | exact HB.out | apply below_alloc | apply pw_below_drewN | apply below_drew1) | exact HB.out)) hb); clear HO147; clear HO150; clear HO154; clear HO160; clear HB; have HO147 := n0_; have HO150 := n1_; have HO154 := n2_; have HO160 := n3_; have HB := n4_; clear n0_ n1_ n2_ n3_ n4_; (try clear hb); (try clear hb2); (try clear hk); (try clear hi)) | ((with_reducible refine gate_callee (f := 16) rfl ?_); refine goesL_ (some 36) rfl rfl Try.func16 (by kernel_rfl) rfl #[.slice Ao11 t145.length co11] rfl (by (try simp only [List.map_toArray, List.map_cons, List.map_nil]); first | done | rfl | (simp only [List.length_drop, List.length_take]; rfl)) ?_; (with_reducible refine (foghornref10_Right.calls _ _ t145 t162 _ ?side1 ?side2 A17.out).mono ?_); (case side1 => repeat (first | exact (Kd.R_reads' HO147.out).2.2 | (with_reducible refine Kd.C_alloc ?_ _) | (with_reducible refine Kd.C_drewN ?_ _) | (with_reducible refine Kd.C_drew ?_))); (case side2 => exact (Kd.R_reads' HO147.out).2.1); rintro e w32 ⟨rfl, hb⟩; refine ⟨_, rfl, ?_⟩; have n0_ := Aside0.mk (Kd.R_below (by (with_reducible repeat (first | apply Kd.R_alloc | apply Kd.R_drewN | apply Kd.R_drew)); exact HO147.out) hb); have n1_ := Aside0.mk (Kd.R_below (by (with_reducible repeat (first | apply Kd.R_alloc | apply Kd.R_drewN | apply Kd.R_drew)); exact HO150.out) hb); have n2_ := Aside0.mk (Kd.R_below (by (with_reducible repeat (first | apply Kd.R_alloc | apply Kd.R_drewN | apply Kd.R_drew)); exact HO154.out) hb); have n3_ := Aside0.mk (Kd.R_below (by (with_reducible repeat (first | apply Kd.R_alloc | apply Kd.R_drewN | apply Kd.R_drew)); exact HO160.out) hb); have n4_ := Aside0.mk (below_step (by repeat (first | (with_reducible first | exact HB.out | apply below_alloc | apply pw_below_drewN | apply below_drew1) | exact HB.out)) hb); clear HO147; clear HO150; clear HO154; clear HO160; clear HB; have HO147 := n0_; have HO150 := n1_; have HO154 := n2_; have HO160 := n3_; have HB := n4_; clear n0_ n1_ n2_ n3_ n4_; (try clear hb); (try clear hb2); (try clear hk); (try clear hi); obtain ⟨Ao33, co33, eo33⟩ := Kd.R_slice HO154.out; subst eo33; obtain ⟨Ao34, co34, eo34⟩ := Kd.R_slice HO160.out; subst eo34) | (go_at_call 17; (with_reducible refine (foghornref10_Same.calls _ _ t151 _ _ t157 false _ ?side1 ?side2 ?side3 ?side4 A22.out).mono ?_); (case side1 => repeat (first | exact (Kd.R_reads' HO154.out).2.2 | (with_reducible refine Kd.C_alloc ?_ _) | (with_reducible refine Kd.C_drewN ?_ _) | (with_reducible refine Kd.C_drew ?_))); (case side2 => exact (Kd.R_reads' HO154.out).2.1); (case side3 => repeat (first | exact (Kd.R_reads' HO160.out).2.2 | (with_reducible refine Kd.C_alloc ?_ _) | (with_reducible refine Kd.C_drewN ?_ _) | (with_reducible refine Kd.C_drew ?_))); (case side4 => exact (Kd.R_reads' HO160.out).2.1); rintro e w35 ⟨rfl, hb⟩; have n0_ := Aside0.mk (Kd.R_below (by (with_reducible repeat (first | apply Kd.R_alloc | apply Kd.R_drewN | apply Kd.R_drew)); exact HO147.out) hb); have n1_ := Aside0.mk (Kd.R_below (by (with_reducible repeat (first | apply Kd.R_alloc | apply Kd.R_drewN | apply Kd.R_drew)); exact HO150.out) hb); have n2_ := Aside0.mk (Kd.R_below (by (with_reducible repeat (first | apply Kd.R_alloc | apply Kd.R_drewN | apply Kd.R_drew)); exact HO154.out) hb); have n3_ := Aside0.mk (Kd.R_below (by (with_reducible repeat (first | apply Kd.R_alloc | apply Kd.R_drewN | apply Kd.R_drew)); exact HO160.out) hb); have n4_ := Aside0.mk (below_step (by repeat (first | (with_reducible first | exact HB.out | apply below_alloc | apply pw_below_drewN | apply below_drew1) | exact HB.out)) hb); clear HO147; clear HO150; clear HO154; clear HO160; clear HB; have HO147 := n0_; have HO150 := n1_; have HO154 := n2_; have HO160 := n3_; have HB := n4_; clear n0_ n1_ n2_ n3_ n4_; (try clear hb); (try clear hb2); (try clear hk); (try clear hi)))
          go_meet
          case rel => exact ⟨_, (true), (by first | rfl | (simp; done) | (simp [*]; done)), H', ⟨by first | omega | exact Nat.le_refl _⟩, ⟨by (with_reducible repeat (first | apply Kd.R_alloc | apply Kd.R_drewN | apply Kd.R_drew)); exact Kd.R_mono HO147.out (fun _ hk => trivial)⟩, ⟨by (with_reducible repeat (first | apply Kd.R_alloc | apply Kd.R_drewN | apply Kd.R_drew)); exact HO150.out⟩, ⟨by repeat (first | (with_reducible first | exact HB.out | apply below_alloc | apply pw_below_drewN | apply below_drew1) | exact HB.out)⟩⟩
      · rw [if_neg c21] at H
        have c21b0 : (t152 == t158) = false := beq_eq_false_iff_ne.mpr c21
        have c21b1 : (t152 != t158) = true := bne_iff_ne.mpr c21
        have H' := Aside0.mk H
        clear H
        go_wp2_with (first | ((with_reducible refine gate_callee (f := 15) rfl ?_); refine goesL_ (some 34) rfl rfl Try.func15 (by kernel_rfl) rfl #[.slice Ao11 t145.length co11] rfl (by (try simp only [List.map_toArray, List.map_cons, List.map_nil]); first | done | rfl | (simp only [List.length_drop, List.length_take]; rfl)) ?_; (with_reducible refine (label_Right.calls _ _ t145 t161 _ ?side1 ?side2 A16.out).mono ?_); (case side1 => repeat (first | exact (Kd.R_reads' HO147.out).2.2 | (with_reducible refine Kd.C_alloc ?_ _) | (with_reducible refine Kd.C_drewN ?_ _) | (with_reducible refine Kd.C_drew ?_))); (case side2 => exact (Kd.R_reads' HO147.out).2.1); rintro e w36 ⟨rfl, hb⟩; refine ⟨_, rfl, ?_⟩; have n0_ := Aside0.mk (Kd.R_below (by (with_reducible repeat (first | apply Kd.R_alloc | apply Kd.R_drewN | apply Kd.R_drew)); exact HO147.out) hb); have n1_ := Aside0.mk (Kd.R_below (by (with_reducible repeat (first | apply Kd.R_alloc | apply Kd.R_drewN | apply Kd.R_drew)); exact HO150.out) hb); have n2_ := Aside0.mk (Kd.R_below (by (with_reducible repeat (first | apply Kd.R_alloc | apply Kd.R_drewN | apply Kd.R_drew)); exact HO154.out) hb); have n3_ := Aside0.mk (Kd.R_below (by (with_reducible repeat (first | apply Kd.R_alloc | apply Kd.R_drewN | apply Kd.R_drew)); exact HO160.out) hb); have n4_ := Aside0.mk (below_step (by repeat (first | (with_reducible first | exact HB.out | apply below_alloc | apply pw_below_drewN | apply below_drew1) | exact HB.out)) hb); clear HO147; clear HO150; clear HO154; clear HO160; clear HB; have HO147 := n0_; have HO150 := n1_; have HO154 := n2_; have HO160 := n3_; have HB := n4_; clear n0_ n1_ n2_ n3_ n4_; (try clear hb); (try clear hb2); (try clear hk); (try clear hi)) | ((with_reducible refine gate_callee (f := 16) rfl ?_); refine goesL_ (some 36) rfl rfl Try.func16 (by kernel_rfl) rfl #[.slice Ao11 t145.length co11] rfl (by (try simp only [List.map_toArray, List.map_cons, List.map_nil]); first | done | rfl | (simp only [List.length_drop, List.length_take]; rfl)) ?_; (with_reducible refine (foghornref10_Right.calls _ _ t145 t162 _ ?side1 ?side2 A17.out).mono ?_); (case side1 => repeat (first | exact (Kd.R_reads' HO147.out).2.2 | (with_reducible refine Kd.C_alloc ?_ _) | (with_reducible refine Kd.C_drewN ?_ _) | (with_reducible refine Kd.C_drew ?_))); (case side2 => exact (Kd.R_reads' HO147.out).2.1); rintro e w37 ⟨rfl, hb⟩; refine ⟨_, rfl, ?_⟩; have n0_ := Aside0.mk (Kd.R_below (by (with_reducible repeat (first | apply Kd.R_alloc | apply Kd.R_drewN | apply Kd.R_drew)); exact HO147.out) hb); have n1_ := Aside0.mk (Kd.R_below (by (with_reducible repeat (first | apply Kd.R_alloc | apply Kd.R_drewN | apply Kd.R_drew)); exact HO150.out) hb); have n2_ := Aside0.mk (Kd.R_below (by (with_reducible repeat (first | apply Kd.R_alloc | apply Kd.R_drewN | apply Kd.R_drew)); exact HO154.out) hb); have n3_ := Aside0.mk (Kd.R_below (by (with_reducible repeat (first | apply Kd.R_alloc | apply Kd.R_drewN | apply Kd.R_drew)); exact HO160.out) hb); have n4_ := Aside0.mk (below_step (by repeat (first | (with_reducible first | exact HB.out | apply below_alloc | apply pw_below_drewN | apply below_drew1) | exact HB.out)) hb); clear HO147; clear HO150; clear HO154; clear HO160; clear HB; have HO147 := n0_; have HO150 := n1_; have HO154 := n2_; have HO160 := n3_; have HB := n4_; clear n0_ n1_ n2_ n3_ n4_; (try clear hb); (try clear hb2); (try clear hk); (try clear hi)))
        go_meet
        case rel => exact ⟨_, (true), (by first | rfl | (simp; done) | (simp [*]; done)), H', ⟨by first | omega | exact Nat.le_refl _⟩, ⟨by (with_reducible repeat (first | apply Kd.R_alloc | apply Kd.R_drewN | apply Kd.R_drew)); exact Kd.R_mono HO147.out (fun _ hk => trivial)⟩, ⟨by (with_reducible repeat (first | apply Kd.R_alloc | apply Kd.R_drewN | apply Kd.R_drew)); exact HO150.out⟩, ⟨by repeat (first | (with_reducible first | exact HB.out | apply below_alloc | apply pw_below_drewN | apply below_drew1) | exact HB.out)⟩⟩
  case rest =>
    clear HC8
    try clear c1
    try clear c2
    try clear p2
    try clear c3
    try clear c10
    try clear c11
    try clear c12
    try clear c13
    try clear c14
    try clear c15
    try clear c16
    try clear c18
    try clear c18b0
    try clear c18b1
    try clear c18b2
    try clear c21
    try clear c21b0
    try clear c21b1
    try clear c23
    obtain ⟨kq, x52_7, rfl, HA, HJ7, HO_0, HO_1, HB⟩ := hcut
    cases kq with
    | zero => exact absurd HA.out (by simp [foghornlaw10_LabelTells.j0])
    | succ kj7 =>
      have H := HA.out
      clear HA
      simp only [foghornlaw10_LabelTells.j0] at H
      by_cases c38 : x52_7 = true
      · subst c38
        have H1 : (some false) = some r := by rw [if_pos rfl] at H; exact H
        clear H
        have H := H1
        clear H1
        obtain rfl := Option.some.inj H
        go_wp2
        go_ret
        exact ⟨by first | rfl | (simp [errW_none, errW_some] <;> rfl) | (simp [*, errW_none, errW_some] <;> rfl), by repeat (first | (with_reducible first | exact HB.out | apply below_alloc | apply pw_below_drewN | apply below_drew1) | exact HB.out)⟩
      · replace c38 := Bool.eq_false_iff.mpr c38
        subst c38
        have H1 : (foghornlaw10_LabelTells.l0 kj7 t145 t148 t155 t156 t148 (t148.length : Int) 0) = some r := by rw [if_neg (show ¬ (false = true) by decide)] at H; exact H
        clear H
        have H := H1
        clear H1
        have H' := Aside0.mk H
        clear H
        go_wp2
        go_loopg [55] kj7 (fun kq v55 w' => ∃ (x55_2 : Int), v55 = .int .i64 x55_2 ∧ Aside0 (foghornlaw10_LabelTells.l0 kq t145 t148 t155 t156 t148 (t148.length : Int) x55_2 = some r) ∧ Aside0 (kq ≤ kj7) ∧ Aside0 (Kd.R k41 41 w' w.heap.size (fun _ => True) (.slice Ao11 t145.length co11) t145) ∧ Aside0 (Kd.R k35 35 w' w.heap.size (fun _ => True) (.slice Ao13 t148.length co13) t148) ∧ Aside0 (Kd.R k35 35 w' w.heap.size (fun _ => True) (.slice Ao13 t148.length co13) t148) ∧ Aside0 (Below w.heap.size w w'))
        case atStart => exact ⟨(0), (by first | rfl | (simp; done) | (simp [*]; done)), H', ⟨Nat.le_refl _⟩, ⟨by (with_reducible repeat (first | apply Kd.R_alloc | apply Kd.R_drewN | apply Kd.R_drew)); exact HO_0.out⟩, ⟨by (with_reducible repeat (first | apply Kd.R_alloc | apply Kd.R_drewN | apply Kd.R_drew)); exact HO_1.out⟩, ⟨by (with_reducible repeat (first | apply Kd.R_alloc | apply Kd.R_drewN | apply Kd.R_drew)); exact HO_1.out⟩, ⟨by repeat (first | (with_reducible first | exact HB.out | apply below_alloc | apply pw_below_drewN | apply below_drew1) | exact HB.out)⟩⟩
        case round =>
          clear H'
          try clear c1
          try clear c2
          try clear p2
          try clear c3
          try clear c10
          try clear c11
          try clear c12
          try clear c13
          try clear c14
          try clear c15
          try clear c16
          try clear c18
          try clear c18b0
          try clear c18b1
          try clear c18b2
          try clear c21
          try clear c21b0
          try clear c21b1
          try clear c23
          try clear c38
          try clear p2
          obtain ⟨x55_2, rfl, HA, HK2, HO_0, HO_1, HO_53, HB⟩ := hrel
          cases gk with
          | zero => exact absurd HA.out (by simp [foghornlaw10_LabelTells.l0])
          | succ k2 =>
            have H := HA.out
            clear HA
            simp only [foghornlaw10_LabelTells.l0] at H
            by_cases c39 : x55_2 < (t148.length : Int)
            · rw [if_pos c39] at H
              have c39b0 : decide (x55_2 < (t148.length : Int)) = true := decide_eq_true c39
              clear c39
              by_cases c40 : 0 ≤ x55_2
              · rw [if_pos c40] at H
                have c40b0 : decide (0 ≤ x55_2) = true := decide_eq_true c40
                clear c40
                by_cases c41 : x55_2 < (t148.length : Int)
                · rw [if_pos c41] at H
                  have c41b0 : decide (x55_2 < (t148.length : Int)) = true := decide_eq_true c41
                  clear c41
                  replace H := Option.bind_eq_some_iff.mp H
                  obtain ⟨t167, A420, H⟩ := H
                  replace H : ((foghornref10_Matcher.f ((rd_T35 t148 x55_2).f0) ((rd_T35 t148 x55_2).f1) ((rd_T35 t148 x55_2).f2)).bind fun t168 => (if (t167 != t168) = true then (some false) else (foghornlaw10_LabelTells.l0 k2 t145 t148 t155 t156 t148 (t148.length : Int) (wrap64 (x55_2 + 1))))) = some r := H
                  have A42 := Aside0.mk A420
                  clear A420
                  replace H := Option.bind_eq_some_iff.mp H
                  obtain ⟨t168, A430, H⟩ := H
                  replace H : (if (t167 != t168) = true then (some false) else (foghornlaw10_LabelTells.l0 k2 t145 t148 t155 t156 t148 (t148.length : Int) (wrap64 (x55_2 + 1)))) = some r := H
                  have A43 := Aside0.mk A430
                  clear A430
                  by_cases c44 : (t167 != t168) = true
                  · rw [if_pos c44] at H
                    have c44b0 : (t167 != t168) = true := c44
                    (try (have c44b1 : decide (t167 = t168) = false := by simpa using c44))
                    (try (have c44b2 : (t167 == t168) = false := by simpa using c44))
                    (try (have c44b3 : ¬ (t167 = t168) := by simpa using c44))
                    clear c44
                    obtain rfl := Option.some.inj H
                    have p165 : 0 ≤ (x55_2 : Int) := of_decide_eq_true (by first | (with_reducible assumption) | assumption)
                    have q165 : x55_2 < (t148.length : Int) := of_decide_eq_true (by first | (with_reducible assumption) | assumption)
                    obtain ⟨ad165, e165, hx165_0, hx165_1, hx165_2⟩ := at_T35 (Kd.R_reads' HO_53.out).2.2 x55_2 p165 q165
                    cases e165
                    replace p165 := eq_true p165
                    replace q165 := eq_true q165
                    try go_wp2_with (first | ((with_reducible refine gate_dst (N := 12) rfl ?_); refine box_event ?hg (N := 12) ?hd (cs := #[.int .i64 0, .string (⟨#[]⟩ : ByteArray), .string (⟨#[]⟩ : ByteArray)]) (t := 35) ?hr ?_; (case hd => rfl); (case hg => rfl); (case hr => first | (go_simp; done) | (go_simp; rfl)); intro gb166 hg w45 hbox hb; have n0_ := Aside0.mk (Kd.R_below (by (with_reducible repeat (first | apply Kd.R_alloc | apply Kd.R_drewN | apply Kd.R_drew)); exact HO_0.out) hb); have n1_ := Aside0.mk (Kd.R_below (Kd.R_elderB (by (with_reducible repeat (first | apply Kd.R_alloc | apply Kd.R_drewN | apply Kd.R_drew)); exact HO_1.out) gb166 (Nat.le_of_eq hg.symm)) hb); have n2_ := Aside0.mk (Kd.R_below (Kd.R_elderB (by (with_reducible repeat (first | apply Kd.R_alloc | apply Kd.R_drewN | apply Kd.R_drew)); exact HO_53.out) gb166 (Nat.le_of_eq hg.symm)) hb); have n3_ := Aside0.mk (below_step (by repeat (first | (with_reducible first | exact HB.out | apply below_alloc | apply pw_below_drewN | apply below_drew1) | exact HB.out)) hb); have n4_ := Aside0.mk (hbox); have n5_ := Aside0.mk ((by rw [hg]; exact (below_size (by repeat (first | (with_reducible first | exact HB.out | apply below_alloc | apply pw_below_drewN | apply below_drew1) | exact HB.out))) : w.heap.size ≤ gb166)); have n6_ := Aside0.mk ((by rw [hg]; exact (below_size (by repeat (first | (with_reducible first | exact HB.out | apply below_alloc | apply pw_below_drewN | apply below_drew1) | exact HB.out))) : w.heap.size ≤ gb166)); clear HO_0; clear HO_1; clear HO_53; clear HB; have HO_0 := n0_; have HO_1 := n1_; have HO_53 := n2_; have HB := n3_; have BK166 := n4_; have GW166 := n5_; have GE166 := n6_; clear n0_ n1_ n2_ n3_ n4_ n5_ n6_; clear hb hbox hg; have hcz46_0 : w45.cell? ⟨gb166, 0, none⟩ = some (.int .i64 0) := (blk_cell BK166.out 0).trans rfl; have hcz46_1 : w45.cell? ⟨gb166, 1, none⟩ = some (.string (⟨#[]⟩ : ByteArray)) := (blk_cell BK166.out 1).trans rfl; have hcz46_2 : w45.cell? ⟨gb166, 2, none⟩ = some (.string (⟨#[]⟩ : ByteArray)) := (blk_cell BK166.out 2).trans rfl; have hfz46_0 := blk_frozen BK166.out 0; have hfz46_1 := blk_frozen BK166.out 1; have hfz46_2 := blk_frozen BK166.out 2))
                    have n0_ : Aside0 (Kd.R k41 41 (((w45.setCell ⟨gb166, 0, none⟩ (.int .i64 ((rd_T35 t148 x55_2).f0))).setCell ⟨gb166, 1, none⟩ (.string ((rd_T35 t148 x55_2).f1))).setCell ⟨gb166, 2, none⟩ (.string ((rd_T35 t148 x55_2).f2))) w.heap.size (fun _ => True) (.slice Ao11 t145.length co11) t145) := ⟨by (with_reducible repeat (first | apply Kd.R_alloc | apply Kd.R_drewN | apply Kd.R_drew)); exact Kd.R_mono (Kd.R_far (p := ⟨gb166, 2, none⟩) (Kd.R_far (p := ⟨gb166, 1, none⟩) (Kd.R_far (p := ⟨gb166, 0, none⟩) (Kd.R_types HO_0.out BK166.out (by decide)) (fun _ hk => hk.2) (.int .i64 ((rd_T35 t148 x55_2).f0))) (fun _ hk => hk.2) (.string ((rd_T35 t148 x55_2).f1))) (fun _ hk => hk.2) (.string ((rd_T35 t148 x55_2).f2))) (fun _ hk => trivial)⟩
                    have n1_ : Aside0 (Kd.R k35 35 (((w45.setCell ⟨gb166, 0, none⟩ (.int .i64 ((rd_T35 t148 x55_2).f0))).setCell ⟨gb166, 1, none⟩ (.string ((rd_T35 t148 x55_2).f1))).setCell ⟨gb166, 2, none⟩ (.string ((rd_T35 t148 x55_2).f2))) w.heap.size (fun k_ => k_ ≠ gb166) (.slice (some ad165) t148.length co13) t148) := ⟨by (with_reducible repeat (first | apply Kd.R_alloc | apply Kd.R_drewN | apply Kd.R_drew)); exact Kd.R_mono (Kd.R_far (p := ⟨gb166, 2, none⟩) (Kd.R_far (p := ⟨gb166, 1, none⟩) (Kd.R_far (p := ⟨gb166, 0, none⟩) (Kd.R_mono HO_1.out (fun k_ hk => (⟨hk, hk.2⟩ : _ ∧ k_ ≠ gb166))) (fun _ hk => hk.2) (.int .i64 ((rd_T35 t148 x55_2).f0))) (fun _ hk => hk.2) (.string ((rd_T35 t148 x55_2).f1))) (fun _ hk => hk.2) (.string ((rd_T35 t148 x55_2).f2))) (fun _ hk => hk.1.2)⟩
                    have n2_ : Aside0 (Kd.R k35 35 (((w45.setCell ⟨gb166, 0, none⟩ (.int .i64 ((rd_T35 t148 x55_2).f0))).setCell ⟨gb166, 1, none⟩ (.string ((rd_T35 t148 x55_2).f1))).setCell ⟨gb166, 2, none⟩ (.string ((rd_T35 t148 x55_2).f2))) w.heap.size (fun k_ => k_ ≠ gb166) (.slice (some ad165) t148.length co13) t148) := ⟨by (with_reducible repeat (first | apply Kd.R_alloc | apply Kd.R_drewN | apply Kd.R_drew)); exact Kd.R_mono (Kd.R_far (p := ⟨gb166, 2, none⟩) (Kd.R_far (p := ⟨gb166, 1, none⟩) (Kd.R_far (p := ⟨gb166, 0, none⟩) (Kd.R_mono HO_53.out (fun k_ hk => (⟨hk, hk.2⟩ : _ ∧ k_ ≠ gb166))) (fun _ hk => hk.2) (.int .i64 ((rd_T35 t148 x55_2).f0))) (fun _ hk => hk.2) (.string ((rd_T35 t148 x55_2).f1))) (fun _ hk => hk.2) (.string ((rd_T35 t148 x55_2).f2))) (fun _ hk => hk.1.2)⟩
                    have n3_ : Aside0 ((((w45.setCell ⟨gb166, 0, none⟩ (.int .i64 ((rd_T35 t148 x55_2).f0))).setCell ⟨gb166, 1, none⟩ (.string ((rd_T35 t148 x55_2).f1))).setCell ⟨gb166, 2, none⟩ (.string ((rd_T35 t148 x55_2).f2))).heap[gb166]? = some (.cells #[.int .i64 ((rd_T35 t148 x55_2).f0), .string ((rd_T35 t148 x55_2).f1), .string ((rd_T35 t148 x55_2).f2)] 35 (0, 0))) := ⟨by (with_reducible repeat (first | refine blk_drewN ?_ _ | refine blk_drew ?_ | refine blk_alloc ?_ _)); refine blk_put (cs := #[.int .i64 ((rd_T35 t148 x55_2).f0), .string ((rd_T35 t148 x55_2).f1), .string (⟨#[]⟩ : ByteArray)]) ?_ 2 _ rfl; (with_reducible repeat (first | refine blk_drewN ?_ _ | refine blk_drew ?_ | refine blk_alloc ?_ _)); refine blk_put (cs := #[.int .i64 ((rd_T35 t148 x55_2).f0), .string (⟨#[]⟩ : ByteArray), .string (⟨#[]⟩ : ByteArray)]) ?_ 1 _ rfl; (with_reducible repeat (first | refine blk_drewN ?_ _ | refine blk_drew ?_ | refine blk_alloc ?_ _)); refine blk_put (cs := #[.int .i64 0, .string (⟨#[]⟩ : ByteArray), .string (⟨#[]⟩ : ByteArray)]) ?_ 0 _ rfl; (with_reducible repeat (first | refine blk_drewN ?_ _ | refine blk_drew ?_ | refine blk_alloc ?_ _)); exact BK166.out⟩
                    have n4_ : Aside0 (Below w.heap.size w (((w45.setCell ⟨gb166, 0, none⟩ (.int .i64 ((rd_T35 t148 x55_2).f0))).setCell ⟨gb166, 1, none⟩ (.string ((rd_T35 t148 x55_2).f1))).setCell ⟨gb166, 2, none⟩ (.string ((rd_T35 t148 x55_2).f2)))) := ⟨by repeat (first | (with_reducible first | exact HB.out | apply below_alloc | apply pw_below_drewN | apply below_drew1 | refine below_set ?_ GE166.out) | exact HB.out)⟩
                    (try clear HO_0)
                    (try clear HO_1)
                    (try clear HO_53)
                    (try clear BK166)
                    (try clear HB)
                    generalize (((w45.setCell ⟨gb166, 0, none⟩ (.int .i64 ((rd_T35 t148 x55_2).f0))).setCell ⟨gb166, 1, none⟩ (.string ((rd_T35 t148 x55_2).f1))).setCell ⟨gb166, 2, none⟩ (.string ((rd_T35 t148 x55_2).f2))) = w47 at n0_ n1_ n2_ n3_ n4_ ⊢
                    have HO_0 := n0_
                    have HO_1 := n1_
                    have HO_53 := n2_
                    have BK166 := n3_
                    have HB := n4_
                    clear n0_ n1_ n2_ n3_ n4_
                    have n0_ := Aside0.mk (Kd.R_drew HO_0.out)
                    have n1_ := Aside0.mk (Kd.R_drew HO_1.out)
                    have n2_ := Aside0.mk (Kd.R_drew HO_53.out)
                    have n3_ := Aside0.mk (blk_drew BK166.out)
                    have n4_ := Aside0.mk (below_drew1 HB.out)
                    clear HO_0
                    clear HO_1
                    clear HO_53
                    clear BK166
                    clear HB
                    have HO_0 := n0_
                    have HO_1 := n1_
                    have HO_53 := n2_
                    have BK166 := n3_
                    have HB := n4_
                    clear n0_ n1_ n2_ n3_ n4_
                    refine start_ (n := 5) (S := fun w' => w'.cell? ⟨gb166, 0, none⟩ = some (.int .i64 ((rd_T35 t148 x55_2).f0)) ∧ w'.cell? ⟨gb166, 1, none⟩ = some (.string ((rd_T35 t148 x55_2).f1)) ∧ w'.cell? ⟨gb166, 2, none⟩ = some (.string ((rd_T35 t148 x55_2).f2))) (ds := []) #[false, false, false, false, false] (by kernel_rfl) rfl rfl ⟨(blk_cell BK166.out 0).trans rfl, (blk_cell BK166.out 1).trans rfl, (blk_cell BK166.out 2).trans rfl⟩ (fun hHeld => ?_)
                    generalize w47.drew = w48 at HO_0 HO_1 HO_53 BK166 HB hHeld ⊢
                    refine take_ (i := 0) (N := some 59) (v := ?_) (a' := ?_) #[true, false, false, false, false] rfl rfl (by kernel_rfl) (fun _ _ _ h => h) (Or.inl ⟨by rfl, ?_⟩) hHeld ?_ ?_
                    rotate_left
                    · rintro w' ⟨s0, s1, s2⟩
                      go_simp
                      with_reducible rfl
                    rotate_left
                    · simp only [Act.put, List.setIfInBounds_toArray, List.set_cons_zero, List.set_cons_succ, i64_w, i32_w]
                      rfl
                    refine take_ (i := 2) (N := some 61) (v := ?_) (a' := ?_) #[true, false, true, false, false] rfl rfl (by kernel_rfl) (fun _ _ _ h => h) (Or.inl ⟨by rfl, ?_⟩) hHeld ?_ ?_
                    rotate_left
                    · rintro w' ⟨s0, s1, s2⟩
                      go_simp
                      with_reducible rfl
                    rotate_left
                    · simp only [Act.put, List.setIfInBounds_toArray, List.set_cons_zero, List.set_cons_succ, i64_w, i32_w]
                      rfl
                    refine one_ (i := 1) (N := some 60) #[true, true, true, false, false] rfl rfl (by kernel_rfl) (by decide) (fun K hK => ?_)
                    refine goes_ Try.func19 (by kernel_rfl) rfl #[.agg #[.int .i64 ((rd_T35 t148 x55_2).f0), .string ((rd_T35 t148 x55_2).f1), .string ((rd_T35 t148 x55_2).f2)]] (by rfl) rfl rfl (by (try simp only [List.map_toArray, List.map_cons, List.map_nil]); first | done | rfl | (simp only [List.length_drop, List.length_take]; rfl)) ?_
                    with_reducible refine (label_Matcher.calls ((rd_T35 t148 x55_2).f0) ((rd_T35 t148 x55_2).f1) ((rd_T35 t148 x55_2).f2) t167 _ A42.out).mono ?_
                    rintro e w49 ⟨rfl, hb⟩
                    refine ⟨_, rfl, ?_⟩
                    have n0_ := Aside0.mk (Kd.R_below (by (with_reducible repeat (first | apply Kd.R_alloc | apply Kd.R_drewN | apply Kd.R_drew)); exact HO_0.out) hb)
                    have n1_ := Aside0.mk (Kd.R_below (by (with_reducible repeat (first | apply Kd.R_alloc | apply Kd.R_drewN | apply Kd.R_drew)); exact HO_1.out) hb)
                    have n2_ := Aside0.mk (Kd.R_below (by (with_reducible repeat (first | apply Kd.R_alloc | apply Kd.R_drewN | apply Kd.R_drew)); exact HO_53.out) hb)
                    have n3_ := Aside0.mk (blk_below (g := gb166) (o := .cells #[.int .i64 ((rd_T35 t148 x55_2).f0), .string ((rd_T35 t148 x55_2).f1), .string ((rd_T35 t148 x55_2).f2)] 35 (0, 0)) (by (with_reducible repeat (first | refine blk_drewN ?_ _ | refine blk_drew ?_ | refine blk_alloc ?_ _)); exact BK166.out) hb)
                    have n4_ := Aside0.mk (below_step (by repeat (first | (with_reducible first | exact HB.out | apply below_alloc | apply pw_below_drewN | apply below_drew1 | refine below_set ?_ GE166.out) | exact HB.out)) hb)
                    clear HO_0
                    clear HO_1
                    clear HO_53
                    clear BK166
                    clear HB
                    have HO_0 := n0_
                    have HO_1 := n1_
                    have HO_53 := n2_
                    have BK166 := n3_
                    have HB := n4_
                    clear n0_ n1_ n2_ n3_ n4_
                    (try clear hb)
                    (try clear hb2)
                    (try clear hk)
                    (try clear hi)
                    refine hK.out _ _ ⟨(blk_cell BK166.out 0).trans rfl, (blk_cell BK166.out 1).trans rfl, (blk_cell BK166.out 2).trans rfl⟩ (fun hHeld => ?_)
                    clear hK K
                    refine norm_ (a' := ?_) ?_ ?_
                    rotate_left
                    · show Act.put _ (some 60) _ = _
                      simp only [Act.put, List.setIfInBounds_toArray, List.set_cons_zero, List.set_cons_succ, i64_w, i32_w]
                      rfl
                    refine one_ (i := 3) (N := some 62) #[true, true, true, true, false] rfl rfl (by kernel_rfl) (by decide) (fun K hK => ?_)
                    refine goes_ Try.func20 (by kernel_rfl) rfl #[.agg #[.int .i64 ((rd_T35 t148 x55_2).f0), .string ((rd_T35 t148 x55_2).f1), .string ((rd_T35 t148 x55_2).f2)]] (by rfl) rfl rfl (by (try simp only [List.map_toArray, List.map_cons, List.map_nil]); first | done | rfl | (simp only [List.length_drop, List.length_take]; rfl)) ?_
                    with_reducible refine (foghornref10_Matcher.calls ((rd_T35 t148 x55_2).f0) ((rd_T35 t148 x55_2).f1) ((rd_T35 t148 x55_2).f2) t168 _ A43.out).mono ?_
                    rintro e w50 ⟨rfl, hb⟩
                    refine ⟨_, rfl, ?_⟩
                    have n0_ := Aside0.mk (Kd.R_below (by (with_reducible repeat (first | apply Kd.R_alloc | apply Kd.R_drewN | apply Kd.R_drew)); exact HO_0.out) hb)
                    have n1_ := Aside0.mk (Kd.R_below (by (with_reducible repeat (first | apply Kd.R_alloc | apply Kd.R_drewN | apply Kd.R_drew)); exact HO_1.out) hb)
                    have n2_ := Aside0.mk (Kd.R_below (by (with_reducible repeat (first | apply Kd.R_alloc | apply Kd.R_drewN | apply Kd.R_drew)); exact HO_53.out) hb)
                    have n3_ := Aside0.mk (blk_below (g := gb166) (o := .cells #[.int .i64 ((rd_T35 t148 x55_2).f0), .string ((rd_T35 t148 x55_2).f1), .string ((rd_T35 t148 x55_2).f2)] 35 (0, 0)) (by (with_reducible repeat (first | refine blk_drewN ?_ _ | refine blk_drew ?_ | refine blk_alloc ?_ _)); exact BK166.out) hb)
                    have n4_ := Aside0.mk (below_step (by repeat (first | (with_reducible first | exact HB.out | apply below_alloc | apply pw_below_drewN | apply below_drew1 | refine below_set ?_ GE166.out) | exact HB.out)) hb)
                    clear HO_0
                    clear HO_1
                    clear HO_53
                    clear BK166
                    clear HB
                    have HO_0 := n0_
                    have HO_1 := n1_
                    have HO_53 := n2_
                    have BK166 := n3_
                    have HB := n4_
                    clear n0_ n1_ n2_ n3_ n4_
                    (try clear hb)
                    (try clear hb2)
                    (try clear hk)
                    (try clear hi)
                    refine hK.out _ _ ⟨(blk_cell BK166.out 0).trans rfl, (blk_cell BK166.out 1).trans rfl, (blk_cell BK166.out 2).trans rfl⟩ (fun hHeld => ?_)
                    clear hK K
                    refine norm_ (a' := ?_) ?_ ?_
                    rotate_left
                    · show Act.put _ (some 62) _ = _
                      simp only [Act.put, List.setIfInBounds_toArray, List.set_cons_zero, List.set_cons_succ, i64_w, i32_w]
                      rfl
                    refine pure_ (i := 4) (N := some 63) (v := ?_) (a' := ?_) #[true, true, true, true, true] rfl rfl (by kernel_rfl) (fun _ _ _ h => h) (Or.inl ⟨by rfl, ?_⟩) ?_ ?_
                    rotate_left
                    · intro w'
                      go_simp
                      with_reducible rfl
                    rotate_left
                    · simp only [Act.put, List.setIfInBounds_toArray, List.set_cons_zero, List.set_cons_succ, i64_w, i32_w]
                      rfl
                    refine done_ (by kernel_rfl) ?_
                    try go_wp2
                    go_ret
                    exact ⟨by first | rfl | (simp [errW_none, errW_some] <;> rfl) | (simp [*, errW_none, errW_some] <;> rfl), by repeat (first | (with_reducible first | exact HB.out | apply below_alloc | apply pw_below_drewN | apply below_drew1 | refine below_set ?_ GE166.out) | exact HB.out)⟩
                  · rw [if_neg c44] at H
                    have c44b0 : (t167 != t168) = false := by simpa using c44
                    (try (have c44b1 : decide (t167 = t168) = true := by simpa using c44))
                    (try (have c44b2 : (t167 == t168) = true := by simpa using c44))
                    clear c44
                    have H' := Aside0.mk H
                    clear H
                    have p165 : 0 ≤ (x55_2 : Int) := of_decide_eq_true (by first | (with_reducible assumption) | assumption)
                    have q165 : x55_2 < (t148.length : Int) := of_decide_eq_true (by first | (with_reducible assumption) | assumption)
                    obtain ⟨ad165, e165, hx165_0, hx165_1, hx165_2⟩ := at_T35 (Kd.R_reads' HO_53.out).2.2 x55_2 p165 q165
                    cases e165
                    replace p165 := eq_true p165
                    replace q165 := eq_true q165
                    try go_wp2_with (first | ((with_reducible refine gate_dst (N := 12) rfl ?_); refine box_event ?hg (N := 12) ?hd (cs := #[.int .i64 0, .string (⟨#[]⟩ : ByteArray), .string (⟨#[]⟩ : ByteArray)]) (t := 35) ?hr ?_; (case hd => rfl); (case hg => rfl); (case hr => first | (go_simp; done) | (go_simp; rfl)); intro gb166 hg w51 hbox hb; have n0_ := Aside0.mk (Kd.R_below (by (with_reducible repeat (first | apply Kd.R_alloc | apply Kd.R_drewN | apply Kd.R_drew)); exact HO_0.out) hb); have n1_ := Aside0.mk (Kd.R_below (Kd.R_elderB (by (with_reducible repeat (first | apply Kd.R_alloc | apply Kd.R_drewN | apply Kd.R_drew)); exact HO_1.out) gb166 (Nat.le_of_eq hg.symm)) hb); have n2_ := Aside0.mk (Kd.R_below (Kd.R_elderB (by (with_reducible repeat (first | apply Kd.R_alloc | apply Kd.R_drewN | apply Kd.R_drew)); exact HO_53.out) gb166 (Nat.le_of_eq hg.symm)) hb); have n3_ := Aside0.mk (below_step (by repeat (first | (with_reducible first | exact HB.out | apply below_alloc | apply pw_below_drewN | apply below_drew1) | exact HB.out)) hb); have n4_ := Aside0.mk (hbox); have n5_ := Aside0.mk ((by rw [hg]; exact (below_size (by repeat (first | (with_reducible first | exact HB.out | apply below_alloc | apply pw_below_drewN | apply below_drew1) | exact HB.out))) : w.heap.size ≤ gb166)); have n6_ := Aside0.mk ((by rw [hg]; exact (below_size (by repeat (first | (with_reducible first | exact HB.out | apply below_alloc | apply pw_below_drewN | apply below_drew1) | exact HB.out))) : w.heap.size ≤ gb166)); clear HO_0; clear HO_1; clear HO_53; clear HB; have HO_0 := n0_; have HO_1 := n1_; have HO_53 := n2_; have HB := n3_; have BK166 := n4_; have GW166 := n5_; have GE166 := n6_; clear n0_ n1_ n2_ n3_ n4_ n5_ n6_; clear hb hbox hg; have hcz52_0 : w51.cell? ⟨gb166, 0, none⟩ = some (.int .i64 0) := (blk_cell BK166.out 0).trans rfl; have hcz52_1 : w51.cell? ⟨gb166, 1, none⟩ = some (.string (⟨#[]⟩ : ByteArray)) := (blk_cell BK166.out 1).trans rfl; have hcz52_2 : w51.cell? ⟨gb166, 2, none⟩ = some (.string (⟨#[]⟩ : ByteArray)) := (blk_cell BK166.out 2).trans rfl; have hfz52_0 := blk_frozen BK166.out 0; have hfz52_1 := blk_frozen BK166.out 1; have hfz52_2 := blk_frozen BK166.out 2))
                    have n0_ : Aside0 (Kd.R k41 41 (((w51.setCell ⟨gb166, 0, none⟩ (.int .i64 ((rd_T35 t148 x55_2).f0))).setCell ⟨gb166, 1, none⟩ (.string ((rd_T35 t148 x55_2).f1))).setCell ⟨gb166, 2, none⟩ (.string ((rd_T35 t148 x55_2).f2))) w.heap.size (fun _ => True) (.slice Ao11 t145.length co11) t145) := ⟨by (with_reducible repeat (first | apply Kd.R_alloc | apply Kd.R_drewN | apply Kd.R_drew)); exact Kd.R_mono (Kd.R_far (p := ⟨gb166, 2, none⟩) (Kd.R_far (p := ⟨gb166, 1, none⟩) (Kd.R_far (p := ⟨gb166, 0, none⟩) (Kd.R_types HO_0.out BK166.out (by decide)) (fun _ hk => hk.2) (.int .i64 ((rd_T35 t148 x55_2).f0))) (fun _ hk => hk.2) (.string ((rd_T35 t148 x55_2).f1))) (fun _ hk => hk.2) (.string ((rd_T35 t148 x55_2).f2))) (fun _ hk => trivial)⟩
                    have n1_ : Aside0 (Kd.R k35 35 (((w51.setCell ⟨gb166, 0, none⟩ (.int .i64 ((rd_T35 t148 x55_2).f0))).setCell ⟨gb166, 1, none⟩ (.string ((rd_T35 t148 x55_2).f1))).setCell ⟨gb166, 2, none⟩ (.string ((rd_T35 t148 x55_2).f2))) w.heap.size (fun k_ => k_ ≠ gb166) (.slice (some ad165) t148.length co13) t148) := ⟨by (with_reducible repeat (first | apply Kd.R_alloc | apply Kd.R_drewN | apply Kd.R_drew)); exact Kd.R_mono (Kd.R_far (p := ⟨gb166, 2, none⟩) (Kd.R_far (p := ⟨gb166, 1, none⟩) (Kd.R_far (p := ⟨gb166, 0, none⟩) (Kd.R_mono HO_1.out (fun k_ hk => (⟨hk, hk.2⟩ : _ ∧ k_ ≠ gb166))) (fun _ hk => hk.2) (.int .i64 ((rd_T35 t148 x55_2).f0))) (fun _ hk => hk.2) (.string ((rd_T35 t148 x55_2).f1))) (fun _ hk => hk.2) (.string ((rd_T35 t148 x55_2).f2))) (fun _ hk => hk.1.2)⟩
                    have n2_ : Aside0 (Kd.R k35 35 (((w51.setCell ⟨gb166, 0, none⟩ (.int .i64 ((rd_T35 t148 x55_2).f0))).setCell ⟨gb166, 1, none⟩ (.string ((rd_T35 t148 x55_2).f1))).setCell ⟨gb166, 2, none⟩ (.string ((rd_T35 t148 x55_2).f2))) w.heap.size (fun k_ => k_ ≠ gb166) (.slice (some ad165) t148.length co13) t148) := ⟨by (with_reducible repeat (first | apply Kd.R_alloc | apply Kd.R_drewN | apply Kd.R_drew)); exact Kd.R_mono (Kd.R_far (p := ⟨gb166, 2, none⟩) (Kd.R_far (p := ⟨gb166, 1, none⟩) (Kd.R_far (p := ⟨gb166, 0, none⟩) (Kd.R_mono HO_53.out (fun k_ hk => (⟨hk, hk.2⟩ : _ ∧ k_ ≠ gb166))) (fun _ hk => hk.2) (.int .i64 ((rd_T35 t148 x55_2).f0))) (fun _ hk => hk.2) (.string ((rd_T35 t148 x55_2).f1))) (fun _ hk => hk.2) (.string ((rd_T35 t148 x55_2).f2))) (fun _ hk => hk.1.2)⟩
                    have n3_ : Aside0 ((((w51.setCell ⟨gb166, 0, none⟩ (.int .i64 ((rd_T35 t148 x55_2).f0))).setCell ⟨gb166, 1, none⟩ (.string ((rd_T35 t148 x55_2).f1))).setCell ⟨gb166, 2, none⟩ (.string ((rd_T35 t148 x55_2).f2))).heap[gb166]? = some (.cells #[.int .i64 ((rd_T35 t148 x55_2).f0), .string ((rd_T35 t148 x55_2).f1), .string ((rd_T35 t148 x55_2).f2)] 35 (0, 0))) := ⟨by (with_reducible repeat (first | refine blk_drewN ?_ _ | refine blk_drew ?_ | refine blk_alloc ?_ _)); refine blk_put (cs := #[.int .i64 ((rd_T35 t148 x55_2).f0), .string ((rd_T35 t148 x55_2).f1), .string (⟨#[]⟩ : ByteArray)]) ?_ 2 _ rfl; (with_reducible repeat (first | refine blk_drewN ?_ _ | refine blk_drew ?_ | refine blk_alloc ?_ _)); refine blk_put (cs := #[.int .i64 ((rd_T35 t148 x55_2).f0), .string (⟨#[]⟩ : ByteArray), .string (⟨#[]⟩ : ByteArray)]) ?_ 1 _ rfl; (with_reducible repeat (first | refine blk_drewN ?_ _ | refine blk_drew ?_ | refine blk_alloc ?_ _)); refine blk_put (cs := #[.int .i64 0, .string (⟨#[]⟩ : ByteArray), .string (⟨#[]⟩ : ByteArray)]) ?_ 0 _ rfl; (with_reducible repeat (first | refine blk_drewN ?_ _ | refine blk_drew ?_ | refine blk_alloc ?_ _)); exact BK166.out⟩
                    have n4_ : Aside0 (Below w.heap.size w (((w51.setCell ⟨gb166, 0, none⟩ (.int .i64 ((rd_T35 t148 x55_2).f0))).setCell ⟨gb166, 1, none⟩ (.string ((rd_T35 t148 x55_2).f1))).setCell ⟨gb166, 2, none⟩ (.string ((rd_T35 t148 x55_2).f2)))) := ⟨by repeat (first | (with_reducible first | exact HB.out | apply below_alloc | apply pw_below_drewN | apply below_drew1 | refine below_set ?_ GE166.out) | exact HB.out)⟩
                    (try clear HO_0)
                    (try clear HO_1)
                    (try clear HO_53)
                    (try clear BK166)
                    (try clear HB)
                    generalize (((w51.setCell ⟨gb166, 0, none⟩ (.int .i64 ((rd_T35 t148 x55_2).f0))).setCell ⟨gb166, 1, none⟩ (.string ((rd_T35 t148 x55_2).f1))).setCell ⟨gb166, 2, none⟩ (.string ((rd_T35 t148 x55_2).f2))) = w53 at n0_ n1_ n2_ n3_ n4_ ⊢
                    have HO_0 := n0_
                    have HO_1 := n1_
                    have HO_53 := n2_
                    have BK166 := n3_
                    have HB := n4_
                    clear n0_ n1_ n2_ n3_ n4_
                    have n0_ := Aside0.mk (Kd.R_drew HO_0.out)
                    have n1_ := Aside0.mk (Kd.R_drew HO_1.out)
                    have n2_ := Aside0.mk (Kd.R_drew HO_53.out)
                    have n3_ := Aside0.mk (blk_drew BK166.out)
                    have n4_ := Aside0.mk (below_drew1 HB.out)
                    clear HO_0
                    clear HO_1
                    clear HO_53
                    clear BK166
                    clear HB
                    have HO_0 := n0_
                    have HO_1 := n1_
                    have HO_53 := n2_
                    have BK166 := n3_
                    have HB := n4_
                    clear n0_ n1_ n2_ n3_ n4_
                    refine start_ (n := 5) (S := fun w' => w'.cell? ⟨gb166, 0, none⟩ = some (.int .i64 ((rd_T35 t148 x55_2).f0)) ∧ w'.cell? ⟨gb166, 1, none⟩ = some (.string ((rd_T35 t148 x55_2).f1)) ∧ w'.cell? ⟨gb166, 2, none⟩ = some (.string ((rd_T35 t148 x55_2).f2))) (ds := []) #[false, false, false, false, false] (by kernel_rfl) rfl rfl ⟨(blk_cell BK166.out 0).trans rfl, (blk_cell BK166.out 1).trans rfl, (blk_cell BK166.out 2).trans rfl⟩ (fun hHeld => ?_)
                    generalize w53.drew = w54 at HO_0 HO_1 HO_53 BK166 HB hHeld ⊢
                    refine take_ (i := 0) (N := some 59) (v := ?_) (a' := ?_) #[true, false, false, false, false] rfl rfl (by kernel_rfl) (fun _ _ _ h => h) (Or.inl ⟨by rfl, ?_⟩) hHeld ?_ ?_
                    rotate_left
                    · rintro w' ⟨s0, s1, s2⟩
                      go_simp
                      with_reducible rfl
                    rotate_left
                    · simp only [Act.put, List.setIfInBounds_toArray, List.set_cons_zero, List.set_cons_succ, i64_w, i32_w]
                      rfl
                    refine take_ (i := 2) (N := some 61) (v := ?_) (a' := ?_) #[true, false, true, false, false] rfl rfl (by kernel_rfl) (fun _ _ _ h => h) (Or.inl ⟨by rfl, ?_⟩) hHeld ?_ ?_
                    rotate_left
                    · rintro w' ⟨s0, s1, s2⟩
                      go_simp
                      with_reducible rfl
                    rotate_left
                    · simp only [Act.put, List.setIfInBounds_toArray, List.set_cons_zero, List.set_cons_succ, i64_w, i32_w]
                      rfl
                    refine one_ (i := 1) (N := some 60) #[true, true, true, false, false] rfl rfl (by kernel_rfl) (by decide) (fun K hK => ?_)
                    refine goes_ Try.func19 (by kernel_rfl) rfl #[.agg #[.int .i64 ((rd_T35 t148 x55_2).f0), .string ((rd_T35 t148 x55_2).f1), .string ((rd_T35 t148 x55_2).f2)]] (by rfl) rfl rfl (by (try simp only [List.map_toArray, List.map_cons, List.map_nil]); first | done | rfl | (simp only [List.length_drop, List.length_take]; rfl)) ?_
                    with_reducible refine (label_Matcher.calls ((rd_T35 t148 x55_2).f0) ((rd_T35 t148 x55_2).f1) ((rd_T35 t148 x55_2).f2) t167 _ A42.out).mono ?_
                    rintro e w55 ⟨rfl, hb⟩
                    refine ⟨_, rfl, ?_⟩
                    have n0_ := Aside0.mk (Kd.R_below (by (with_reducible repeat (first | apply Kd.R_alloc | apply Kd.R_drewN | apply Kd.R_drew)); exact HO_0.out) hb)
                    have n1_ := Aside0.mk (Kd.R_below (by (with_reducible repeat (first | apply Kd.R_alloc | apply Kd.R_drewN | apply Kd.R_drew)); exact HO_1.out) hb)
                    have n2_ := Aside0.mk (Kd.R_below (by (with_reducible repeat (first | apply Kd.R_alloc | apply Kd.R_drewN | apply Kd.R_drew)); exact HO_53.out) hb)
                    have n3_ := Aside0.mk (blk_below (g := gb166) (o := .cells #[.int .i64 ((rd_T35 t148 x55_2).f0), .string ((rd_T35 t148 x55_2).f1), .string ((rd_T35 t148 x55_2).f2)] 35 (0, 0)) (by (with_reducible repeat (first | refine blk_drewN ?_ _ | refine blk_drew ?_ | refine blk_alloc ?_ _)); exact BK166.out) hb)
                    have n4_ := Aside0.mk (below_step (by repeat (first | (with_reducible first | exact HB.out | apply below_alloc | apply pw_below_drewN | apply below_drew1 | refine below_set ?_ GE166.out) | exact HB.out)) hb)
                    clear HO_0
                    clear HO_1
                    clear HO_53
                    clear BK166
                    clear HB
                    have HO_0 := n0_
                    have HO_1 := n1_
                    have HO_53 := n2_
                    have BK166 := n3_
                    have HB := n4_
                    clear n0_ n1_ n2_ n3_ n4_
                    (try clear hb)
                    (try clear hb2)
                    (try clear hk)
                    (try clear hi)
                    refine hK.out _ _ ⟨(blk_cell BK166.out 0).trans rfl, (blk_cell BK166.out 1).trans rfl, (blk_cell BK166.out 2).trans rfl⟩ (fun hHeld => ?_)
                    clear hK K
                    refine norm_ (a' := ?_) ?_ ?_
                    rotate_left
                    · show Act.put _ (some 60) _ = _
                      simp only [Act.put, List.setIfInBounds_toArray, List.set_cons_zero, List.set_cons_succ, i64_w, i32_w]
                      rfl
                    refine one_ (i := 3) (N := some 62) #[true, true, true, true, false] rfl rfl (by kernel_rfl) (by decide) (fun K hK => ?_)
                    refine goes_ Try.func20 (by kernel_rfl) rfl #[.agg #[.int .i64 ((rd_T35 t148 x55_2).f0), .string ((rd_T35 t148 x55_2).f1), .string ((rd_T35 t148 x55_2).f2)]] (by rfl) rfl rfl (by (try simp only [List.map_toArray, List.map_cons, List.map_nil]); first | done | rfl | (simp only [List.length_drop, List.length_take]; rfl)) ?_
                    with_reducible refine (foghornref10_Matcher.calls ((rd_T35 t148 x55_2).f0) ((rd_T35 t148 x55_2).f1) ((rd_T35 t148 x55_2).f2) t168 _ A43.out).mono ?_
                    rintro e w56 ⟨rfl, hb⟩
                    refine ⟨_, rfl, ?_⟩
                    have n0_ := Aside0.mk (Kd.R_below (by (with_reducible repeat (first | apply Kd.R_alloc | apply Kd.R_drewN | apply Kd.R_drew)); exact HO_0.out) hb)
                    have n1_ := Aside0.mk (Kd.R_below (by (with_reducible repeat (first | apply Kd.R_alloc | apply Kd.R_drewN | apply Kd.R_drew)); exact HO_1.out) hb)
                    have n2_ := Aside0.mk (Kd.R_below (by (with_reducible repeat (first | apply Kd.R_alloc | apply Kd.R_drewN | apply Kd.R_drew)); exact HO_53.out) hb)
                    have n3_ := Aside0.mk (blk_below (g := gb166) (o := .cells #[.int .i64 ((rd_T35 t148 x55_2).f0), .string ((rd_T35 t148 x55_2).f1), .string ((rd_T35 t148 x55_2).f2)] 35 (0, 0)) (by (with_reducible repeat (first | refine blk_drewN ?_ _ | refine blk_drew ?_ | refine blk_alloc ?_ _)); exact BK166.out) hb)
                    have n4_ := Aside0.mk (below_step (by repeat (first | (with_reducible first | exact HB.out | apply below_alloc | apply pw_below_drewN | apply below_drew1 | refine below_set ?_ GE166.out) | exact HB.out)) hb)
                    clear HO_0
                    clear HO_1
                    clear HO_53
                    clear BK166
                    clear HB
                    have HO_0 := n0_
                    have HO_1 := n1_
                    have HO_53 := n2_
                    have BK166 := n3_
                    have HB := n4_
                    clear n0_ n1_ n2_ n3_ n4_
                    (try clear hb)
                    (try clear hb2)
                    (try clear hk)
                    (try clear hi)
                    refine hK.out _ _ ⟨(blk_cell BK166.out 0).trans rfl, (blk_cell BK166.out 1).trans rfl, (blk_cell BK166.out 2).trans rfl⟩ (fun hHeld => ?_)
                    clear hK K
                    refine norm_ (a' := ?_) ?_ ?_
                    rotate_left
                    · show Act.put _ (some 62) _ = _
                      simp only [Act.put, List.setIfInBounds_toArray, List.set_cons_zero, List.set_cons_succ, i64_w, i32_w]
                      rfl
                    refine pure_ (i := 4) (N := some 63) (v := ?_) (a' := ?_) #[true, true, true, true, true] rfl rfl (by kernel_rfl) (fun _ _ _ h => h) (Or.inl ⟨by rfl, ?_⟩) ?_ ?_
                    rotate_left
                    · intro w'
                      go_simp
                      with_reducible rfl
                    rotate_left
                    · simp only [Act.put, List.setIfInBounds_toArray, List.set_cons_zero, List.set_cons_succ, i64_w, i32_w]
                      rfl
                    refine done_ (by kernel_rfl) ?_
                    try go_wp2
                    go_roundg k2
                    case measure => have := HJ7.out; have := HK2.out; omega
                    case rel => exact ⟨(wrap64 (x55_2 + 1)), (by first | rfl | (simp; done) | (simp [*]; done)), H', ⟨by have := HJ7.out; have := HK2.out; omega⟩, ⟨by (with_reducible repeat (first | apply Kd.R_alloc | apply Kd.R_drewN | apply Kd.R_drew)); exact HO_0.out⟩, ⟨by (with_reducible repeat (first | apply Kd.R_alloc | apply Kd.R_drewN | apply Kd.R_drew)); exact Kd.R_mono HO_1.out (fun _ hk => trivial)⟩, ⟨by (with_reducible repeat (first | apply Kd.R_alloc | apply Kd.R_drewN | apply Kd.R_drew)); exact Kd.R_mono HO_53.out (fun _ hk => trivial)⟩, ⟨by repeat (first | (with_reducible first | exact HB.out | apply below_alloc | apply pw_below_drewN | apply below_drew1 | refine below_set ?_ GE166.out) | exact HB.out)⟩⟩
                · rw [if_neg c41] at H
                  exact absurd H (by simp)
              · rw [if_neg c40] at H
                exact absurd H (by simp)
            · rw [if_neg c39] at H
              have c39b0 : decide (x55_2 < (t148.length : Int)) = false := decide_eq_false c39
              clear c39
              replace H := Option.bind_eq_some_iff.mp H
              obtain ⟨t169, A570, H⟩ := H
              replace H : (if t169 = true then ((foghornref10_Matchers.f t148).bind fun t170 => (if t170 = true then (if t156 = 0 then ((foghornref10_All.f t148 t145).bind fun t171 => (some (t155 == t171))) else (some false)) else (if t156 = 1 then (some (!t155)) else (some false)))) else (if t156 = 1 then (some (!t155)) else (some false))) = some r := H
              have A57 := Aside0.mk A570
              clear A570
              by_cases c58 : t169 = true
              · subst c58
                have H1 : ((foghornref10_Matchers.f t148).bind fun t170 => (if t170 = true then (if t156 = 0 then ((foghornref10_All.f t148 t145).bind fun t171 => (some (t155 == t171))) else (some false)) else (if t156 = 1 then (some (!t155)) else (some false)))) = some r := by rw [if_pos rfl] at H; exact H
                clear H
                have H := H1
                clear H1
                replace H := Option.bind_eq_some_iff.mp H
                obtain ⟨t170, A590, H⟩ := H
                replace H : (if t170 = true then (if t156 = 0 then ((foghornref10_All.f t148 t145).bind fun t171 => (some (t155 == t171))) else (some false)) else (if t156 = 1 then (some (!t155)) else (some false))) = some r := H
                have A59 := Aside0.mk A590
                clear A590
                by_cases c60 : t170 = true
                · subst c60
                  have H1 : (if t156 = 0 then ((foghornref10_All.f t148 t145).bind fun t171 => (some (t155 == t171))) else (some false)) = some r := by rw [if_pos rfl] at H; exact H
                  clear H
                  have H := H1
                  clear H1
                  by_cases c61 : t156 = 0
                  · rw [if_pos c61] at H
                    have c61b0 : (t156 == 0) = true := beq_iff_eq.mpr c61
                    have c61b1 : (t156 != 0) = false := bne_eq_false_iff_eq.mpr c61
                    clear c61
                    replace H := Option.bind_eq_some_iff.mp H
                    obtain ⟨t171, A620, H⟩ := H
                    replace H : (some (t155 == t171)) = some r := H
                    have A62 := Aside0.mk A620
                    clear A620
                    obtain rfl := Option.some.inj H
                    go_wp2_with (first | ((with_reducible refine gate_callee (f := 16) rfl ?_); refine goesL_ (some 66) rfl rfl Try.func16 (by kernel_rfl) rfl #[.slice Ao11 t145.length co11] rfl (by (try simp only [List.map_toArray, List.map_cons, List.map_nil]); first | done | rfl | (simp only [List.length_drop, List.length_take]; rfl)) ?_; (with_reducible refine (foghornref10_Right.calls _ _ t145 true _ ?side1 ?side2 A57.out).mono ?_); (case side1 => repeat (first | exact (Kd.R_reads' HO_0.out).2.2 | (with_reducible refine Kd.C_alloc ?_ _) | (with_reducible refine Kd.C_drewN ?_ _) | (with_reducible refine Kd.C_drew ?_))); (case side2 => exact (Kd.R_reads' HO_0.out).2.1); rintro e w63 ⟨rfl, hb⟩; refine ⟨_, rfl, ?_⟩; have n0_ := Aside0.mk (Kd.R_below (by (with_reducible repeat (first | apply Kd.R_alloc | apply Kd.R_drewN | apply Kd.R_drew)); exact HO_0.out) hb); have n1_ := Aside0.mk (Kd.R_below (by (with_reducible repeat (first | apply Kd.R_alloc | apply Kd.R_drewN | apply Kd.R_drew)); exact HO_1.out) hb); have n2_ := Aside0.mk (Kd.R_below (by (with_reducible repeat (first | apply Kd.R_alloc | apply Kd.R_drewN | apply Kd.R_drew)); exact HO_53.out) hb); have n3_ := Aside0.mk (below_step (by repeat (first | (with_reducible first | exact HB.out | apply below_alloc | apply pw_below_drewN | apply below_drew1) | exact HB.out)) hb); clear HO_0; clear HO_1; clear HO_53; clear HB; have HO_0 := n0_; have HO_1 := n1_; have HO_53 := n2_; have HB := n3_; clear n0_ n1_ n2_ n3_; (try clear hb); (try clear hb2); (try clear hk); (try clear hi)) | (go_at_call 21; (with_reducible refine (foghornref10_Matchers.calls _ _ t148 true _ ?side1 ?side2 A59.out).mono ?_); (case side1 => repeat (first | exact (Kd.R_reads' HO_1.out).2.2 | (with_reducible refine Kd.C_alloc ?_ _) | (with_reducible refine Kd.C_drewN ?_ _) | (with_reducible refine Kd.C_drew ?_))); (case side2 => exact (Kd.R_reads' HO_1.out).2.1); rintro e w64 ⟨rfl, hb⟩; have n0_ := Aside0.mk (Kd.R_below (by (with_reducible repeat (first | apply Kd.R_alloc | apply Kd.R_drewN | apply Kd.R_drew)); exact HO_0.out) hb); have n1_ := Aside0.mk (Kd.R_below (by (with_reducible repeat (first | apply Kd.R_alloc | apply Kd.R_drewN | apply Kd.R_drew)); exact HO_1.out) hb); have n2_ := Aside0.mk (Kd.R_below (by (with_reducible repeat (first | apply Kd.R_alloc | apply Kd.R_drewN | apply Kd.R_drew)); exact HO_53.out) hb); have n3_ := Aside0.mk (below_step (by repeat (first | (with_reducible first | exact HB.out | apply below_alloc | apply pw_below_drewN | apply below_drew1) | exact HB.out)) hb); clear HO_0; clear HO_1; clear HO_53; clear HB; have HO_0 := n0_; have HO_1 := n1_; have HO_53 := n2_; have HB := n3_; clear n0_ n1_ n2_ n3_; (try clear hb); (try clear hb2); (try clear hk); (try clear hi)) | (go_at_call 22; (with_reducible refine (foghornref10_All.calls _ _ t148 _ _ t145 t171 _ ?side1 ?side2 ?side3 ?side4 A62.out).mono ?_); (case side1 => repeat (first | exact (Kd.R_reads' HO_1.out).2.2 | (with_reducible refine Kd.C_alloc ?_ _) | (with_reducible refine Kd.C_drewN ?_ _) | (with_reducible refine Kd.C_drew ?_))); (case side2 => exact (Kd.R_reads' HO_1.out).2.1); (case side3 => repeat (first | exact (Kd.R_reads' HO_0.out).2.2 | (with_reducible refine Kd.C_alloc ?_ _) | (with_reducible refine Kd.C_drewN ?_ _) | (with_reducible refine Kd.C_drew ?_))); (case side4 => exact (Kd.R_reads' HO_0.out).2.1); rintro e w65 ⟨rfl, hb⟩; have n0_ := Aside0.mk (Kd.R_below (by (with_reducible repeat (first | apply Kd.R_alloc | apply Kd.R_drewN | apply Kd.R_drew)); exact HO_0.out) hb); have n1_ := Aside0.mk (Kd.R_below (by (with_reducible repeat (first | apply Kd.R_alloc | apply Kd.R_drewN | apply Kd.R_drew)); exact HO_1.out) hb); have n2_ := Aside0.mk (Kd.R_below (by (with_reducible repeat (first | apply Kd.R_alloc | apply Kd.R_drewN | apply Kd.R_drew)); exact HO_53.out) hb); have n3_ := Aside0.mk (below_step (by repeat (first | (with_reducible first | exact HB.out | apply below_alloc | apply pw_below_drewN | apply below_drew1) | exact HB.out)) hb); clear HO_0; clear HO_1; clear HO_53; clear HB; have HO_0 := n0_; have HO_1 := n1_; have HO_53 := n2_; have HB := n3_; clear n0_ n1_ n2_ n3_; (try clear hb); (try clear hb2); (try clear hk); (try clear hi)))
                    go_ret
                    exact ⟨by first | rfl | (simp [errW_none, errW_some] <;> rfl) | (simp [*, errW_none, errW_some] <;> rfl), by repeat (first | (with_reducible first | exact HB.out | apply below_alloc | apply pw_below_drewN | apply below_drew1) | exact HB.out)⟩
                  · rw [if_neg c61] at H
                    have c61b0 : (t156 == 0) = false := beq_eq_false_iff_ne.mpr c61
                    have c61b1 : (t156 != 0) = true := bne_iff_ne.mpr c61
                    obtain rfl := Option.some.inj H
                    go_wp2_with (first | ((with_reducible refine gate_callee (f := 16) rfl ?_); refine goesL_ (some 66) rfl rfl Try.func16 (by kernel_rfl) rfl #[.slice Ao11 t145.length co11] rfl (by (try simp only [List.map_toArray, List.map_cons, List.map_nil]); first | done | rfl | (simp only [List.length_drop, List.length_take]; rfl)) ?_; (with_reducible refine (foghornref10_Right.calls _ _ t145 true _ ?side1 ?side2 A57.out).mono ?_); (case side1 => repeat (first | exact (Kd.R_reads' HO_0.out).2.2 | (with_reducible refine Kd.C_alloc ?_ _) | (with_reducible refine Kd.C_drewN ?_ _) | (with_reducible refine Kd.C_drew ?_))); (case side2 => exact (Kd.R_reads' HO_0.out).2.1); rintro e w66 ⟨rfl, hb⟩; refine ⟨_, rfl, ?_⟩; have n0_ := Aside0.mk (Kd.R_below (by (with_reducible repeat (first | apply Kd.R_alloc | apply Kd.R_drewN | apply Kd.R_drew)); exact HO_0.out) hb); have n1_ := Aside0.mk (Kd.R_below (by (with_reducible repeat (first | apply Kd.R_alloc | apply Kd.R_drewN | apply Kd.R_drew)); exact HO_1.out) hb); have n2_ := Aside0.mk (Kd.R_below (by (with_reducible repeat (first | apply Kd.R_alloc | apply Kd.R_drewN | apply Kd.R_drew)); exact HO_53.out) hb); have n3_ := Aside0.mk (below_step (by repeat (first | (with_reducible first | exact HB.out | apply below_alloc | apply pw_below_drewN | apply below_drew1) | exact HB.out)) hb); clear HO_0; clear HO_1; clear HO_53; clear HB; have HO_0 := n0_; have HO_1 := n1_; have HO_53 := n2_; have HB := n3_; clear n0_ n1_ n2_ n3_; (try clear hb); (try clear hb2); (try clear hk); (try clear hi)) | (go_at_call 21; (with_reducible refine (foghornref10_Matchers.calls _ _ t148 true _ ?side1 ?side2 A59.out).mono ?_); (case side1 => repeat (first | exact (Kd.R_reads' HO_1.out).2.2 | (with_reducible refine Kd.C_alloc ?_ _) | (with_reducible refine Kd.C_drewN ?_ _) | (with_reducible refine Kd.C_drew ?_))); (case side2 => exact (Kd.R_reads' HO_1.out).2.1); rintro e w67 ⟨rfl, hb⟩; have n0_ := Aside0.mk (Kd.R_below (by (with_reducible repeat (first | apply Kd.R_alloc | apply Kd.R_drewN | apply Kd.R_drew)); exact HO_0.out) hb); have n1_ := Aside0.mk (Kd.R_below (by (with_reducible repeat (first | apply Kd.R_alloc | apply Kd.R_drewN | apply Kd.R_drew)); exact HO_1.out) hb); have n2_ := Aside0.mk (Kd.R_below (by (with_reducible repeat (first | apply Kd.R_alloc | apply Kd.R_drewN | apply Kd.R_drew)); exact HO_53.out) hb); have n3_ := Aside0.mk (below_step (by repeat (first | (with_reducible first | exact HB.out | apply below_alloc | apply pw_below_drewN | apply below_drew1) | exact HB.out)) hb); clear HO_0; clear HO_1; clear HO_53; clear HB; have HO_0 := n0_; have HO_1 := n1_; have HO_53 := n2_; have HB := n3_; clear n0_ n1_ n2_ n3_; (try clear hb); (try clear hb2); (try clear hk); (try clear hi)))
                    go_ret
                    exact ⟨by first | rfl | (simp [errW_none, errW_some] <;> rfl) | (simp [*, errW_none, errW_some] <;> rfl), by repeat (first | (with_reducible first | exact HB.out | apply below_alloc | apply pw_below_drewN | apply below_drew1) | exact HB.out)⟩
                · replace c60 := Bool.eq_false_iff.mpr c60
                  subst c60
                  have H1 : (if t156 = 1 then (some (!t155)) else (some false)) = some r := by rw [if_neg (show ¬ (false = true) by decide)] at H; exact H
                  clear H
                  have H := H1
                  clear H1
                  by_cases c68 : t156 = 1
                  · rw [if_pos c68] at H
                    have c68b0 : (t156 == 1) = true := beq_iff_eq.mpr c68
                    have c68b1 : (t156 != 1) = false := bne_eq_false_iff_eq.mpr c68
                    clear c68
                    obtain rfl := Option.some.inj H
                    go_wp2_with (first | ((with_reducible refine gate_callee (f := 16) rfl ?_); refine goesL_ (some 66) rfl rfl Try.func16 (by kernel_rfl) rfl #[.slice Ao11 t145.length co11] rfl (by (try simp only [List.map_toArray, List.map_cons, List.map_nil]); first | done | rfl | (simp only [List.length_drop, List.length_take]; rfl)) ?_; (with_reducible refine (foghornref10_Right.calls _ _ t145 true _ ?side1 ?side2 A57.out).mono ?_); (case side1 => repeat (first | exact (Kd.R_reads' HO_0.out).2.2 | (with_reducible refine Kd.C_alloc ?_ _) | (with_reducible refine Kd.C_drewN ?_ _) | (with_reducible refine Kd.C_drew ?_))); (case side2 => exact (Kd.R_reads' HO_0.out).2.1); rintro e w69 ⟨rfl, hb⟩; refine ⟨_, rfl, ?_⟩; have n0_ := Aside0.mk (Kd.R_below (by (with_reducible repeat (first | apply Kd.R_alloc | apply Kd.R_drewN | apply Kd.R_drew)); exact HO_0.out) hb); have n1_ := Aside0.mk (Kd.R_below (by (with_reducible repeat (first | apply Kd.R_alloc | apply Kd.R_drewN | apply Kd.R_drew)); exact HO_1.out) hb); have n2_ := Aside0.mk (Kd.R_below (by (with_reducible repeat (first | apply Kd.R_alloc | apply Kd.R_drewN | apply Kd.R_drew)); exact HO_53.out) hb); have n3_ := Aside0.mk (below_step (by repeat (first | (with_reducible first | exact HB.out | apply below_alloc | apply pw_below_drewN | apply below_drew1) | exact HB.out)) hb); clear HO_0; clear HO_1; clear HO_53; clear HB; have HO_0 := n0_; have HO_1 := n1_; have HO_53 := n2_; have HB := n3_; clear n0_ n1_ n2_ n3_; (try clear hb); (try clear hb2); (try clear hk); (try clear hi)) | (go_at_call 21; (with_reducible refine (foghornref10_Matchers.calls _ _ t148 false _ ?side1 ?side2 A59.out).mono ?_); (case side1 => repeat (first | exact (Kd.R_reads' HO_1.out).2.2 | (with_reducible refine Kd.C_alloc ?_ _) | (with_reducible refine Kd.C_drewN ?_ _) | (with_reducible refine Kd.C_drew ?_))); (case side2 => exact (Kd.R_reads' HO_1.out).2.1); rintro e w70 ⟨rfl, hb⟩; have n0_ := Aside0.mk (Kd.R_below (by (with_reducible repeat (first | apply Kd.R_alloc | apply Kd.R_drewN | apply Kd.R_drew)); exact HO_0.out) hb); have n1_ := Aside0.mk (Kd.R_below (by (with_reducible repeat (first | apply Kd.R_alloc | apply Kd.R_drewN | apply Kd.R_drew)); exact HO_1.out) hb); have n2_ := Aside0.mk (Kd.R_below (by (with_reducible repeat (first | apply Kd.R_alloc | apply Kd.R_drewN | apply Kd.R_drew)); exact HO_53.out) hb); have n3_ := Aside0.mk (below_step (by repeat (first | (with_reducible first | exact HB.out | apply below_alloc | apply pw_below_drewN | apply below_drew1) | exact HB.out)) hb); clear HO_0; clear HO_1; clear HO_53; clear HB; have HO_0 := n0_; have HO_1 := n1_; have HO_53 := n2_; have HB := n3_; clear n0_ n1_ n2_ n3_; (try clear hb); (try clear hb2); (try clear hk); (try clear hi)))
                    go_ret
                    exact ⟨by first | rfl | (simp [errW_none, errW_some] <;> rfl) | (simp [*, errW_none, errW_some] <;> rfl), by repeat (first | (with_reducible first | exact HB.out | apply below_alloc | apply pw_below_drewN | apply below_drew1) | exact HB.out)⟩
                  · rw [if_neg c68] at H
                    have c68b0 : (t156 == 1) = false := beq_eq_false_iff_ne.mpr c68
                    have c68b1 : (t156 != 1) = true := bne_iff_ne.mpr c68
                    obtain rfl := Option.some.inj H
                    go_wp2_with (first | ((with_reducible refine gate_callee (f := 16) rfl ?_); refine goesL_ (some 66) rfl rfl Try.func16 (by kernel_rfl) rfl #[.slice Ao11 t145.length co11] rfl (by (try simp only [List.map_toArray, List.map_cons, List.map_nil]); first | done | rfl | (simp only [List.length_drop, List.length_take]; rfl)) ?_; (with_reducible refine (foghornref10_Right.calls _ _ t145 true _ ?side1 ?side2 A57.out).mono ?_); (case side1 => repeat (first | exact (Kd.R_reads' HO_0.out).2.2 | (with_reducible refine Kd.C_alloc ?_ _) | (with_reducible refine Kd.C_drewN ?_ _) | (with_reducible refine Kd.C_drew ?_))); (case side2 => exact (Kd.R_reads' HO_0.out).2.1); rintro e w71 ⟨rfl, hb⟩; refine ⟨_, rfl, ?_⟩; have n0_ := Aside0.mk (Kd.R_below (by (with_reducible repeat (first | apply Kd.R_alloc | apply Kd.R_drewN | apply Kd.R_drew)); exact HO_0.out) hb); have n1_ := Aside0.mk (Kd.R_below (by (with_reducible repeat (first | apply Kd.R_alloc | apply Kd.R_drewN | apply Kd.R_drew)); exact HO_1.out) hb); have n2_ := Aside0.mk (Kd.R_below (by (with_reducible repeat (first | apply Kd.R_alloc | apply Kd.R_drewN | apply Kd.R_drew)); exact HO_53.out) hb); have n3_ := Aside0.mk (below_step (by repeat (first | (with_reducible first | exact HB.out | apply below_alloc | apply pw_below_drewN | apply below_drew1) | exact HB.out)) hb); clear HO_0; clear HO_1; clear HO_53; clear HB; have HO_0 := n0_; have HO_1 := n1_; have HO_53 := n2_; have HB := n3_; clear n0_ n1_ n2_ n3_; (try clear hb); (try clear hb2); (try clear hk); (try clear hi)) | (go_at_call 21; (with_reducible refine (foghornref10_Matchers.calls _ _ t148 false _ ?side1 ?side2 A59.out).mono ?_); (case side1 => repeat (first | exact (Kd.R_reads' HO_1.out).2.2 | (with_reducible refine Kd.C_alloc ?_ _) | (with_reducible refine Kd.C_drewN ?_ _) | (with_reducible refine Kd.C_drew ?_))); (case side2 => exact (Kd.R_reads' HO_1.out).2.1); rintro e w72 ⟨rfl, hb⟩; have n0_ := Aside0.mk (Kd.R_below (by (with_reducible repeat (first | apply Kd.R_alloc | apply Kd.R_drewN | apply Kd.R_drew)); exact HO_0.out) hb); have n1_ := Aside0.mk (Kd.R_below (by (with_reducible repeat (first | apply Kd.R_alloc | apply Kd.R_drewN | apply Kd.R_drew)); exact HO_1.out) hb); have n2_ := Aside0.mk (Kd.R_below (by (with_reducible repeat (first | apply Kd.R_alloc | apply Kd.R_drewN | apply Kd.R_drew)); exact HO_53.out) hb); have n3_ := Aside0.mk (below_step (by repeat (first | (with_reducible first | exact HB.out | apply below_alloc | apply pw_below_drewN | apply below_drew1) | exact HB.out)) hb); clear HO_0; clear HO_1; clear HO_53; clear HB; have HO_0 := n0_; have HO_1 := n1_; have HO_53 := n2_; have HB := n3_; clear n0_ n1_ n2_ n3_; (try clear hb); (try clear hb2); (try clear hk); (try clear hi)))
                    go_ret
                    exact ⟨by first | rfl | (simp [errW_none, errW_some] <;> rfl) | (simp [*, errW_none, errW_some] <;> rfl), by repeat (first | (with_reducible first | exact HB.out | apply below_alloc | apply pw_below_drewN | apply below_drew1) | exact HB.out)⟩
              · replace c58 := Bool.eq_false_iff.mpr c58
                subst c58
                have H1 : (if t156 = 1 then (some (!t155)) else (some false)) = some r := by rw [if_neg (show ¬ (false = true) by decide)] at H; exact H
                clear H
                have H := H1
                clear H1
                by_cases c73 : t156 = 1
                · rw [if_pos c73] at H
                  have c73b0 : (t156 == 1) = true := beq_iff_eq.mpr c73
                  have c73b1 : (t156 != 1) = false := bne_eq_false_iff_eq.mpr c73
                  clear c73
                  obtain rfl := Option.some.inj H
                  go_wp2_with (first | ((with_reducible refine gate_callee (f := 16) rfl ?_); refine goesL_ (some 66) rfl rfl Try.func16 (by kernel_rfl) rfl #[.slice Ao11 t145.length co11] rfl (by (try simp only [List.map_toArray, List.map_cons, List.map_nil]); first | done | rfl | (simp only [List.length_drop, List.length_take]; rfl)) ?_; (with_reducible refine (foghornref10_Right.calls _ _ t145 false _ ?side1 ?side2 A57.out).mono ?_); (case side1 => repeat (first | exact (Kd.R_reads' HO_0.out).2.2 | (with_reducible refine Kd.C_alloc ?_ _) | (with_reducible refine Kd.C_drewN ?_ _) | (with_reducible refine Kd.C_drew ?_))); (case side2 => exact (Kd.R_reads' HO_0.out).2.1); rintro e w74 ⟨rfl, hb⟩; refine ⟨_, rfl, ?_⟩; have n0_ := Aside0.mk (Kd.R_below (by (with_reducible repeat (first | apply Kd.R_alloc | apply Kd.R_drewN | apply Kd.R_drew)); exact HO_0.out) hb); have n1_ := Aside0.mk (Kd.R_below (by (with_reducible repeat (first | apply Kd.R_alloc | apply Kd.R_drewN | apply Kd.R_drew)); exact HO_1.out) hb); have n2_ := Aside0.mk (Kd.R_below (by (with_reducible repeat (first | apply Kd.R_alloc | apply Kd.R_drewN | apply Kd.R_drew)); exact HO_53.out) hb); have n3_ := Aside0.mk (below_step (by repeat (first | (with_reducible first | exact HB.out | apply below_alloc | apply pw_below_drewN | apply below_drew1) | exact HB.out)) hb); clear HO_0; clear HO_1; clear HO_53; clear HB; have HO_0 := n0_; have HO_1 := n1_; have HO_53 := n2_; have HB := n3_; clear n0_ n1_ n2_ n3_; (try clear hb); (try clear hb2); (try clear hk); (try clear hi)))
                  go_ret
                  exact ⟨by first | rfl | (simp [errW_none, errW_some] <;> rfl) | (simp [*, errW_none, errW_some] <;> rfl), by repeat (first | (with_reducible first | exact HB.out | apply below_alloc | apply pw_below_drewN | apply below_drew1) | exact HB.out)⟩
                · rw [if_neg c73] at H
                  have c73b0 : (t156 == 1) = false := beq_eq_false_iff_ne.mpr c73
                  have c73b1 : (t156 != 1) = true := bne_iff_ne.mpr c73
                  obtain rfl := Option.some.inj H
                  go_wp2_with (first | ((with_reducible refine gate_callee (f := 16) rfl ?_); refine goesL_ (some 66) rfl rfl Try.func16 (by kernel_rfl) rfl #[.slice Ao11 t145.length co11] rfl (by (try simp only [List.map_toArray, List.map_cons, List.map_nil]); first | done | rfl | (simp only [List.length_drop, List.length_take]; rfl)) ?_; (with_reducible refine (foghornref10_Right.calls _ _ t145 false _ ?side1 ?side2 A57.out).mono ?_); (case side1 => repeat (first | exact (Kd.R_reads' HO_0.out).2.2 | (with_reducible refine Kd.C_alloc ?_ _) | (with_reducible refine Kd.C_drewN ?_ _) | (with_reducible refine Kd.C_drew ?_))); (case side2 => exact (Kd.R_reads' HO_0.out).2.1); rintro e w75 ⟨rfl, hb⟩; refine ⟨_, rfl, ?_⟩; have n0_ := Aside0.mk (Kd.R_below (by (with_reducible repeat (first | apply Kd.R_alloc | apply Kd.R_drewN | apply Kd.R_drew)); exact HO_0.out) hb); have n1_ := Aside0.mk (Kd.R_below (by (with_reducible repeat (first | apply Kd.R_alloc | apply Kd.R_drewN | apply Kd.R_drew)); exact HO_1.out) hb); have n2_ := Aside0.mk (Kd.R_below (by (with_reducible repeat (first | apply Kd.R_alloc | apply Kd.R_drewN | apply Kd.R_drew)); exact HO_53.out) hb); have n3_ := Aside0.mk (below_step (by repeat (first | (with_reducible first | exact HB.out | apply below_alloc | apply pw_below_drewN | apply below_drew1) | exact HB.out)) hb); clear HO_0; clear HO_1; clear HO_53; clear HB; have HO_0 := n0_; have HO_1 := n1_; have HO_53 := n2_; have HB := n3_; clear n0_ n1_ n2_ n3_; (try clear hb); (try clear hb2); (try clear hk); (try clear hi)))
                  go_ret
                  exact ⟨by first | rfl | (simp [errW_none, errW_some] <;> rfl) | (simp [*, errW_none, errW_some] <;> rfl), by repeat (first | (with_reducible first | exact HB.out | apply below_alloc | apply pw_below_drewN | apply below_drew1) | exact HB.out)⟩

end Go.Proofs.YtndgollcganhmaaQ.P
