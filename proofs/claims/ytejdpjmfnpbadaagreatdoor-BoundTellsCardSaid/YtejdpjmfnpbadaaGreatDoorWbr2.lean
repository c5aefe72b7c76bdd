/- Part 2 of a proof: contracts and plain laws of what the statement reaches. No condition. -/
import Derived.ProofKit
import Derived.OpenShut
import Derived.SliceStrings
import Derived.Shelf.SlSortCmp.SmallK
import Derived.Shelf.Abstract
import Derived.Shelf.Strings.Builder1
import Derived.Shelf.Strings.Builder2
import Derived.Shelf.Small.Utf8
import Derived.Shelf.Small.Bits
import Derived.Shelf.Small.Strs
import Derived.Shelf.Small.Wraps
import Derived.Shelf.Strings.BuilderF
import Derived.Shelf.Strings.BuilderK
import Derived.Shelf.Utf8.RuneCount
import Derived.Shelf.Strings.Builder2Cap
import Derived.Shelf.Strconv.Atoi
import Derived.Shelf.Strconv.Itoa0
import Derived.Shelf.Strconv.Itoa1
import Derived.Shelf.LaysM
import Derived.Shelf.Strconv.Itoa2
import Derived.Shelf.Strconv.Itoa3
import Derived.Shelf.Strconv.AtoiErrFast
import Derived.Shelf.Strconv.ParseIntEmpty
import Derived.Shelf.Strconv.AtoiFail
import Derived.Shelf.Strconv.Clone
import Derived.Shelf.Strconv.SyntaxError
import Derived.Shelf.LaysC
import Derived.Shelf.Strconv.ToError
import Derived.Shelf.Strconv.AtoiErr
import Derived.Shelf.Strconv.ErrVar
import Derived.Shelf.Strconv.Lower
import Derived.Shelf.Strconv.ParseUint10
import Derived.Shelf.Strconv.ParseUint10Empty
import Derived.Shelf.Strconv.ParseUint10Any
import Derived.Shelf.Strconv.ParseInt10
import Derived.Shelf.Strconv.AtoiLong
import Derived.Shelf.Strconv.AtoiInnerAll
import Derived.Shelf.Strconv.RangeError
import Derived.Shelf.Strconv.ToErrorRange
import Derived.Shelf.Strconv.AtoiAll
import Derived.Shelf.Strconv.ErrVarAll
import Derived.Shelf.Strconv.ParseUintEmpty
import Derived.Shelf.Strconv.ParseUint10b64
import Derived.Shelf.Strconv.ParseUint10b32
import Derived.Shelf.Strconv.ParseUint10b16
import Derived.Shelf.Strconv.ParseUint10b8
import Derived.Shelf.Strconv.ParseUint10At
import Derived.Shelf.Strconv.ParseInt10At64
import Derived.Shelf.Strconv.ParseInt10At32
import Derived.Shelf.Strconv.ParseInt10At16
import Derived.Shelf.Strconv.ParseInt10At8
import Derived.Shelf.Strconv.ParseInt10All
import Derived.Shelf.Strings.Search1
import Derived.Shelf.Strings.Search2
import Derived.Shelf.Strings.Search3
import Derived.Shelf.Strings.Count
import Derived.Shelf.Strings.Shaped
import Derived.Shelf.Strings.Prefix
import Derived.Shelf.Strings.Split
import Derived.Shelf.Strings.SplitShaped
import Derived.Shelf.Unicode.Decode
import Derived.Shelf.Strings.Runes
import Derived.Shelf.Strings.RuneCount
import Derived.Shelf.Strings.IndexAny
import Derived.Shelf.Strings.AsciiSet
import Derived.Shelf.Strings.IndexAnyAll
import Derived.Shelf.Strings.Explode
import Derived.Shelf.Bits.Mul64
import Derived.Shelf.Strings.Repeat
import Derived.Shelf.Unicode.DecodeSlow
import Derived.Shelf.Unicode.DecodeAny
import Derived.Shelf.Strings.BuilderCap
import Derived.Shelf.Slices.Turned
import Derived.Ground.Names2Prog
import Derived.Shelf.Slices.SearchI
import Derived.Test.YtejdpjmfnpbadaaGreatDoorProg
import Derived.Lib.AtoiErrMem
import Derived.LoopTactic
import Derived.Outline
import Derived.Laws.RangeAny
import Derived.Laws.Runes
import Derived.WalkMore
import Derived.LoopN
import Derived.Deep.DeepCutAuto
import Derived.WideLaws
import Derived.Test.YtejdpjmfnpbadaaGreatDoorWbr1
set_option linter.unusedVariables false
set_option linter.unusedSimpArgs false
namespace Go.Proofs.YtejdpjmfnpbadaaGreatDoorQ.P
open Go.RowKit Go.Proofs.YtejdpjmfnpbadaaGreatDoorW.PrintWords Go.Proofs.YtejdpjmfnpbadaaGreatDoorW.PrintLast Go.Proofs.YtejdpjmfnpbadaaGreatDoorW.PrintMore
attribute [local go_sem] max2_int min2_int max_two min_two max_three min_three max_four min_four
def backoff_Right.f (a0_0 : Int) (a0_1 : Int) (a0_2 : Int) : Option (Bool) := (backoff_in.f a0_0 1 1048576).bind fun t271 => (if t271 = true then ((backoff_in.f a0_1 a0_0 1073741824).bind fun t272 => (if t272 = true then ((backoff_in.f a0_2 0 1048576).bind fun t273 => (some t273)) else (some false))) else (some false))
set_option maxHeartbeats 8000000 in
set_option maxRecDepth 100000 in
theorem backoff_Right.calls (a0_0 : Int) (a0_1 : Int) (a0_2 : Int) (r : Bool) (w : World) (h : backoff_Right.f a0_0 a0_1 a0_2 = some r) :
  Calls Tryz.prog 101 #[.agg #[.int .i64 a0_0, .int .i64 a0_1, .int .i64 a0_2]] w fun e w' => e = .returned (.bool r) ∧ Below w.heap.size w w' := by
 have hu39 := Tryz.underlying39
 have HB := aA (Below.refl w.heap.size w)
 have H : ((backoff_in.f a0_0 1 1048576).bind fun t271 => (if t271 = true then ((backoff_in.f a0_1 a0_0 1073741824).bind fun t272 => (if t272 = true then ((backoff_in.f a0_2 0 1048576).bind fun t273 => (some t273)) else (some false))) else (some false))) = some r := h
 clear h
 replace H := Option.bind_eq_some_iff.mp H
 obtain ⟨t271, A20, H⟩ := H
 have A2 := aA A20
 clear A20
 by_cases c3 : t271 = true
 ·subst c3
  have H1 : ((backoff_in.f a0_1 a0_0 1073741824).bind fun t272 => (if t272 = true then ((backoff_in.f a0_2 0 1048576).bind fun t273 => (some t273)) else (some false))) = some r := by rw [if_pos rfl] at H; exact H
  clear H
  have H := H1
  clear H1
  replace H := Option.bind_eq_some_iff.mp H
  obtain ⟨t272, A40, H⟩ := H
  have A4 := aA A40
  clear A40
  by_cases c5 : t272 = true
  ·subst c5
   have H1 : ((backoff_in.f a0_2 0 1048576).bind fun t273 => (some t273)) = some r := by rw [if_pos rfl] at H; exact H
   clear H
   have H := H1
   clear H1
   replace H := Option.bind_eq_some_iff.mp H
   obtain ⟨t273, A60, H⟩ := H
   have A6 := aA A60
   clear A60
   obtain rfl := Option.some.inj H
   go_enter Tryz.func101, Tryz.ntmps101
   go_wp2_with (first | ((with_reducible refine gate_dst (N := 1) rfl ?_); refine box_event ?hg (N := 1) ?hd (cs := #[.int .i64 a0_0, .int .i64 a0_1, .int .i64 a0_2]) (t := 39) ?hr ?_; (case hd => rfl); (case hg => rfl); (case hr => first | (go_simp; done) | (go_simp; rfl)); intro gb270 hg w7 hbox hb; have n0_ := aA (below_step mB hb); have n1_ := aA (hbox); have n2_ := aA ((bZ hg mB)); have n3_ := aA ((bZ hg mB)); clear HB; have HB := n0_; have BK270 := n1_; have GW270 := n2_; have GE270 := n3_; clear n0_ n1_ n2_ n3_ hb hbox hg; obtain ⟨hcz8_0, hcz8_1, hcz8_2⟩ := bC3 BK270.out; obtain ⟨hfz8_0, hfz8_1, hfz8_2⟩ := bF3 BK270.out) | ((with_reducible refine gate_callee (f := 163) rfl ?_); refine goesL_ (some 5) rfl rfl Tryz.func163 (by kernel_rfl) rfl #[.int .i64 a0_0, .int .i64 1, .int .i64 1048576] rfl mS ?_; (with_reducible refine (backoff_in.calls a0_0 1 1048576 true _ A2.out).mono ?_); rintro e w' ⟨rfl, ⟨nd, rfl⟩⟩; refine ⟨_, rfl, ?_⟩) | (go_at_call 163; (with_reducible refine (backoff_in.calls a0_1 a0_0 1073741824 true _ A4.out).mono ?_); rintro e w' ⟨rfl, ⟨nd, rfl⟩⟩) | (go_at_call 163; (with_reducible refine (backoff_in.calls a0_2 0 1048576 t273 _ A6.out).mono ?_); rintro e w' ⟨rfl, ⟨nd, rfl⟩⟩))
   go_ret
   exact ⟨by first | rfl | (simp [errW_none, errW_some] <;> rfl) | (simp [*, errW_none, errW_some] <;> rfl), by repeat (first | (with_reducible first | exact HB.out | apply below_alloc | apply pw_below_drewN | apply below_drew1 | refine below_set ?_ GE270.out) | exact HB.out)⟩
  ·replace c5 := Bool.eq_false_iff.mpr c5
   subst c5
   have H1 : (some false) = some r := by rw [if_neg (show ¬ (false = true) by decide)] at H; exact H
   clear H
   have H := H1
   clear H1
   obtain rfl := Option.some.inj H
   go_enter Tryz.func101, Tryz.ntmps101
   go_wp2_with (first | ((with_reducible refine gate_dst (N := 1) rfl ?_); refine box_event ?hg (N := 1) ?hd (cs := #[.int .i64 a0_0, .int .i64 a0_1, .int .i64 a0_2]) (t := 39) ?hr ?_; (case hd => rfl); (case hg => rfl); (case hr => first | (go_simp; done) | (go_simp; rfl)); intro gb270 hg w9 hbox hb; have n0_ := aA (below_step mB hb); have n1_ := aA (hbox); have n2_ := aA ((bZ hg mB)); have n3_ := aA ((bZ hg mB)); clear HB; have HB := n0_; have BK270 := n1_; have GW270 := n2_; have GE270 := n3_; clear n0_ n1_ n2_ n3_ hb hbox hg; obtain ⟨hcz10_0, hcz10_1, hcz10_2⟩ := bC3 BK270.out; obtain ⟨hfz10_0, hfz10_1, hfz10_2⟩ := bF3 BK270.out) | ((with_reducible refine gate_callee (f := 163) rfl ?_); refine goesL_ (some 5) rfl rfl Tryz.func163 (by kernel_rfl) rfl #[.int .i64 a0_0, .int .i64 1, .int .i64 1048576] rfl mS ?_; (with_reducible refine (backoff_in.calls a0_0 1 1048576 true _ A2.out).mono ?_); rintro e w' ⟨rfl, ⟨nd, rfl⟩⟩; refine ⟨_, rfl, ?_⟩) | (go_at_call 163; (with_reducible refine (backoff_in.calls a0_1 a0_0 1073741824 false _ A4.out).mono ?_); rintro e w' ⟨rfl, ⟨nd, rfl⟩⟩))
   go_ret
   exact ⟨by first | rfl | (simp [errW_none, errW_some] <;> rfl) | (simp [*, errW_none, errW_some] <;> rfl), by repeat (first | (with_reducible first | exact HB.out | apply below_alloc | apply pw_below_drewN | apply below_drew1 | refine below_set ?_ GE270.out) | exact HB.out)⟩
 ·replace c3 := Bool.eq_false_iff.mpr c3
  subst c3
  have H1 : (some false) = some r := by rw [if_neg (show ¬ (false = true) by decide)] at H; exact H
  clear H
  have H := H1
  clear H1
  obtain rfl := Option.some.inj H
  go_enter Tryz.func101, Tryz.ntmps101
  go_wp2_with (first | ((with_reducible refine gate_dst (N := 1) rfl ?_); refine box_event ?hg (N := 1) ?hd (cs := #[.int .i64 a0_0, .int .i64 a0_1, .int .i64 a0_2]) (t := 39) ?hr ?_; (case hd => rfl); (case hg => rfl); (case hr => first | (go_simp; done) | (go_simp; rfl)); intro gb270 hg w11 hbox hb; have n0_ := aA (below_step mB hb); have n1_ := aA (hbox); have n2_ := aA ((bZ hg mB)); have n3_ := aA ((bZ hg mB)); clear HB; have HB := n0_; have BK270 := n1_; have GW270 := n2_; have GE270 := n3_; clear n0_ n1_ n2_ n3_ hb hbox hg; obtain ⟨hcz12_0, hcz12_1, hcz12_2⟩ := bC3 BK270.out; obtain ⟨hfz12_0, hfz12_1, hfz12_2⟩ := bF3 BK270.out) | ((with_reducible refine gate_callee (f := 163) rfl ?_); refine goesL_ (some 5) rfl rfl Tryz.func163 (by kernel_rfl) rfl #[.int .i64 a0_0, .int .i64 1, .int .i64 1048576] rfl mS ?_; (with_reducible refine (backoff_in.calls a0_0 1 1048576 false _ A2.out).mono ?_); rintro e w' ⟨rfl, ⟨nd, rfl⟩⟩; refine ⟨_, rfl, ?_⟩))
  go_ret
  exact ⟨by first | rfl | (simp [errW_none, errW_some] <;> rfl) | (simp [*, errW_none, errW_some] <;> rfl), by repeat (first | (with_reducible first | exact HB.out | apply below_alloc | apply pw_below_drewN | apply below_drew1 | refine below_set ?_ GE270.out) | exact HB.out)⟩
end Go.Proofs.YtejdpjmfnpbadaaGreatDoorQ.P
namespace Go.Proofs.YtejdpjmfnpbadaaGreatDoor
open Go.RowKit Go.ChangeShapes Go.WideShapes Go.ChangeAt
theorem add_off (b o j : Nat) : (⟨b, o, none⟩ : Addr).add j = ⟨b, o + j, none⟩ := by unfold Addr.add; split <;> simp_all
section
variable {H : Type} {enc : TypeId × Value → H} {P : Program} {W : World} {r : Reach} {base bb : Nat} {spare : Nat → Bool} {held : Bool} {t e : TypeId} {v : Value} {d : DataW H} {p : List MemPlace}
theorem cell_spot {a : Addr} {u : Value} (h : W.cell? a = some u) : a.spot = none := by
  unfold World.cell? at h
  split at h
  · split at h
    · cases h
    · rename_i hs
      cases hsp : a.spot with
      | none => rfl
      | some x => simp [hsp] at hs
  · cases h
theorem sl_of_trod {sz : Nat} (ht : P.underlying t = some (.slice e)) (hsz : P.cellsOf e = sz) (h0 : 0 < sz) (h : DataW.Trod enc P W base spare held t v d p) (hv : ∃ a l c, v = .slice a l c) :
    ∃ n cells, SlAt W v sz n cells ∧ ∀ i, i < n → ∃ f y, DataW.trod enc P W base spare held f e ((cells.drop (i * sz)).take sz) = some y := by
  obtain ⟨a0, l0, c0, rfl⟩ := hv
  obtain ⟨fuel, hf⟩ := h
  rcases DataW.trod_slice ht hf with ⟨hcs, _⟩ | ⟨a, len, cap, elems, rest, n, _, hcs, _, hb, hl, hm, hlen, hel, _, _⟩
  · have hcs' : [Value.slice a0 l0 c0] = [.slice none 0 0] := hcs
    injection hcs' with e1 _
    injection e1 with e1 e2 e3
    subst e1 e2 e3
    exact ⟨0, [], SlAt.nil _ _, fun i hi => absurd hi (by omega)⟩
  · have hcs' : [Value.slice a0 l0 c0] = [.slice (some a) len cap] := hcs
    injection hcs' with e1 _
    injection e1 with e1 e2 e3
    subst e1 e2 e3
    rw [hsz] at hel
    have each : ∀ i, i < l0 → ∃ cs y, W.cells? base (a.add (i * sz)) sz = some cs ∧ DataW.trod enc P W base spare held n e cs = some y := by
      intro i hi
      have h1 := hel i hi
      rw [List.getElem?_eq_getElem (by omega)] at h1
      obtain ⟨cs, h2, h3⟩ := Option.bind_eq_some_iff.1 h1
      exact ⟨cs, _, h2, h3⟩
    have hadd : ∀ i j, (a.add i).add j = a.add (i + j) := by
      intro i j
      unfold Addr.add
      by_cases h1 : i = 0 <;> by_cases h2 : j = 0 <;> simp [h1, h2, Nat.add_assoc]
    have hcell : ∀ j, j < l0 * sz → ∃ u, W.cell? (a.add j) = some u := by
      intro j hj
      have hi : j / sz < l0 := (Nat.div_lt_iff_lt_mul h0).2 hj
      obtain ⟨cs, y, h2, _⟩ := each (j / sz) hi
      obtain ⟨_, h4, h5⟩ := World.cells?_some h2
      have hr : j % sz < sz := Nat.mod_lt _ h0
      have h6 := h5 (j % sz) hr
      rw [hadd, Nat.div_add_mod' j sz] at h6
      exact ⟨_, h6.trans (List.getElem?_eq_getElem (by omega))⟩
    have hj' : ∀ j, j < l0 * sz → W.cell? (a.add j) = some ((W.cell? (a.add j)).getD undef) := by
      intro j hj
      obtain ⟨u, hu⟩ := hcell j hj
      rw [hu]
      rfl
    refine ⟨l0, (List.range (l0 * sz)).map fun j => (W.cell? (a.add j)).getD undef, ⟨by simp, some a, c0, rfl, hl, by omega, ?_⟩, ?_⟩
    · rcases Nat.eq_zero_or_pos l0 with hz | hz
      · exact .inl hz
      · right
        obtain ⟨u, hu⟩ := hcell 0 (Nat.mul_pos hz h0)
        have hsp := cell_spot hu
        have ha0 : a.add 0 = a := by simp [Addr.add]
        rw [ha0] at hsp hu
        obtain ⟨b, o, s⟩ := a
        simp only at hsp
        subst hsp
        refine ⟨b, o, rfl, World.block_lt_of_cell? W _ hu, fun j u' hu' => ?_⟩
        rw [List.getElem?_map] at hu'
        obtain ⟨k, hk, rfl⟩ := Option.map_eq_some_iff.1 hu'
        obtain ⟨hk1, hk2⟩ := List.getElem?_eq_some_iff.1 hk
        rw [List.getElem_range] at hk2
        subst hk2
        rw [List.length_range] at hk1
        have := hj' j hk1
        rw [add_off] at this ⊢
        exact this
    · intro i hi
      obtain ⟨cs, y, h2, h3⟩ := each i hi
      obtain ⟨_, h4, h5⟩ := World.cells?_some h2
      refine ⟨n, y, ?_⟩
      have hchunk : (((List.range (l0 * sz)).map fun j => (W.cell? (a.add j)).getD undef).drop (i * sz)).take sz = cs := by
        have hle : i * sz + sz ≤ l0 * sz := by rw [← Nat.succ_mul]; exact Nat.mul_le_mul_right _ hi
        apply List.ext_getElem
        · simp only [List.length_take, List.length_drop, List.length_map, List.length_range]
          omega
        · intro j h6 h7
          simp only [List.length_take, List.length_drop, List.length_map, List.length_range] at h6
          simp only [List.getElem_take, List.getElem_drop, List.getElem_map, List.getElem_range]
          have h8 := h5 j (by omega)
          rw [hadd] at h8
          rw [h8, List.getElem?_eq_getElem h7]
          rfl
      rw [hchunk]
      exact h3
theorem slice_of_trod {u : Value} {fuel : Nat} {x : DataW H × List MemPlace} (ht : P.underlying t = some (.slice e)) (h : DataW.trod enc P W base spare held fuel t [u] = some x) : (∃ a l c, u = .slice a l c) ∧ DataW.Trod enc P W base spare held t u x.1 x.2 := by
  have hu : ∃ a l c, u = .slice a l c := by
    rcases DataW.trod_slice ht h with ⟨hcs, _⟩ | ⟨a, len, cap, elems, rest, n, _, hcs, _⟩
    · injection hcs with e1 _
      exact ⟨_, _, _, e1⟩
    · injection hcs with e1 _
      exact ⟨_, _, _, e1⟩
  refine ⟨hu, ?_⟩
  obtain ⟨a, l, c, rfl⟩ := hu
  exact ⟨fuel, h⟩
end
end Go.Proofs.YtejdpjmfnpbadaaGreatDoor
namespace Go.Proofs.YtejdpjmfnpbadaaGreatDoor
open Go.RowKit Go.Proofs.YtejdpjmfnpbadaaGreatDoorW.PrintWords
theorem flat_get? {α : Type} {en : α → List Value} {sz : Nat} (hsz : ∀ x, (en x).length = sz) (h0 : 0 < sz) (xs : List α) (t : Nat) (u : Value) (hu : (xs.flatMap en)[t]? = some u) :
    ∃ h : t / sz < xs.length, (en xs[t / sz])[t % sz]? = some u := by
  have hl : t < (xs.flatMap en).length := (List.getElem?_eq_some_iff.1 hu).1
  rw [flat_len hsz] at hl
  have h1 : t / sz < xs.length := (Nat.div_lt_iff_lt_mul h0).2 hl
  refine ⟨h1, ?_⟩
  have := flat_get hsz xs (t / sz) (t % sz) h1 (Nat.mod_lt _ h0)
  rw [Nat.div_add_mod'] at this
  rw [← this, hu]
section
variable {α β : Type} {d : Kd α} {en : β → List Value} {f : α → β} {w W : World} {A : Option Addr} {c g cap n sz B : Nat} {e : TypeId} {xs : List α} {cells : List Value} {v : Value}
theorem slat_of_C (hK : ∀ {w : World} {x : α} {cs : List Value}, d.K w x cs → cs = en (f x)) (hsz : ∀ y, (en y).length = d.sz) (h0 : 0 < d.sz) (h : d.C w A xs.length xs) (hc : xs.length ≤ c) :
    SlAt w (.slice A xs.length c) d.sz xs.length ((xs.map f).flatMap en) := by
  obtain ⟨_, hm, hr⟩ := h
  refine ⟨by rw [flat_len hsz, List.length_map], A, c, rfl, hc, by unfold maxLen; omega, ?_⟩
  rcases Nat.eq_zero_or_pos xs.length with hz | hz
  · exact .inl hz
  · right
    obtain ⟨ad, rfl, hcell⟩ := hr hz
    have hget : ∀ t u, ((xs.map f).flatMap en)[t]? = some u → w.cell? (ad.add t) = some u := by
      intro t u hu
      obtain ⟨h1, h2⟩ := flat_get? hsz h0 _ t u hu
      rw [List.length_map] at h1
      obtain ⟨cs, _, hk, hcs⟩ := hcell (t / d.sz) xs[t / d.sz] (List.getElem?_eq_getElem h1)
      have := hcs (t % d.sz) u (by rw [hK hk]; simpa using h2)
      rwa [Nat.div_add_mod'] at this
    have hfl : 0 < ((xs.map f).flatMap en).length := by rw [flat_len hsz, List.length_map]; exact Nat.mul_pos hz h0
    have h1 := hget 0 _ (List.getElem?_eq_getElem hfl)
    have ha0 : ad.add 0 = ad := by simp [Addr.add]
    rw [ha0] at h1
    have hsp := cell_spot h1
    obtain ⟨b, o, s⟩ := ad
    simp only at hsp
    subst hsp
    refine ⟨b, o, rfl, World.block_lt_of_cell? _ _ h1, fun j u hu => ?_⟩
    have := hget j u hu
    rwa [add_off] at this
theorem R_of_own {g : β → α} (hM : ∀ (w : World) (b : Nat) (ok : Nat → Prop) (y : β), d.M w b ok (g y) (en y)) (hsz : ∀ y, (en y).length = d.sz) {ys : List β} (h : w.ownsRow B e d.sz v ys.length (ys.flatMap en)) :
    d.R e w B (fun _ => True) v (ys.map g) := by
  refine ⟨fun _ _ => trivial, ys.flatMap en, by rw [List.length_map]; exact h, by rw [flat_len hsz, List.length_map], fun j p hj => ?_⟩
  rw [List.getElem?_map] at hj
  obtain ⟨y, hy, rfl⟩ := Option.map_eq_some_iff.1 hj
  obtain ⟨hj1, hj2⟩ := List.getElem?_eq_some_iff.1 hy
  have : ((ys.flatMap en).drop (j * d.sz)).take d.sz = en y := by
    apply List.ext_getElem?
    intro i
    rw [List.getElem?_take]
    split
    · rename_i hi
      rw [List.getElem?_drop, flat_get hsz ys j i hj1 hi, hj2]
    · rename_i hi
      rw [List.getElem?_eq_none (by rw [hsz]; omega)]
  rw [this]
  exact hM _ _ _ _
end
end Go.Proofs.YtejdpjmfnpbadaaGreatDoor
namespace Go.Proofs.YtejdpjmfnpbadaaGreatDoorQ.P
open Go.RowKit Go.Proofs.YtejdpjmfnpbadaaGreatDoorW.PrintWords Go.Proofs.YtejdpjmfnpbadaaGreatDoor
theorem if_some {α : Type} {b : Bool} {x y : α} (h : (if b = true then some x else none) = some y) : b = true ∧ x = y := by
  split at h
  · exact ⟨‹_›, Option.some.inj h⟩
  · cases h
end Go.Proofs.YtejdpjmfnpbadaaGreatDoorQ.P
namespace Go.Proofs.YtejdpjmfnpbadaaGreatDoorQ.P
open Go.RowKit Go.Proofs.YtejdpjmfnpbadaaGreatDoorW.PrintWords Go.Proofs.YtejdpjmfnpbadaaGreatDoor
def toMat (x : S173) : Mat := ⟨x.f0, x.f1, x.f2⟩
def ofMat (x : Mat) : S173 := ⟨x.kind, x.name, x.value⟩
theorem mats_c {w : World} {A : Option Addr} {c : Nat} {xs : List S173} (h : Kd.C k173 w A xs.length xs) (hc : xs.length ≤ c) : SlAt w (.slice A xs.length c) 3 (xs.map toMat).length (matsC (xs.map toMat)) := by
  rw [List.length_map]
  exact slat_of_C (f := toMat) (en := matC) (fun h => k173_open h) (fun _ => rfl) (by decide) h hc
def matOkB (x : S173) : Bool := decide (x.f1.size ≤ maxLen) && decide (x.f2.size ≤ maxLen)
def matsOkB (xs : List S173) : Bool := xs.all matOkB
theorem mats_ok {xs : List S173} (h : matsOkB xs = true) : MatsOk (xs.map toMat) := by
  intro x hx
  obtain ⟨y, hy, rfl⟩ := List.mem_map.1 hx
  have := List.all_eq_true.1 h y hy
  simp only [matOkB, Bool.and_eq_true, decide_eq_true_eq] at this
  exact this
def label_Matcher.f (a0_0 : Int) (a0_1 : ByteArray) (a0_2 : ByteArray) : Option (Bool) := if matOkB ⟨a0_0, a0_1, a0_2⟩ = true then some (matB ⟨a0_0, a0_1, a0_2⟩) else none
theorem label_Matcher.calls (a0_0 : Int) (a0_1 : ByteArray) (a0_2 : ByteArray) (r : Bool) (w : World) (h : label_Matcher.f a0_0 a0_1 a0_2 = some r) :
    Calls Tryz.prog 100 #[.agg #[.int .i64 a0_0, .string a0_1, .string a0_2]] w fun e w' => e = .returned (.bool r) ∧ Below w.heap.size w w' := by
  obtain ⟨h1, rfl⟩ := if_some h
  simp only [matOkB, Bool.and_eq_true, decide_eq_true_eq] at h1
  exact matcher_any ⟨a0_0, a0_1, a0_2⟩ w h1.1 h1.2
end Go.Proofs.YtejdpjmfnpbadaaGreatDoorQ.P
namespace Go.Proofs.YtejdpjmfnpbadaaGreatDoorQ.P
open Go.RowKit Go.Proofs.YtejdpjmfnpbadaaGreatDoorW.PrintWords Go.Proofs.YtejdpjmfnpbadaaGreatDoorW.PrintLast Go.Proofs.YtejdpjmfnpbadaaGreatDoorW.PrintMore
attribute [local go_sem] max2_int min2_int max_two min_two max_three min_three max_four min_four
def config_isReceiver.f (k : Nat) (a0_0 : ByteArray) (a0_1 : Int) (a0_2 : Int) (a0_3 : Int) (a0_4 : Int) (a0_5 : Int) (a0_6 : Int) (a0_7 : Int) (a0_8 : Int) : Option (Bool) := (breaker_New.f k a0_5 a0_6).bind fun bt275 => ((bucket_New.f a0_7 a0_8 0 0).bind fun bt282 => ((label_Matcher.f 3 a0_0 (⟨#[]⟩ : ByteArray)).bind fun t288 => (if t288 = true then (if a0_0.toList = ([105, 102] : List UInt8) then (some false) else ((backoff_Right.f a0_1 a0_2 a0_3).bind fun t289 => (if t289 = true then (if a0_4 ≥ 1 then (if a0_4 ≤ 100 then (if bt275.2.2.2.2.2 = 0 then (some (bt282.2.2.2.2 == 0)) else (some false)) else (some false)) else (some false)) else (some false)))) else (some false))))
set_option maxHeartbeats 8000000 in
set_option maxRecDepth 100000 in
theorem config_isReceiver.calls (k : Nat) (a0_0 : ByteArray) (a0_1 : Int) (a0_2 : Int) (a0_3 : Int) (a0_4 : Int) (a0_5 : Int) (a0_6 : Int) (a0_7 : Int) (a0_8 : Int) (r : Bool) (w : World) (h : config_isReceiver.f k a0_0 a0_1 a0_2 a0_3 a0_4 a0_5 a0_6 a0_7 a0_8 = some r) :
  Calls Tryz.prog 50 #[.agg #[.string a0_0, .int .i64 a0_1, .int .i64 a0_2, .int .i64 a0_3, .int .i64 a0_4, .int .i64 a0_5, .int .i64 a0_6, .int .i64 a0_7, .int .i64 a0_8]] w fun e w' => e = .returned (.bool r) ∧ Below w.heap.size w w' := by
 have hu41 := Tryz.underlying41
 have hu85 := Tryz.underlying85
 have hu87 := Tryz.underlying87
 have hu173 := Tryz.underlying173
 have hu39 := Tryz.underlying39
 have HB := aA (Below.refl w.heap.size w)
 have H : ((breaker_New.f k a0_5 a0_6).bind fun bt275 => ((bucket_New.f a0_7 a0_8 0 0).bind fun bt282 => ((label_Matcher.f 3 a0_0 (⟨#[]⟩ : ByteArray)).bind fun t288 => (if t288 = true then (if a0_0.toList = ([105, 102] : List UInt8) then (some false) else ((backoff_Right.f a0_1 a0_2 a0_3).bind fun t289 => (if t289 = true then (if a0_4 ≥ 1 then (if a0_4 ≤ 100 then (if bt275.2.2.2.2.2 = 0 then (some (bt282.2.2.2.2 == 0)) else (some false)) else (some false)) else (some false)) else (some false)))) else (some false))))) = some r := h
 clear h
 replace H := Option.bind_eq_some_iff.mp H
 obtain ⟨⟨t275, t276, t277, t278, t279, t280⟩, A20, H⟩ := H
 have A2 := aA A20
 clear A20
 replace H := Option.bind_eq_some_iff.mp H
 obtain ⟨⟨t282, t283, t284, t285, t286⟩, A30, H⟩ := H
 have A3 := aA A30
 clear A30
 replace H := Option.bind_eq_some_iff.mp H
 obtain ⟨t288, A40, H⟩ := H
 have A4 := aA A40
 clear A40
 by_cases c5 : t288 = true
 ·subst c5
  have H1 : (if a0_0.toList = ([105, 102] : List UInt8) then (some false) else ((backoff_Right.f a0_1 a0_2 a0_3).bind fun t289 => (if t289 = true then (if a0_4 ≥ 1 then (if a0_4 ≤ 100 then (if t280 = 0 then (some (t286 == 0)) else (some false)) else (some false)) else (some false)) else (some false)))) = some r := by rw [if_pos rfl] at H; exact H
  clear H
  have H := H1
  clear H1
  by_cases c6 : a0_0.toList = ([105, 102] : List UInt8)
  ·rw [if_pos c6] at H
   have c6b0 : (a0_0.toList == ([105, 102] : List UInt8)) = true := beq_iff_eq.mpr c6
   have c6b1 : (a0_0.toList != ([105, 102] : List UInt8)) = false := bne_eq_false_iff_eq.mpr c6
   clear c6
   obtain rfl := Option.some.inj H
   go_enter Tryz.func50, Tryz.ntmps50
   go_wp2_with (first | ((with_reducible refine gate_dst (N := 1) rfl ?_); refine box_event ?hg (N := 1) ?hd (cs := #[.string a0_0, .int .i64 a0_1, .int .i64 a0_2, .int .i64 a0_3, .int .i64 a0_4, .int .i64 a0_5, .int .i64 a0_6, .int .i64 a0_7, .int .i64 a0_8]) (t := 41) ?hr ?_; (case hd => rfl); (case hg => rfl); (case hr => first | (go_simp; done) | (go_simp; rfl)); intro gb274 hg w7 hbox hb; have n0_ := aA (below_step mB hb); have n1_ := aA (hbox); have n2_ := aA ((bZ hg mB)); have n3_ := aA ((bZ hg mB)); clear HB; have HB := n0_; have BK274 := n1_; have GW274 := n2_; have GE274 := n3_; clear n0_ n1_ n2_ n3_ hb hbox hg; obtain ⟨hcz8_0, hcz8_1, hcz8_2, hcz8_3, hcz8_4, hcz8_5, hcz8_6, hcz8_7, hcz8_8⟩ := bC9 BK274.out; obtain ⟨hfz8_0, hfz8_1, hfz8_2, hfz8_3, hfz8_4, hfz8_5, hfz8_6, hfz8_7, hfz8_8⟩ := bF9 BK274.out) | ((with_reducible refine gate_callee (f := 67) rfl ?_); refine goesL_ (some 13) rfl rfl Tryz.func67 (by kernel_rfl) rfl #[.int .i64 a0_5, .int .i64 a0_6] rfl mS ?_; (with_reducible refine (breaker_New.calls k a0_5 a0_6 t275 t276 t277 t278 t279 t280 _ A2.out).mono ?_); rintro e w9 ⟨rfl, hb⟩; refine ⟨_, rfl, ?_⟩; have n0_ := aA (bB BK274.out hb); have n1_ := aA (below_step (mD1 GE274.out) hb); clear BK274 HB; have BK274 := n0_; have HB := n1_; clear n0_ n1_; (try clear hb); (try clear hb2); (try clear hk); (try clear hi)) | ((with_reducible refine gate_dst (N := 3) rfl ?_); refine box_event ?hg (N := 3) ?hd (cs := #[.int .i64 0, .int .i64 0, .int .i64 0, .int .i64 0, .int .i64 0]) (t := 85) ?hr ?_; (case hd => rfl); (case hg => rfl); (case hr => first | (go_simp; done) | (go_simp; rfl)); intro gb281 hg w10 hbox hb; have n0_ := aA (bB BK274.out hb); have n1_ := aA (below_step (mD1 GE274.out) hb); have n2_ := aA (hbox); have n3_ := aA ((bZ hg (mD1 GE274.out))); have n4_ := aA ((bZ hg (mD1 GE274.out))); have n5_ := aA ((bL hg BK274.out)); have n6_ := aA ((bG hg BK274.out)); clear BK274 HB; have BK274 := n0_; have HB := n1_; have BK281 := n2_; have GW281 := n3_; have GE281 := n4_; have NB274_281 := n5_; have NB281_274 := n6_; clear n0_ n1_ n2_ n3_ n4_ n5_ n6_ hb hbox hg; have hnb11 := NB281_274.out; have hnc11 := NB274_281.out; obtain ⟨hcz12_0, hcz12_1, hcz12_2, hcz12_3, hcz12_4⟩ := bC5 BK281.out; obtain ⟨hfz12_0, hfz12_1, hfz12_2, hfz12_3, hfz12_4⟩ := bF5 BK281.out; obtain ⟨hcz13_0, hcz13_1, hcz13_2, hcz13_3, hcz13_4, hcz13_5, hcz13_6, hcz13_7, hcz13_8⟩ := bC9 BK274.out; obtain ⟨hfz13_0, hfz13_1, hfz13_2, hfz13_3, hfz13_4, hfz13_5, hfz13_6, hfz13_7, hfz13_8⟩ := bF9 BK274.out) | ((with_reducible refine gate_callee (f := 68) rfl ?_); refine goesL_ (some 21) rfl rfl Tryz.func68 (by kernel_rfl) rfl #[.int .i64 a0_7, .int .i64 a0_8, .int .i64 0, .int .i64 0] rfl mS ?_; (with_reducible refine (bucket_New.calls a0_7 a0_8 0 0 t282 t283 t284 t285 t286 _ A3.out).mono ?_); rintro e w14 ⟨rfl, hb⟩; refine ⟨_, rfl, ?_⟩; have n0_ := aA (blk_below (g := gb274) (o := .cells #[.string a0_0, .int .i64 a0_1, .int .i64 a0_2, .int .i64 a0_3, .int .i64 a0_4, .int .i64 a0_5, .int .i64 a0_6, .int .i64 a0_7, .int .i64 a0_8] 41 (0, 0)) (by (with_reducible repeat (first | refine blk_drewN ?_ _ | refine blk_drew ?_ | refine blk_alloc ?_ _)); refine blk_far ?_ NB274_281.out _; (with_reducible repeat (first | refine blk_drewN ?_ _ | refine blk_drew ?_ | refine blk_alloc ?_ _)); refine blk_far ?_ NB274_281.out _; (with_reducible repeat (first | refine blk_drewN ?_ _ | refine blk_drew ?_ | refine blk_alloc ?_ _)); refine blk_far ?_ NB274_281.out _; (with_reducible repeat (first | refine blk_drewN ?_ _ | refine blk_drew ?_ | refine blk_alloc ?_ _)); refine blk_far ?_ NB274_281.out _; (with_reducible repeat (first | refine blk_drewN ?_ _ | refine blk_drew ?_ | refine blk_alloc ?_ _)); refine blk_far ?_ NB274_281.out _; (with_reducible repeat (first | refine blk_drewN ?_ _ | refine blk_drew ?_ | refine blk_alloc ?_ _)); exact BK274.out) hb); have n1_ := aA (blk_below (g := gb281) (o := .cells #[.int .i64 t275, .int .i64 t276, .int .i64 t277, .int .i64 t278, .int .i64 t279] 85 (0, 0)) (by (with_reducible repeat (first | refine blk_drewN ?_ _ | refine blk_drew ?_ | refine blk_alloc ?_ _)); have h_ := BK281.out; exact pK 4 (pK 3 (pK 2 (pK 1 (pK 0 (h_)))))) hb); have n2_ := aA (below_step (mD2 GE274.out GE281.out) hb); clear BK274 BK281 HB; have BK274 := n0_; have BK281 := n1_; have HB := n2_; clear n0_ n1_ n2_; (try clear hb); (try clear hb2); (try clear hk); (try clear hi)) | ((with_reducible refine gate_dst (N := 5) rfl ?_); refine box_event ?hg (N := 5) ?hd (cs := #[.int .i64 0, .int .i64 0, .int .i64 0, .int .i64 0]) (t := 87) ?hr ?_; (case hd => rfl); (case hg => rfl); (case hr => first | (go_simp; done) | (go_simp; rfl)); intro gb287 hg w15 hbox hb; have n0_ := aA (bB BK274.out hb); have n1_ := aA (bB BK281.out hb); have n2_ := aA (below_step (mD2 GE274.out GE281.out) hb); have n3_ := aA (hbox); have n4_ := aA ((bZ hg (mD2 GE274.out GE281.out))); have n5_ := aA ((bZ hg (mD2 GE274.out GE281.out))); have n6_ := aA ((bL hg BK274.out)); have n7_ := aA ((bG hg BK274.out)); have n8_ := aA ((bL hg BK281.out)); have n9_ := aA ((bG hg BK281.out)); clear BK274 BK281 HB; have BK274 := n0_; have BK281 := n1_; have HB := n2_; have BK287 := n3_; have GW287 := n4_; have GE287 := n5_; have NB274_287 := n6_; have NB287_274 := n7_; have NB281_287 := n8_; have NB287_281 := n9_; clear n0_ n1_ n2_ n3_ n4_ n5_ n6_ n7_ n8_ n9_ hb hbox hg; have hnb16 := NB287_274.out; have hnc16 := NB274_287.out; have hnb17 := NB287_281.out; have hnc17 := NB281_287.out; obtain ⟨hcz18_0, hcz18_1, hcz18_2, hcz18_3⟩ := bC4 BK287.out; obtain ⟨hfz18_0, hfz18_1, hfz18_2, hfz18_3⟩ := bF4 BK287.out; obtain ⟨hcz19_0, hcz19_1, hcz19_2, hcz19_3, hcz19_4, hcz19_5, hcz19_6, hcz19_7, hcz19_8⟩ := bC9 BK274.out; obtain ⟨hfz19_0, hfz19_1, hfz19_2, hfz19_3, hfz19_4, hfz19_5, hfz19_6, hfz19_7, hfz19_8⟩ := bF9 BK274.out) | ((with_reducible refine gate_callee (f := 100) rfl ?_); refine goesL_ (some 27) rfl rfl Tryz.func100 (by kernel_rfl) rfl #[.agg #[.int .i64 3, .string a0_0, .string (⟨#[]⟩ : ByteArray)]] rfl mS ?_; (with_reducible refine (label_Matcher.calls 3 a0_0 (⟨#[]⟩ : ByteArray) true _ A4.out).mono ?_); rintro e w20 ⟨rfl, hb⟩; refine ⟨_, rfl, ?_⟩; have n0_ := aA (blk_below (g := gb274) (o := .cells #[.string a0_0, .int .i64 a0_1, .int .i64 a0_2, .int .i64 a0_3, .int .i64 a0_4, .int .i64 a0_5, .int .i64 a0_6, .int .i64 a0_7, .int .i64 a0_8] 41 (0, 0)) (by (with_reducible repeat (first | refine blk_drewN ?_ _ | refine blk_drew ?_ | refine blk_alloc ?_ _)); refine blk_far ?_ NB274_287.out _; (with_reducible repeat (first | refine blk_drewN ?_ _ | refine blk_drew ?_ | refine blk_alloc ?_ _)); refine blk_far ?_ NB274_287.out _; (with_reducible repeat (first | refine blk_drewN ?_ _ | refine blk_drew ?_ | refine blk_alloc ?_ _)); refine blk_far ?_ NB274_287.out _; (with_reducible repeat (first | refine blk_drewN ?_ _ | refine blk_drew ?_ | refine blk_alloc ?_ _)); refine blk_far ?_ NB274_287.out _; (with_reducible repeat (first | refine blk_drewN ?_ _ | refine blk_drew ?_ | refine blk_alloc ?_ _)); exact BK274.out) hb); have n1_ := aA (blk_below (g := gb281) (o := .cells #[.int .i64 t275, .int .i64 t276, .int .i64 t277, .int .i64 t278, .int .i64 t279] 85 (0, 0)) (by (with_reducible repeat (first | refine blk_drewN ?_ _ | refine blk_drew ?_ | refine blk_alloc ?_ _)); refine blk_far ?_ NB281_287.out _; (with_reducible repeat (first | refine blk_drewN ?_ _ | refine blk_drew ?_ | refine blk_alloc ?_ _)); refine blk_far ?_ NB281_287.out _; (with_reducible repeat (first | refine blk_drewN ?_ _ | refine blk_drew ?_ | refine blk_alloc ?_ _)); refine blk_far ?_ NB281_287.out _; (with_reducible repeat (first | refine blk_drewN ?_ _ | refine blk_drew ?_ | refine blk_alloc ?_ _)); refine blk_far ?_ NB281_287.out _; (with_reducible repeat (first | refine blk_drewN ?_ _ | refine blk_drew ?_ | refine blk_alloc ?_ _)); exact BK281.out) hb); have n2_ := aA (blk_below (g := gb287) (o := .cells #[.int .i64 t282, .int .i64 t283, .int .i64 t284, .int .i64 t285] 87 (0, 0)) (by (with_reducible repeat (first | refine blk_drewN ?_ _ | refine blk_drew ?_ | refine blk_alloc ?_ _)); have h_ := BK287.out; exact pK 3 (pK 2 (pK 1 (pK 0 (h_))))) hb); have n3_ := aA (below_step (mD3 GE274.out GE281.out GE287.out) hb); clear BK274 BK281 BK287 HB; have BK274 := n0_; have BK281 := n1_; have BK287 := n2_; have HB := n3_; clear n0_ n1_ n2_ n3_; (try clear hb); (try clear hb2); (try clear hk); (try clear hi); obtain ⟨hcz21_0, hcz21_1, hcz21_2, hcz21_3, hcz21_4, hcz21_5, hcz21_6, hcz21_7, hcz21_8⟩ := bC9 BK274.out; obtain ⟨hfz21_0, hfz21_1, hfz21_2, hfz21_3, hfz21_4, hfz21_5, hfz21_6, hfz21_7, hfz21_8⟩ := bF9 BK274.out))
   go_ret
   exact ⟨by first | rfl | (simp [errW_none, errW_some] <;> rfl) | (simp [*, errW_none, errW_some] <;> rfl), by repeat (first | (with_reducible first | exact HB.out | apply below_alloc | apply pw_below_drewN | apply below_drew1 | refine below_set ?_ GE274.out | refine below_set ?_ GE281.out | refine below_set ?_ GE287.out) | exact HB.out)⟩
  ·rw [if_neg c6] at H
   have c6b0 : (a0_0.toList == ([105, 102] : List UInt8)) = false := beq_eq_false_iff_ne.mpr c6
   have c6b1 : (a0_0.toList != ([105, 102] : List UInt8)) = true := bne_iff_ne.mpr c6
   replace H := Option.bind_eq_some_iff.mp H
   obtain ⟨t289, A220, H⟩ := H
   have A22 := aA A220
   clear A220
   by_cases c23 : t289 = true
   ·subst c23
    have H1 : (if a0_4 ≥ 1 then (if a0_4 ≤ 100 then (if t280 = 0 then (some (t286 == 0)) else (some false)) else (some false)) else (some false)) = some r := by rw [if_pos rfl] at H; exact H
    clear H
    have H := H1
    clear H1
    by_cases c24 : a0_4 ≥ 1
    ·rw [if_pos c24] at H
     have c24b0 : decide (1 ≤ a0_4) = true := decide_eq_true c24
     clear c24
     by_cases c25 : a0_4 ≤ 100
     ·rw [if_pos c25] at H
      have c25b0 : decide (a0_4 ≤ 100) = true := decide_eq_true c25
      clear c25
      by_cases c26 : t280 = 0
      ·rw [if_pos c26] at H
       have c26b0 : (t280 == 0) = true := beq_iff_eq.mpr c26
       have c26b1 : (t280 != 0) = false := bne_eq_false_iff_eq.mpr c26
       clear c26
       obtain rfl := Option.some.inj H
       go_enter Tryz.func50, Tryz.ntmps50
       go_wp2_with (first | ((with_reducible refine gate_dst (N := 1) rfl ?_); refine box_event ?hg (N := 1) ?hd (cs := #[.string a0_0, .int .i64 a0_1, .int .i64 a0_2, .int .i64 a0_3, .int .i64 a0_4, .int .i64 a0_5, .int .i64 a0_6, .int .i64 a0_7, .int .i64 a0_8]) (t := 41) ?hr ?_; (case hd => rfl); (case hg => rfl); (case hr => first | (go_simp; done) | (go_simp; rfl)); intro gb274 hg w27 hbox hb; have n0_ := aA (below_step mB hb); have n1_ := aA (hbox); have n2_ := aA ((bZ hg mB)); have n3_ := aA ((bZ hg mB)); clear HB; have HB := n0_; have BK274 := n1_; have GW274 := n2_; have GE274 := n3_; clear n0_ n1_ n2_ n3_ hb hbox hg; obtain ⟨hcz28_0, hcz28_1, hcz28_2, hcz28_3, hcz28_4, hcz28_5, hcz28_6, hcz28_7, hcz28_8⟩ := bC9 BK274.out; obtain ⟨hfz28_0, hfz28_1, hfz28_2, hfz28_3, hfz28_4, hfz28_5, hfz28_6, hfz28_7, hfz28_8⟩ := bF9 BK274.out) | ((with_reducible refine gate_callee (f := 67) rfl ?_); refine goesL_ (some 13) rfl rfl Tryz.func67 (by kernel_rfl) rfl #[.int .i64 a0_5, .int .i64 a0_6] rfl mS ?_; (with_reducible refine (breaker_New.calls k a0_5 a0_6 t275 t276 t277 t278 t279 t280 _ A2.out).mono ?_); rintro e w29 ⟨rfl, hb⟩; refine ⟨_, rfl, ?_⟩; have n0_ := aA (bB BK274.out hb); have n1_ := aA (below_step (mD1 GE274.out) hb); clear BK274 HB; have BK274 := n0_; have HB := n1_; clear n0_ n1_; (try clear hb); (try clear hb2); (try clear hk); (try clear hi)) | ((with_reducible refine gate_dst (N := 3) rfl ?_); refine box_event ?hg (N := 3) ?hd (cs := #[.int .i64 0, .int .i64 0, .int .i64 0, .int .i64 0, .int .i64 0]) (t := 85) ?hr ?_; (case hd => rfl); (case hg => rfl); (case hr => first | (go_simp; done) | (go_simp; rfl)); intro gb281 hg w30 hbox hb; have n0_ := aA (bB BK274.out hb); have n1_ := aA (below_step (mD1 GE274.out) hb); have n2_ := aA (hbox); have n3_ := aA ((bZ hg (mD1 GE274.out))); have n4_ := aA ((bZ hg (mD1 GE274.out))); have n5_ := aA ((bL hg BK274.out)); have n6_ := aA ((bG hg BK274.out)); clear BK274 HB; have BK274 := n0_; have HB := n1_; have BK281 := n2_; have GW281 := n3_; have GE281 := n4_; have NB274_281 := n5_; have NB281_274 := n6_; clear n0_ n1_ n2_ n3_ n4_ n5_ n6_ hb hbox hg; have hnb31 := NB281_274.out; have hnc31 := NB274_281.out; obtain ⟨hcz32_0, hcz32_1, hcz32_2, hcz32_3, hcz32_4⟩ := bC5 BK281.out; obtain ⟨hfz32_0, hfz32_1, hfz32_2, hfz32_3, hfz32_4⟩ := bF5 BK281.out; obtain ⟨hcz33_0, hcz33_1, hcz33_2, hcz33_3, hcz33_4, hcz33_5, hcz33_6, hcz33_7, hcz33_8⟩ := bC9 BK274.out; obtain ⟨hfz33_0, hfz33_1, hfz33_2, hfz33_3, hfz33_4, hfz33_5, hfz33_6, hfz33_7, hfz33_8⟩ := bF9 BK274.out) | ((with_reducible refine gate_callee (f := 68) rfl ?_); refine goesL_ (some 21) rfl rfl Tryz.func68 (by kernel_rfl) rfl #[.int .i64 a0_7, .int .i64 a0_8, .int .i64 0, .int .i64 0] rfl mS ?_; (with_reducible refine (bucket_New.calls a0_7 a0_8 0 0 t282 t283 t284 t285 t286 _ A3.out).mono ?_); rintro e w34 ⟨rfl, hb⟩; refine ⟨_, rfl, ?_⟩; have n0_ := aA (blk_below (g := gb274) (o := .cells #[.string a0_0, .int .i64 a0_1, .int .i64 a0_2, .int .i64 a0_3, .int .i64 a0_4, .int .i64 a0_5, .int .i64 a0_6, .int .i64 a0_7, .int .i64 a0_8] 41 (0, 0)) (by (with_reducible repeat (first | refine blk_drewN ?_ _ | refine blk_drew ?_ | refine blk_alloc ?_ _)); refine blk_far ?_ NB274_281.out _; (with_reducible repeat (first | refine blk_drewN ?_ _ | refine blk_drew ?_ | refine blk_alloc ?_ _)); refine blk_far ?_ NB274_281.out _; (with_reducible repeat (first | refine blk_drewN ?_ _ | refine blk_drew ?_ | refine blk_alloc ?_ _)); refine blk_far ?_ NB274_281.out _; (with_reducible repeat (first | refine blk_drewN ?_ _ | refine blk_drew ?_ | refine blk_alloc ?_ _)); refine blk_far ?_ NB274_281.out _; (with_reducible repeat (first | refine blk_drewN ?_ _ | refine blk_drew ?_ | refine blk_alloc ?_ _)); refine blk_far ?_ NB274_281.out _; (with_reducible repeat (first | refine blk_drewN ?_ _ | refine blk_drew ?_ | refine blk_alloc ?_ _)); exact BK274.out) hb); have n1_ := aA (blk_below (g := gb281) (o := .cells #[.int .i64 t275, .int .i64 t276, .int .i64 t277, .int .i64 t278, .int .i64 t279] 85 (0, 0)) (by (with_reducible repeat (first | refine blk_drewN ?_ _ | refine blk_drew ?_ | refine blk_alloc ?_ _)); have h_ := BK281.out; exact pK 4 (pK 3 (pK 2 (pK 1 (pK 0 (h_)))))) hb); have n2_ := aA (below_step (mD2 GE274.out GE281.out) hb); clear BK274 BK281 HB; have BK274 := n0_; have BK281 := n1_; have HB := n2_; clear n0_ n1_ n2_; (try clear hb); (try clear hb2); (try clear hk); (try clear hi)) | ((with_reducible refine gate_dst (N := 5) rfl ?_); refine box_event ?hg (N := 5) ?hd (cs := #[.int .i64 0, .int .i64 0, .int .i64 0, .int .i64 0]) (t := 87) ?hr ?_; (case hd => rfl); (case hg => rfl); (case hr => first | (go_simp; done) | (go_simp; rfl)); intro gb287 hg w35 hbox hb; have n0_ := aA (bB BK274.out hb); have n1_ := aA (bB BK281.out hb); have n2_ := aA (below_step (mD2 GE274.out GE281.out) hb); have n3_ := aA (hbox); have n4_ := aA ((bZ hg (mD2 GE274.out GE281.out))); have n5_ := aA ((bZ hg (mD2 GE274.out GE281.out))); have n6_ := aA ((bL hg BK274.out)); have n7_ := aA ((bG hg BK274.out)); have n8_ := aA ((bL hg BK281.out)); have n9_ := aA ((bG hg BK281.out)); clear BK274 BK281 HB; have BK274 := n0_; have BK281 := n1_; have HB := n2_; have BK287 := n3_; have GW287 := n4_; have GE287 := n5_; have NB274_287 := n6_; have NB287_274 := n7_; have NB281_287 := n8_; have NB287_281 := n9_; clear n0_ n1_ n2_ n3_ n4_ n5_ n6_ n7_ n8_ n9_ hb hbox hg; have hnb36 := NB287_274.out; have hnc36 := NB274_287.out; have hnb37 := NB287_281.out; have hnc37 := NB281_287.out; obtain ⟨hcz38_0, hcz38_1, hcz38_2, hcz38_3⟩ := bC4 BK287.out; obtain ⟨hfz38_0, hfz38_1, hfz38_2, hfz38_3⟩ := bF4 BK287.out; obtain ⟨hcz39_0, hcz39_1, hcz39_2, hcz39_3, hcz39_4, hcz39_5, hcz39_6, hcz39_7, hcz39_8⟩ := bC9 BK274.out; obtain ⟨hfz39_0, hfz39_1, hfz39_2, hfz39_3, hfz39_4, hfz39_5, hfz39_6, hfz39_7, hfz39_8⟩ := bF9 BK274.out) | ((with_reducible refine gate_callee (f := 100) rfl ?_); refine goesL_ (some 27) rfl rfl Tryz.func100 (by kernel_rfl) rfl #[.agg #[.int .i64 3, .string a0_0, .string (⟨#[]⟩ : ByteArray)]] rfl mS ?_; (with_reducible refine (label_Matcher.calls 3 a0_0 (⟨#[]⟩ : ByteArray) true _ A4.out).mono ?_); rintro e w40 ⟨rfl, hb⟩; refine ⟨_, rfl, ?_⟩; have n0_ := aA (blk_below (g := gb274) (o := .cells #[.string a0_0, .int .i64 a0_1, .int .i64 a0_2, .int .i64 a0_3, .int .i64 a0_4, .int .i64 a0_5, .int .i64 a0_6, .int .i64 a0_7, .int .i64 a0_8] 41 (0, 0)) (by (with_reducible repeat (first | refine blk_drewN ?_ _ | refine blk_drew ?_ | refine blk_alloc ?_ _)); refine blk_far ?_ NB274_287.out _; (with_reducible repeat (first | refine blk_drewN ?_ _ | refine blk_drew ?_ | refine blk_alloc ?_ _)); refine blk_far ?_ NB274_287.out _; (with_reducible repeat (first | refine blk_drewN ?_ _ | refine blk_drew ?_ | refine blk_alloc ?_ _)); refine blk_far ?_ NB274_287.out _; (with_reducible repeat (first | refine blk_drewN ?_ _ | refine blk_drew ?_ | refine blk_alloc ?_ _)); refine blk_far ?_ NB274_287.out _; (with_reducible repeat (first | refine blk_drewN ?_ _ | refine blk_drew ?_ | refine blk_alloc ?_ _)); exact BK274.out) hb); have n1_ := aA (blk_below (g := gb281) (o := .cells #[.int .i64 t275, .int .i64 t276, .int .i64 t277, .int .i64 t278, .int .i64 t279] 85 (0, 0)) (by (with_reducible repeat (first | refine blk_drewN ?_ _ | refine blk_drew ?_ | refine blk_alloc ?_ _)); refine blk_far ?_ NB281_287.out _; (with_reducible repeat (first | refine blk_drewN ?_ _ | refine blk_drew ?_ | refine blk_alloc ?_ _)); refine blk_far ?_ NB281_287.out _; (with_reducible repeat (first | refine blk_drewN ?_ _ | refine blk_drew ?_ | refine blk_alloc ?_ _)); refine blk_far ?_ NB281_287.out _; (with_reducible repeat (first | refine blk_drewN ?_ _ | refine blk_drew ?_ | refine blk_alloc ?_ _)); refine blk_far ?_ NB281_287.out _; (with_reducible repeat (first | refine blk_drewN ?_ _ | refine blk_drew ?_ | refine blk_alloc ?_ _)); exact BK281.out) hb); have n2_ := aA (blk_below (g := gb287) (o := .cells #[.int .i64 t282, .int .i64 t283, .int .i64 t284, .int .i64 t285] 87 (0, 0)) (by (with_reducible repeat (first | refine blk_drewN ?_ _ | refine blk_drew ?_ | refine blk_alloc ?_ _)); have h_ := BK287.out; exact pK 3 (pK 2 (pK 1 (pK 0 (h_))))) hb); have n3_ := aA (below_step (mD3 GE274.out GE281.out GE287.out) hb); clear BK274 BK281 BK287 HB; have BK274 := n0_; have BK281 := n1_; have BK287 := n2_; have HB := n3_; clear n0_ n1_ n2_ n3_; (try clear hb); (try clear hb2); (try clear hk); (try clear hi); obtain ⟨hcz41_0, hcz41_1, hcz41_2, hcz41_3, hcz41_4, hcz41_5, hcz41_6, hcz41_7, hcz41_8⟩ := bC9 BK274.out; obtain ⟨hfz41_0, hfz41_1, hfz41_2, hfz41_3, hfz41_4, hfz41_5, hfz41_6, hfz41_7, hfz41_8⟩ := bF9 BK274.out) | (go_at_call 101; (with_reducible refine (backoff_Right.calls a0_1 a0_2 a0_3 true _ A22.out).mono ?_); rintro e w42 ⟨rfl, hb⟩; have n0_ := aA (bB BK274.out hb); have n1_ := aA (bB BK281.out hb); have n2_ := aA (bB BK287.out hb); have n3_ := aA (below_step (mD3 GE274.out GE281.out GE287.out) hb); clear BK274 BK281 BK287 HB; have BK274 := n0_; have BK281 := n1_; have BK287 := n2_; have HB := n3_; clear n0_ n1_ n2_ n3_; (try clear hb); (try clear hb2); (try clear hk); (try clear hi); obtain ⟨hcz43_0, hcz43_1, hcz43_2, hcz43_3, hcz43_4, hcz43_5, hcz43_6, hcz43_7, hcz43_8⟩ := bC9 BK274.out; obtain ⟨hfz43_0, hfz43_1, hfz43_2, hfz43_3, hfz43_4, hfz43_5, hfz43_6, hfz43_7, hfz43_8⟩ := bF9 BK274.out))
       go_ret
       exact ⟨by first | rfl | (simp [errW_none, errW_some] <;> rfl) | (simp [*, errW_none, errW_some] <;> rfl), by repeat (first | (with_reducible first | exact HB.out | apply below_alloc | apply pw_below_drewN | apply below_drew1 | refine below_set ?_ GE274.out | refine below_set ?_ GE281.out | refine below_set ?_ GE287.out) | exact HB.out)⟩
      ·rw [if_neg c26] at H
       have c26b0 : (t280 == 0) = false := beq_eq_false_iff_ne.mpr c26
       have c26b1 : (t280 != 0) = true := bne_iff_ne.mpr c26
       obtain rfl := Option.some.inj H
       go_enter Tryz.func50, Tryz.ntmps50
       go_wp2_with (first | ((with_reducible refine gate_dst (N := 1) rfl ?_); refine box_event ?hg (N := 1) ?hd (cs := #[.string a0_0, .int .i64 a0_1, .int .i64 a0_2, .int .i64 a0_3, .int .i64 a0_4, .int .i64 a0_5, .int .i64 a0_6, .int .i64 a0_7, .int .i64 a0_8]) (t := 41) ?hr ?_; (case hd => rfl); (case hg => rfl); (case hr => first | (go_simp; done) | (go_simp; rfl)); intro gb274 hg w44 hbox hb; have n0_ := aA (below_step mB hb); have n1_ := aA (hbox); have n2_ := aA ((bZ hg mB)); have n3_ := aA ((bZ hg mB)); clear HB; have HB := n0_; have BK274 := n1_; have GW274 := n2_; have GE274 := n3_; clear n0_ n1_ n2_ n3_ hb hbox hg; obtain ⟨hcz45_0, hcz45_1, hcz45_2, hcz45_3, hcz45_4, hcz45_5, hcz45_6, hcz45_7, hcz45_8⟩ := bC9 BK274.out; obtain ⟨hfz45_0, hfz45_1, hfz45_2, hfz45_3, hfz45_4, hfz45_5, hfz45_6, hfz45_7, hfz45_8⟩ := bF9 BK274.out) | ((with_reducible refine gate_callee (f := 67) rfl ?_); refine goesL_ (some 13) rfl rfl Tryz.func67 (by kernel_rfl) rfl #[.int .i64 a0_5, .int .i64 a0_6] rfl mS ?_; (with_reducible refine (breaker_New.calls k a0_5 a0_6 t275 t276 t277 t278 t279 t280 _ A2.out).mono ?_); rintro e w46 ⟨rfl, hb⟩; refine ⟨_, rfl, ?_⟩; have n0_ := aA (bB BK274.out hb); have n1_ := aA (below_step (mD1 GE274.out) hb); clear BK274 HB; have BK274 := n0_; have HB := n1_; clear n0_ n1_; (try clear hb); (try clear hb2); (try clear hk); (try clear hi)) | ((with_reducible refine gate_dst (N := 3) rfl ?_); refine box_event ?hg (N := 3) ?hd (cs := #[.int .i64 0, .int .i64 0, .int .i64 0, .int .i64 0, .int .i64 0]) (t := 85) ?hr ?_; (case hd => rfl); (case hg => rfl); (case hr => first | (go_simp; done) | (go_simp; rfl)); intro gb281 hg w47 hbox hb; have n0_ := aA (bB BK274.out hb); have n1_ := aA (below_step (mD1 GE274.out) hb); have n2_ := aA (hbox); have n3_ := aA ((bZ hg (mD1 GE274.out))); have n4_ := aA ((bZ hg (mD1 GE274.out))); have n5_ := aA ((bL hg BK274.out)); have n6_ := aA ((bG hg BK274.out)); clear BK274 HB; have BK274 := n0_; have HB := n1_; have BK281 := n2_; have GW281 := n3_; have GE281 := n4_; have NB274_281 := n5_; have NB281_274 := n6_; clear n0_ n1_ n2_ n3_ n4_ n5_ n6_ hb hbox hg; have hnb48 := NB281_274.out; have hnc48 := NB274_281.out; obtain ⟨hcz49_0, hcz49_1, hcz49_2, hcz49_3, hcz49_4⟩ := bC5 BK281.out; obtain ⟨hfz49_0, hfz49_1, hfz49_2, hfz49_3, hfz49_4⟩ := bF5 BK281.out; obtain ⟨hcz50_0, hcz50_1, hcz50_2, hcz50_3, hcz50_4, hcz50_5, hcz50_6, hcz50_7, hcz50_8⟩ := bC9 BK274.out; obtain ⟨hfz50_0, hfz50_1, hfz50_2, hfz50_3, hfz50_4, hfz50_5, hfz50_6, hfz50_7, hfz50_8⟩ := bF9 BK274.out) | ((with_reducible refine gate_callee (f := 68) rfl ?_); refine goesL_ (some 21) rfl rfl Tryz.func68 (by kernel_rfl) rfl #[.int .i64 a0_7, .int .i64 a0_8, .int .i64 0, .int .i64 0] rfl mS ?_; (with_reducible refine (bucket_New.calls a0_7 a0_8 0 0 t282 t283 t284 t285 t286 _ A3.out).mono ?_); rintro e w51 ⟨rfl, hb⟩; refine ⟨_, rfl, ?_⟩; have n0_ := aA (blk_below (g := gb274) (o := .cells #[.string a0_0, .int .i64 a0_1, .int .i64 a0_2, .int .i64 a0_3, .int .i64 a0_4, .int .i64 a0_5, .int .i64 a0_6, .int .i64 a0_7, .int .i64 a0_8] 41 (0, 0)) (by (with_reducible repeat (first | refine blk_drewN ?_ _ | refine blk_drew ?_ | refine blk_alloc ?_ _)); refine blk_far ?_ NB274_281.out _; (with_reducible repeat (first | refine blk_drewN ?_ _ | refine blk_drew ?_ | refine blk_alloc ?_ _)); refine blk_far ?_ NB274_281.out _; (with_reducible repeat (first | refine blk_drewN ?_ _ | refine blk_drew ?_ | refine blk_alloc ?_ _)); refine blk_far ?_ NB274_281.out _; (with_reducible repeat (first | refine blk_drewN ?_ _ | refine blk_drew ?_ | refine blk_alloc ?_ _)); refine blk_far ?_ NB274_281.out _; (with_reducible repeat (first | refine blk_drewN ?_ _ | refine blk_drew ?_ | refine blk_alloc ?_ _)); refine blk_far ?_ NB274_281.out _; (with_reducible repeat (first | refine blk_drewN ?_ _ | refine blk_drew ?_ | refine blk_alloc ?_ _)); exact BK274.out) hb); have n1_ := aA (blk_below (g := gb281) (o := .cells #[.int .i64 t275, .int .i64 t276, .int .i64 t277, .int .i64 t278, .int .i64 t279] 85 (0, 0)) (by (with_reducible repeat (first | refine blk_drewN ?_ _ | refine blk_drew ?_ | refine blk_alloc ?_ _)); have h_ := BK281.out; exact pK 4 (pK 3 (pK 2 (pK 1 (pK 0 (h_)))))) hb); have n2_ := aA (below_step (mD2 GE274.out GE281.out) hb); clear BK274 BK281 HB; have BK274 := n0_; have BK281 := n1_; have HB := n2_; clear n0_ n1_ n2_; (try clear hb); (try clear hb2); (try clear hk); (try clear hi)) | ((with_reducible refine gate_dst (N := 5) rfl ?_); refine box_event ?hg (N := 5) ?hd (cs := #[.int .i64 0, .int .i64 0, .int .i64 0, .int .i64 0]) (t := 87) ?hr ?_; (case hd => rfl); (case hg => rfl); (case hr => first | (go_simp; done) | (go_simp; rfl)); intro gb287 hg w52 hbox hb; have n0_ := aA (bB BK274.out hb); have n1_ := aA (bB BK281.out hb); have n2_ := aA (below_step (mD2 GE274.out GE281.out) hb); have n3_ := aA (hbox); have n4_ := aA ((bZ hg (mD2 GE274.out GE281.out))); have n5_ := aA ((bZ hg (mD2 GE274.out GE281.out))); have n6_ := aA ((bL hg BK274.out)); have n7_ := aA ((bG hg BK274.out)); have n8_ := aA ((bL hg BK281.out)); have n9_ := aA ((bG hg BK281.out)); clear BK274 BK281 HB; have BK274 := n0_; have BK281 := n1_; have HB := n2_; have BK287 := n3_; have GW287 := n4_; have GE287 := n5_; have NB274_287 := n6_; have NB287_274 := n7_; have NB281_287 := n8_; have NB287_281 := n9_; clear n0_ n1_ n2_ n3_ n4_ n5_ n6_ n7_ n8_ n9_ hb hbox hg; have hnb53 := NB287_274.out; have hnc53 := NB274_287.out; have hnb54 := NB287_281.out; have hnc54 := NB281_287.out; obtain ⟨hcz55_0, hcz55_1, hcz55_2, hcz55_3⟩ := bC4 BK287.out; obtain ⟨hfz55_0, hfz55_1, hfz55_2, hfz55_3⟩ := bF4 BK287.out; obtain ⟨hcz56_0, hcz56_1, hcz56_2, hcz56_3, hcz56_4, hcz56_5, hcz56_6, hcz56_7, hcz56_8⟩ := bC9 BK274.out; obtain ⟨hfz56_0, hfz56_1, hfz56_2, hfz56_3, hfz56_4, hfz56_5, hfz56_6, hfz56_7, hfz56_8⟩ := bF9 BK274.out) | ((with_reducible refine gate_callee (f := 100) rfl ?_); refine goesL_ (some 27) rfl rfl Tryz.func100 (by kernel_rfl) rfl #[.agg #[.int .i64 3, .string a0_0, .string (⟨#[]⟩ : ByteArray)]] rfl mS ?_; (with_reducible refine (label_Matcher.calls 3 a0_0 (⟨#[]⟩ : ByteArray) true _ A4.out).mono ?_); rintro e w57 ⟨rfl, hb⟩; refine ⟨_, rfl, ?_⟩; have n0_ := aA (blk_below (g := gb274) (o := .cells #[.string a0_0, .int .i64 a0_1, .int .i64 a0_2, .int .i64 a0_3, .int .i64 a0_4, .int .i64 a0_5, .int .i64 a0_6, .int .i64 a0_7, .int .i64 a0_8] 41 (0, 0)) (by (with_reducible repeat (first | refine blk_drewN ?_ _ | refine blk_drew ?_ | refine blk_alloc ?_ _)); refine blk_far ?_ NB274_287.out _; (with_reducible repeat (first | refine blk_drewN ?_ _ | refine blk_drew ?_ | refine blk_alloc ?_ _)); refine blk_far ?_ NB274_287.out _; (with_reducible repeat (first | refine blk_drewN ?_ _ | refine blk_drew ?_ | refine blk_alloc ?_ _)); refine blk_far ?_ NB274_287.out _; (with_reducible repeat (first | refine blk_drewN ?_ _ | refine blk_drew ?_ | refine blk_alloc ?_ _)); refine blk_far ?_ NB274_287.out _; (with_reducible repeat (first | refine blk_drewN ?_ _ | refine blk_drew ?_ | refine blk_alloc ?_ _)); exact BK274.out) hb); have n1_ := aA (blk_below (g := gb281) (o := .cells #[.int .i64 t275, .int .i64 t276, .int .i64 t277, .int .i64 t278, .int .i64 t279] 85 (0, 0)) (by (with_reducible repeat (first | refine blk_drewN ?_ _ | refine blk_drew ?_ | refine blk_alloc ?_ _)); refine blk_far ?_ NB281_287.out _; (with_reducible repeat (first | refine blk_drewN ?_ _ | refine blk_drew ?_ | refine blk_alloc ?_ _)); refine blk_far ?_ NB281_287.out _; (with_reducible repeat (first | refine blk_drewN ?_ _ | refine blk_drew ?_ | refine blk_alloc ?_ _)); refine blk_far ?_ NB281_287.out _; (with_reducible repeat (first | refine blk_drewN ?_ _ | refine blk_drew ?_ | refine blk_alloc ?_ _)); refine blk_far ?_ NB281_287.out _; (with_reducible repeat (first | refine blk_drewN ?_ _ | refine blk_drew ?_ | refine blk_alloc ?_ _)); exact BK281.out) hb); have n2_ := aA (blk_below (g := gb287) (o := .cells #[.int .i64 t282, .int .i64 t283, .int .i64 t284, .int .i64 t285] 87 (0, 0)) (by (with_reducible repeat (first | refine blk_drewN ?_ _ | refine blk_drew ?_ | refine blk_alloc ?_ _)); have h_ := BK287.out; exact pK 3 (pK 2 (pK 1 (pK 0 (h_))))) hb); have n3_ := aA (below_step (mD3 GE274.out GE281.out GE287.out) hb); clear BK274 BK281 BK287 HB; have BK274 := n0_; have BK281 := n1_; have BK287 := n2_; have HB := n3_; clear n0_ n1_ n2_ n3_; (try clear hb); (try clear hb2); (try clear hk); (try clear hi); obtain ⟨hcz58_0, hcz58_1, hcz58_2, hcz58_3, hcz58_4, hcz58_5, hcz58_6, hcz58_7, hcz58_8⟩ := bC9 BK274.out; obtain ⟨hfz58_0, hfz58_1, hfz58_2, hfz58_3, hfz58_4, hfz58_5, hfz58_6, hfz58_7, hfz58_8⟩ := bF9 BK274.out) | (go_at_call 101; (with_reducible refine (backoff_Right.calls a0_1 a0_2 a0_3 true _ A22.out).mono ?_); rintro e w59 ⟨rfl, hb⟩; have n0_ := aA (bB BK274.out hb); have n1_ := aA (bB BK281.out hb); have n2_ := aA (bB BK287.out hb); have n3_ := aA (below_step (mD3 GE274.out GE281.out GE287.out) hb); clear BK274 BK281 BK287 HB; have BK274 := n0_; have BK281 := n1_; have BK287 := n2_; have HB := n3_; clear n0_ n1_ n2_ n3_; (try clear hb); (try clear hb2); (try clear hk); (try clear hi); obtain ⟨hcz60_0, hcz60_1, hcz60_2, hcz60_3, hcz60_4, hcz60_5, hcz60_6, hcz60_7, hcz60_8⟩ := bC9 BK274.out; obtain ⟨hfz60_0, hfz60_1, hfz60_2, hfz60_3, hfz60_4, hfz60_5, hfz60_6, hfz60_7, hfz60_8⟩ := bF9 BK274.out))
       go_ret
       exact ⟨by first | rfl | (simp [errW_none, errW_some] <;> rfl) | (simp [*, errW_none, errW_some] <;> rfl), by repeat (first | (with_reducible first | exact HB.out | apply below_alloc | apply pw_below_drewN | apply below_drew1 | refine below_set ?_ GE274.out | refine below_set ?_ GE281.out | refine below_set ?_ GE287.out) | exact HB.out)⟩
     ·rw [if_neg c25] at H
      have c25b0 : decide (a0_4 ≤ 100) = false := decide_eq_false c25
      clear c25
      obtain rfl := Option.some.inj H
      go_enter Tryz.func50, Tryz.ntmps50
      go_wp2_with (first | ((with_reducible refine gate_dst (N := 1) rfl ?_); refine box_event ?hg (N := 1) ?hd (cs := #[.string a0_0, .int .i64 a0_1, .int .i64 a0_2, .int .i64 a0_3, .int .i64 a0_4, .int .i64 a0_5, .int .i64 a0_6, .int .i64 a0_7, .int .i64 a0_8]) (t := 41) ?hr ?_; (case hd => rfl); (case hg => rfl); (case hr => first | (go_simp; done) | (go_simp; rfl)); intro gb274 hg w61 hbox hb; have n0_ := aA (below_step mB hb); have n1_ := aA (hbox); have n2_ := aA ((bZ hg mB)); have n3_ := aA ((bZ hg mB)); clear HB; have HB := n0_; have BK274 := n1_; have GW274 := n2_; have GE274 := n3_; clear n0_ n1_ n2_ n3_ hb hbox hg; obtain ⟨hcz62_0, hcz62_1, hcz62_2, hcz62_3, hcz62_4, hcz62_5, hcz62_6, hcz62_7, hcz62_8⟩ := bC9 BK274.out; obtain ⟨hfz62_0, hfz62_1, hfz62_2, hfz62_3, hfz62_4, hfz62_5, hfz62_6, hfz62_7, hfz62_8⟩ := bF9 BK274.out) | ((with_reducible refine gate_callee (f := 67) rfl ?_); refine goesL_ (some 13) rfl rfl Tryz.func67 (by kernel_rfl) rfl #[.int .i64 a0_5, .int .i64 a0_6] rfl mS ?_; (with_reducible refine (breaker_New.calls k a0_5 a0_6 t275 t276 t277 t278 t279 t280 _ A2.out).mono ?_); rintro e w63 ⟨rfl, hb⟩; refine ⟨_, rfl, ?_⟩; have n0_ := aA (bB BK274.out hb); have n1_ := aA (below_step (mD1 GE274.out) hb); clear BK274 HB; have BK274 := n0_; have HB := n1_; clear n0_ n1_; (try clear hb); (try clear hb2); (try clear hk); (try clear hi)) | ((with_reducible refine gate_dst (N := 3) rfl ?_); refine box_event ?hg (N := 3) ?hd (cs := #[.int .i64 0, .int .i64 0, .int .i64 0, .int .i64 0, .int .i64 0]) (t := 85) ?hr ?_; (case hd => rfl); (case hg => rfl); (case hr => first | (go_simp; done) | (go_simp; rfl)); intro gb281 hg w64 hbox hb; have n0_ := aA (bB BK274.out hb); have n1_ := aA (below_step (mD1 GE274.out) hb); have n2_ := aA (hbox); have n3_ := aA ((bZ hg (mD1 GE274.out))); have n4_ := aA ((bZ hg (mD1 GE274.out))); have n5_ := aA ((bL hg BK274.out)); have n6_ := aA ((bG hg BK274.out)); clear BK274 HB; have BK274 := n0_; have HB := n1_; have BK281 := n2_; have GW281 := n3_; have GE281 := n4_; have NB274_281 := n5_; have NB281_274 := n6_; clear n0_ n1_ n2_ n3_ n4_ n5_ n6_ hb hbox hg; have hnb65 := NB281_274.out; have hnc65 := NB274_281.out; obtain ⟨hcz66_0, hcz66_1, hcz66_2, hcz66_3, hcz66_4⟩ := bC5 BK281.out; obtain ⟨hfz66_0, hfz66_1, hfz66_2, hfz66_3, hfz66_4⟩ := bF5 BK281.out; obtain ⟨hcz67_0, hcz67_1, hcz67_2, hcz67_3, hcz67_4, hcz67_5, hcz67_6, hcz67_7, hcz67_8⟩ := bC9 BK274.out; obtain ⟨hfz67_0, hfz67_1, hfz67_2, hfz67_3, hfz67_4, hfz67_5, hfz67_6, hfz67_7, hfz67_8⟩ := bF9 BK274.out) | ((with_reducible refine gate_callee (f := 68) rfl ?_); refine goesL_ (some 21) rfl rfl Tryz.func68 (by kernel_rfl) rfl #[.int .i64 a0_7, .int .i64 a0_8, .int .i64 0, .int .i64 0] rfl mS ?_; (with_reducible refine (bucket_New.calls a0_7 a0_8 0 0 t282 t283 t284 t285 t286 _ A3.out).mono ?_); rintro e w68 ⟨rfl, hb⟩; refine ⟨_, rfl, ?_⟩; have n0_ := aA (blk_below (g := gb274) (o := .cells #[.string a0_0, .int .i64 a0_1, .int .i64 a0_2, .int .i64 a0_3, .int .i64 a0_4, .int .i64 a0_5, .int .i64 a0_6, .int .i64 a0_7, .int .i64 a0_8] 41 (0, 0)) (by (with_reducible repeat (first | refine blk_drewN ?_ _ | refine blk_drew ?_ | refine blk_alloc ?_ _)); refine blk_far ?_ NB274_281.out _; (with_reducible repeat (first | refine blk_drewN ?_ _ | refine blk_drew ?_ | refine blk_alloc ?_ _)); refine blk_far ?_ NB274_281.out _; (with_reducible repeat (first | refine blk_drewN ?_ _ | refine blk_drew ?_ | refine blk_alloc ?_ _)); refine blk_far ?_ NB274_281.out _; (with_reducible repeat (first | refine blk_drewN ?_ _ | refine blk_drew ?_ | refine blk_alloc ?_ _)); refine blk_far ?_ NB274_281.out _; (with_reducible repeat (first | refine blk_drewN ?_ _ | refine blk_drew ?_ | refine blk_alloc ?_ _)); refine blk_far ?_ NB274_281.out _; (with_reducible repeat (first | refine blk_drewN ?_ _ | refine blk_drew ?_ | refine blk_alloc ?_ _)); exact BK274.out) hb); have n1_ := aA (blk_below (g := gb281) (o := .cells #[.int .i64 t275, .int .i64 t276, .int .i64 t277, .int .i64 t278, .int .i64 t279] 85 (0, 0)) (by (with_reducible repeat (first | refine blk_drewN ?_ _ | refine blk_drew ?_ | refine blk_alloc ?_ _)); have h_ := BK281.out; exact pK 4 (pK 3 (pK 2 (pK 1 (pK 0 (h_)))))) hb); have n2_ := aA (below_step (mD2 GE274.out GE281.out) hb); clear BK274 BK281 HB; have BK274 := n0_; have BK281 := n1_; have HB := n2_; clear n0_ n1_ n2_; (try clear hb); (try clear hb2); (try clear hk); (try clear hi)) | ((with_reducible refine gate_dst (N := 5) rfl ?_); refine box_event ?hg (N := 5) ?hd (cs := #[.int .i64 0, .int .i64 0, .int .i64 0, .int .i64 0]) (t := 87) ?hr ?_; (case hd => rfl); (case hg => rfl); (case hr => first | (go_simp; done) | (go_simp; rfl)); intro gb287 hg w69 hbox hb; have n0_ := aA (bB BK274.out hb); have n1_ := aA (bB BK281.out hb); have n2_ := aA (below_step (mD2 GE274.out GE281.out) hb); have n3_ := aA (hbox); have n4_ := aA ((bZ hg (mD2 GE274.out GE281.out))); have n5_ := aA ((bZ hg (mD2 GE274.out GE281.out))); have n6_ := aA ((bL hg BK274.out)); have n7_ := aA ((bG hg BK274.out)); have n8_ := aA ((bL hg BK281.out)); have n9_ := aA ((bG hg BK281.out)); clear BK274 BK281 HB; have BK274 := n0_; have BK281 := n1_; have HB := n2_; have BK287 := n3_; have GW287 := n4_; have GE287 := n5_; have NB274_287 := n6_; have NB287_274 := n7_; have NB281_287 := n8_; have NB287_281 := n9_; clear n0_ n1_ n2_ n3_ n4_ n5_ n6_ n7_ n8_ n9_ hb hbox hg; have hnb70 := NB287_274.out; have hnc70 := NB274_287.out; have hnb71 := NB287_281.out; have hnc71 := NB281_287.out; obtain ⟨hcz72_0, hcz72_1, hcz72_2, hcz72_3⟩ := bC4 BK287.out; obtain ⟨hfz72_0, hfz72_1, hfz72_2, hfz72_3⟩ := bF4 BK287.out; obtain ⟨hcz73_0, hcz73_1, hcz73_2, hcz73_3, hcz73_4, hcz73_5, hcz73_6, hcz73_7, hcz73_8⟩ := bC9 BK274.out; obtain ⟨hfz73_0, hfz73_1, hfz73_2, hfz73_3, hfz73_4, hfz73_5, hfz73_6, hfz73_7, hfz73_8⟩ := bF9 BK274.out) | ((with_reducible refine gate_callee (f := 100) rfl ?_); refine goesL_ (some 27) rfl rfl Tryz.func100 (by kernel_rfl) rfl #[.agg #[.int .i64 3, .string a0_0, .string (⟨#[]⟩ : ByteArray)]] rfl mS ?_; (with_reducible refine (label_Matcher.calls 3 a0_0 (⟨#[]⟩ : ByteArray) true _ A4.out).mono ?_); rintro e w74 ⟨rfl, hb⟩; refine ⟨_, rfl, ?_⟩; have n0_ := aA (blk_below (g := gb274) (o := .cells #[.string a0_0, .int .i64 a0_1, .int .i64 a0_2, .int .i64 a0_3, .int .i64 a0_4, .int .i64 a0_5, .int .i64 a0_6, .int .i64 a0_7, .int .i64 a0_8] 41 (0, 0)) (by (with_reducible repeat (first | refine blk_drewN ?_ _ | refine blk_drew ?_ | refine blk_alloc ?_ _)); refine blk_far ?_ NB274_287.out _; (with_reducible repeat (first | refine blk_drewN ?_ _ | refine blk_drew ?_ | refine blk_alloc ?_ _)); refine blk_far ?_ NB274_287.out _; (with_reducible repeat (first | refine blk_drewN ?_ _ | refine blk_drew ?_ | refine blk_alloc ?_ _)); refine blk_far ?_ NB274_287.out _; (with_reducible repeat (first | refine blk_drewN ?_ _ | refine blk_drew ?_ | refine blk_alloc ?_ _)); refine blk_far ?_ NB274_287.out _; (with_reducible repeat (first | refine blk_drewN ?_ _ | refine blk_drew ?_ | refine blk_alloc ?_ _)); exact BK274.out) hb); have n1_ := aA (blk_below (g := gb281) (o := .cells #[.int .i64 t275, .int .i64 t276, .int .i64 t277, .int .i64 t278, .int .i64 t279] 85 (0, 0)) (by (with_reducible repeat (first | refine blk_drewN ?_ _ | refine blk_drew ?_ | refine blk_alloc ?_ _)); refine blk_far ?_ NB281_287.out _; (with_reducible repeat (first | refine blk_drewN ?_ _ | refine blk_drew ?_ | refine blk_alloc ?_ _)); refine blk_far ?_ NB281_287.out _; (with_reducible repeat (first | refine blk_drewN ?_ _ | refine blk_drew ?_ | refine blk_alloc ?_ _)); refine blk_far ?_ NB281_287.out _; (with_reducible repeat (first | refine blk_drewN ?_ _ | refine blk_drew ?_ | refine blk_alloc ?_ _)); refine blk_far ?_ NB281_287.out _; (with_reducible repeat (first | refine blk_drewN ?_ _ | refine blk_drew ?_ | refine blk_alloc ?_ _)); exact BK281.out) hb); have n2_ := aA (blk_below (g := gb287) (o := .cells #[.int .i64 t282, .int .i64 t283, .int .i64 t284, .int .i64 t285] 87 (0, 0)) (by (with_reducible repeat (first | refine blk_drewN ?_ _ | refine blk_drew ?_ | refine blk_alloc ?_ _)); have h_ := BK287.out; exact pK 3 (pK 2 (pK 1 (pK 0 (h_))))) hb); have n3_ := aA (below_step (mD3 GE274.out GE281.out GE287.out) hb); clear BK274 BK281 BK287 HB; have BK274 := n0_; have BK281 := n1_; have BK287 := n2_; have HB := n3_; clear n0_ n1_ n2_ n3_; (try clear hb); (try clear hb2); (try clear hk); (try clear hi); obtain ⟨hcz75_0, hcz75_1, hcz75_2, hcz75_3, hcz75_4, hcz75_5, hcz75_6, hcz75_7, hcz75_8⟩ := bC9 BK274.out; obtain ⟨hfz75_0, hfz75_1, hfz75_2, hfz75_3, hfz75_4, hfz75_5, hfz75_6, hfz75_7, hfz75_8⟩ := bF9 BK274.out) | (go_at_call 101; (with_reducible refine (backoff_Right.calls a0_1 a0_2 a0_3 true _ A22.out).mono ?_); rintro e w76 ⟨rfl, hb⟩; have n0_ := aA (bB BK274.out hb); have n1_ := aA (bB BK281.out hb); have n2_ := aA (bB BK287.out hb); have n3_ := aA (below_step (mD3 GE274.out GE281.out GE287.out) hb); clear BK274 BK281 BK287 HB; have BK274 := n0_; have BK281 := n1_; have BK287 := n2_; have HB := n3_; clear n0_ n1_ n2_ n3_; (try clear hb); (try clear hb2); (try clear hk); (try clear hi); obtain ⟨hcz77_0, hcz77_1, hcz77_2, hcz77_3, hcz77_4, hcz77_5, hcz77_6, hcz77_7, hcz77_8⟩ := bC9 BK274.out; obtain ⟨hfz77_0, hfz77_1, hfz77_2, hfz77_3, hfz77_4, hfz77_5, hfz77_6, hfz77_7, hfz77_8⟩ := bF9 BK274.out))
      go_ret
      exact ⟨by first | rfl | (simp [errW_none, errW_some] <;> rfl) | (simp [*, errW_none, errW_some] <;> rfl), by repeat (first | (with_reducible first | exact HB.out | apply below_alloc | apply pw_below_drewN | apply below_drew1 | refine below_set ?_ GE274.out | refine below_set ?_ GE281.out | refine below_set ?_ GE287.out) | exact HB.out)⟩
    ·rw [if_neg c24] at H
     have c24b0 : decide (1 ≤ a0_4) = false := decide_eq_false c24
     clear c24
     obtain rfl := Option.some.inj H
     go_enter Tryz.func50, Tryz.ntmps50
     go_wp2_with (first | ((with_reducible refine gate_dst (N := 1) rfl ?_); refine box_event ?hg (N := 1) ?hd (cs := #[.string a0_0, .int .i64 a0_1, .int .i64 a0_2, .int .i64 a0_3, .int .i64 a0_4, .int .i64 a0_5, .int .i64 a0_6, .int .i64 a0_7, .int .i64 a0_8]) (t := 41) ?hr ?_; (case hd => rfl); (case hg => rfl); (case hr => first | (go_simp; done) | (go_simp; rfl)); intro gb274 hg w78 hbox hb; have n0_ := aA (below_step mB hb); have n1_ := aA (hbox); have n2_ := aA ((bZ hg mB)); have n3_ := aA ((bZ hg mB)); clear HB; have HB := n0_; have BK274 := n1_; have GW274 := n2_; have GE274 := n3_; clear n0_ n1_ n2_ n3_ hb hbox hg; obtain ⟨hcz79_0, hcz79_1, hcz79_2, hcz79_3, hcz79_4, hcz79_5, hcz79_6, hcz79_7, hcz79_8⟩ := bC9 BK274.out; obtain ⟨hfz79_0, hfz79_1, hfz79_2, hfz79_3, hfz79_4, hfz79_5, hfz79_6, hfz79_7, hfz79_8⟩ := bF9 BK274.out) | ((with_reducible refine gate_callee (f := 67) rfl ?_); refine goesL_ (some 13) rfl rfl Tryz.func67 (by kernel_rfl) rfl #[.int .i64 a0_5, .int .i64 a0_6] rfl mS ?_; (with_reducible refine (breaker_New.calls k a0_5 a0_6 t275 t276 t277 t278 t279 t280 _ A2.out).mono ?_); rintro e w80 ⟨rfl, hb⟩; refine ⟨_, rfl, ?_⟩; have n0_ := aA (bB BK274.out hb); have n1_ := aA (below_step (mD1 GE274.out) hb); clear BK274 HB; have BK274 := n0_; have HB := n1_; clear n0_ n1_; (try clear hb); (try clear hb2); (try clear hk); (try clear hi)) | ((with_reducible refine gate_dst (N := 3) rfl ?_); refine box_event ?hg (N := 3) ?hd (cs := #[.int .i64 0, .int .i64 0, .int .i64 0, .int .i64 0, .int .i64 0]) (t := 85) ?hr ?_; (case hd => rfl); (case hg => rfl); (case hr => first | (go_simp; done) | (go_simp; rfl)); intro gb281 hg w81 hbox hb; have n0_ := aA (bB BK274.out hb); have n1_ := aA (below_step (mD1 GE274.out) hb); have n2_ := aA (hbox); have n3_ := aA ((bZ hg (mD1 GE274.out))); have n4_ := aA ((bZ hg (mD1 GE274.out))); have n5_ := aA ((bL hg BK274.out)); have n6_ := aA ((bG hg BK274.out)); clear BK274 HB; have BK274 := n0_; have HB := n1_; have BK281 := n2_; have GW281 := n3_; have GE281 := n4_; have NB274_281 := n5_; have NB281_274 := n6_; clear n0_ n1_ n2_ n3_ n4_ n5_ n6_ hb hbox hg; have hnb82 := NB281_274.out; have hnc82 := NB274_281.out; obtain ⟨hcz83_0, hcz83_1, hcz83_2, hcz83_3, hcz83_4⟩ := bC5 BK281.out; obtain ⟨hfz83_0, hfz83_1, hfz83_2, hfz83_3, hfz83_4⟩ := bF5 BK281.out; obtain ⟨hcz84_0, hcz84_1, hcz84_2, hcz84_3, hcz84_4, hcz84_5, hcz84_6, hcz84_7, hcz84_8⟩ := bC9 BK274.out; obtain ⟨hfz84_0, hfz84_1, hfz84_2, hfz84_3, hfz84_4, hfz84_5, hfz84_6, hfz84_7, hfz84_8⟩ := bF9 BK274.out) | ((with_reducible refine gate_callee (f := 68) rfl ?_); refine goesL_ (some 21) rfl rfl Tryz.func68 (by kernel_rfl) rfl #[.int .i64 a0_7, .int .i64 a0_8, .int .i64 0, .int .i64 0] rfl mS ?_; (with_reducible refine (bucket_New.calls a0_7 a0_8 0 0 t282 t283 t284 t285 t286 _ A3.out).mono ?_); rintro e w85 ⟨rfl, hb⟩; refine ⟨_, rfl, ?_⟩; have n0_ := aA (blk_below (g := gb274) (o := .cells #[.string a0_0, .int .i64 a0_1, .int .i64 a0_2, .int .i64 a0_3, .int .i64 a0_4, .int .i64 a0_5, .int .i64 a0_6, .int .i64 a0_7, .int .i64 a0_8] 41 (0, 0)) (by (with_reducible repeat (first | refine blk_drewN ?_ _ | refine blk_drew ?_ | refine blk_alloc ?_ _)); refine blk_far ?_ NB274_281.out _; (with_reducible repeat (first | refine blk_drewN ?_ _ | refine blk_drew ?_ | refine blk_alloc ?_ _)); refine blk_far ?_ NB274_281.out _; (with_reducible repeat (first | refine blk_drewN ?_ _ | refine blk_drew ?_ | refine blk_alloc ?_ _)); refine blk_far ?_ NB274_281.out _; (with_reducible repeat (first | refine blk_drewN ?_ _ | refine blk_drew ?_ | refine blk_alloc ?_ _)); refine blk_far ?_ NB274_281.out _; (with_reducible repeat (first | refine blk_drewN ?_ _ | refine blk_drew ?_ | refine blk_alloc ?_ _)); refine blk_far ?_ NB274_281.out _; (with_reducible repeat (first | refine blk_drewN ?_ _ | refine blk_drew ?_ | refine blk_alloc ?_ _)); exact BK274.out) hb); have n1_ := aA (blk_below (g := gb281) (o := .cells #[.int .i64 t275, .int .i64 t276, .int .i64 t277, .int .i64 t278, .int .i64 t279] 85 (0, 0)) (by (with_reducible repeat (first | refine blk_drewN ?_ _ | refine blk_drew ?_ | refine blk_alloc ?_ _)); have h_ := BK281.out; exact pK 4 (pK 3 (pK 2 (pK 1 (pK 0 (h_)))))) hb); have n2_ := aA (below_step (mD2 GE274.out GE281.out) hb); clear BK274 BK281 HB; have BK274 := n0_; have BK281 := n1_; have HB := n2_; clear n0_ n1_ n2_; (try clear hb); (try clear hb2); (try clear hk); (try clear hi)) | ((with_reducible refine gate_dst (N := 5) rfl ?_); refine box_event ?hg (N := 5) ?hd (cs := #[.int .i64 0, .int .i64 0, .int .i64 0, .int .i64 0]) (t := 87) ?hr ?_; (case hd => rfl); (case hg => rfl); (case hr => first | (go_simp; done) | (go_simp; rfl)); intro gb287 hg w86 hbox hb; have n0_ := aA (bB BK274.out hb); have n1_ := aA (bB BK281.out hb); have n2_ := aA (below_step (mD2 GE274.out GE281.out) hb); have n3_ := aA (hbox); have n4_ := aA ((bZ hg (mD2 GE274.out GE281.out))); have n5_ := aA ((bZ hg (mD2 GE274.out GE281.out))); have n6_ := aA ((bL hg BK274.out)); have n7_ := aA ((bG hg BK274.out)); have n8_ := aA ((bL hg BK281.out)); have n9_ := aA ((bG hg BK281.out)); clear BK274 BK281 HB; have BK274 := n0_; have BK281 := n1_; have HB := n2_; have BK287 := n3_; have GW287 := n4_; have GE287 := n5_; have NB274_287 := n6_; have NB287_274 := n7_; have NB281_287 := n8_; have NB287_281 := n9_; clear n0_ n1_ n2_ n3_ n4_ n5_ n6_ n7_ n8_ n9_ hb hbox hg; have hnb87 := NB287_274.out; have hnc87 := NB274_287.out; have hnb88 := NB287_281.out; have hnc88 := NB281_287.out; obtain ⟨hcz89_0, hcz89_1, hcz89_2, hcz89_3⟩ := bC4 BK287.out; obtain ⟨hfz89_0, hfz89_1, hfz89_2, hfz89_3⟩ := bF4 BK287.out; obtain ⟨hcz90_0, hcz90_1, hcz90_2, hcz90_3, hcz90_4, hcz90_5, hcz90_6, hcz90_7, hcz90_8⟩ := bC9 BK274.out; obtain ⟨hfz90_0, hfz90_1, hfz90_2, hfz90_3, hfz90_4, hfz90_5, hfz90_6, hfz90_7, hfz90_8⟩ := bF9 BK274.out) | ((with_reducible refine gate_callee (f := 100) rfl ?_); refine goesL_ (some 27) rfl rfl Tryz.func100 (by kernel_rfl) rfl #[.agg #[.int .i64 3, .string a0_0, .string (⟨#[]⟩ : ByteArray)]] rfl mS ?_; (with_reducible refine (label_Matcher.calls 3 a0_0 (⟨#[]⟩ : ByteArray) true _ A4.out).mono ?_); rintro e w91 ⟨rfl, hb⟩; refine ⟨_, rfl, ?_⟩; have n0_ := aA (blk_below (g := gb274) (o := .cells #[.string a0_0, .int .i64 a0_1, .int .i64 a0_2, .int .i64 a0_3, .int .i64 a0_4, .int .i64 a0_5, .int .i64 a0_6, .int .i64 a0_7, .int .i64 a0_8] 41 (0, 0)) (by (with_reducible repeat (first | refine blk_drewN ?_ _ | refine blk_drew ?_ | refine blk_alloc ?_ _)); refine blk_far ?_ NB274_287.out _; (with_reducible repeat (first | refine blk_drewN ?_ _ | refine blk_drew ?_ | refine blk_alloc ?_ _)); refine blk_far ?_ NB274_287.out _; (with_reducible repeat (first | refine blk_drewN ?_ _ | refine blk_drew ?_ | refine blk_alloc ?_ _)); refine blk_far ?_ NB274_287.out _; (with_reducible repeat (first | refine blk_drewN ?_ _ | refine blk_drew ?_ | refine blk_alloc ?_ _)); refine blk_far ?_ NB274_287.out _; (with_reducible repeat (first | refine blk_drewN ?_ _ | refine blk_drew ?_ | refine blk_alloc ?_ _)); exact BK274.out) hb); have n1_ := aA (blk_below (g := gb281) (o := .cells #[.int .i64 t275, .int .i64 t276, .int .i64 t277, .int .i64 t278, .int .i64 t279] 85 (0, 0)) (by (with_reducible repeat (first | refine blk_drewN ?_ _ | refine blk_drew ?_ | refine blk_alloc ?_ _)); refine blk_far ?_ NB281_287.out _; (with_reducible repeat (first | refine blk_drewN ?_ _ | refine blk_drew ?_ | refine blk_alloc ?_ _)); refine blk_far ?_ NB281_287.out _; (with_reducible repeat (first | refine blk_drewN ?_ _ | refine blk_drew ?_ | refine blk_alloc ?_ _)); refine blk_far ?_ NB281_287.out _; (with_reducible repeat (first | refine blk_drewN ?_ _ | refine blk_drew ?_ | refine blk_alloc ?_ _)); refine blk_far ?_ NB281_287.out _; (with_reducible repeat (first | refine blk_drewN ?_ _ | refine blk_drew ?_ | refine blk_alloc ?_ _)); exact BK281.out) hb); have n2_ := aA (blk_below (g := gb287) (o := .cells #[.int .i64 t282, .int .i64 t283, .int .i64 t284, .int .i64 t285] 87 (0, 0)) (by (with_reducible repeat (first | refine blk_drewN ?_ _ | refine blk_drew ?_ | refine blk_alloc ?_ _)); have h_ := BK287.out; exact pK 3 (pK 2 (pK 1 (pK 0 (h_))))) hb); have n3_ := aA (below_step (mD3 GE274.out GE281.out GE287.out) hb); clear BK274 BK281 BK287 HB; have BK274 := n0_; have BK281 := n1_; have BK287 := n2_; have HB := n3_; clear n0_ n1_ n2_ n3_; (try clear hb); (try clear hb2); (try clear hk); (try clear hi); obtain ⟨hcz92_0, hcz92_1, hcz92_2, hcz92_3, hcz92_4, hcz92_5, hcz92_6, hcz92_7, hcz92_8⟩ := bC9 BK274.out; obtain ⟨hfz92_0, hfz92_1, hfz92_2, hfz92_3, hfz92_4, hfz92_5, hfz92_6, hfz92_7, hfz92_8⟩ := bF9 BK274.out) | (go_at_call 101; (with_reducible refine (backoff_Right.calls a0_1 a0_2 a0_3 true _ A22.out).mono ?_); rintro e w93 ⟨rfl, hb⟩; have n0_ := aA (bB BK274.out hb); have n1_ := aA (bB BK281.out hb); have n2_ := aA (bB BK287.out hb); have n3_ := aA (below_step (mD3 GE274.out GE281.out GE287.out) hb); clear BK274 BK281 BK287 HB; have BK274 := n0_; have BK281 := n1_; have BK287 := n2_; have HB := n3_; clear n0_ n1_ n2_ n3_; (try clear hb); (try clear hb2); (try clear hk); (try clear hi); obtain ⟨hcz94_0, hcz94_1, hcz94_2, hcz94_3, hcz94_4, hcz94_5, hcz94_6, hcz94_7, hcz94_8⟩ := bC9 BK274.out; obtain ⟨hfz94_0, hfz94_1, hfz94_2, hfz94_3, hfz94_4, hfz94_5, hfz94_6, hfz94_7, hfz94_8⟩ := bF9 BK274.out))
     go_ret
     exact ⟨by first | rfl | (simp [errW_none, errW_some] <;> rfl) | (simp [*, errW_none, errW_some] <;> rfl), by repeat (first | (with_reducible first | exact HB.out | apply below_alloc | apply pw_below_drewN | apply below_drew1 | refine below_set ?_ GE274.out | refine below_set ?_ GE281.out | refine below_set ?_ GE287.out) | exact HB.out)⟩
   ·replace c23 := Bool.eq_false_iff.mpr c23
    subst c23
    have H1 : (some false) = some r := by rw [if_neg (show ¬ (false = true) by decide)] at H; exact H
    clear H
    have H := H1
    clear H1
    obtain rfl := Option.some.inj H
    go_enter Tryz.func50, Tryz.ntmps50
    go_wp2_with (first | ((with_reducible refine gate_dst (N := 1) rfl ?_); refine box_event ?hg (N := 1) ?hd (cs := #[.string a0_0, .int .i64 a0_1, .int .i64 a0_2, .int .i64 a0_3, .int .i64 a0_4, .int .i64 a0_5, .int .i64 a0_6, .int .i64 a0_7, .int .i64 a0_8]) (t := 41) ?hr ?_; (case hd => rfl); (case hg => rfl); (case hr => first | (go_simp; done) | (go_simp; rfl)); intro gb274 hg w95 hbox hb; have n0_ := aA (below_step mB hb); have n1_ := aA (hbox); have n2_ := aA ((bZ hg mB)); have n3_ := aA ((bZ hg mB)); clear HB; have HB := n0_; have BK274 := n1_; have GW274 := n2_; have GE274 := n3_; clear n0_ n1_ n2_ n3_ hb hbox hg; obtain ⟨hcz96_0, hcz96_1, hcz96_2, hcz96_3, hcz96_4, hcz96_5, hcz96_6, hcz96_7, hcz96_8⟩ := bC9 BK274.out; obtain ⟨hfz96_0, hfz96_1, hfz96_2, hfz96_3, hfz96_4, hfz96_5, hfz96_6, hfz96_7, hfz96_8⟩ := bF9 BK274.out) | ((with_reducible refine gate_callee (f := 67) rfl ?_); refine goesL_ (some 13) rfl rfl Tryz.func67 (by kernel_rfl) rfl #[.int .i64 a0_5, .int .i64 a0_6] rfl mS ?_; (with_reducible refine (breaker_New.calls k a0_5 a0_6 t275 t276 t277 t278 t279 t280 _ A2.out).mono ?_); rintro e w97 ⟨rfl, hb⟩; refine ⟨_, rfl, ?_⟩; have n0_ := aA (bB BK274.out hb); have n1_ := aA (below_step (mD1 GE274.out) hb); clear BK274 HB; have BK274 := n0_; have HB := n1_; clear n0_ n1_; (try clear hb); (try clear hb2); (try clear hk); (try clear hi)) | ((with_reducible refine gate_dst (N := 3) rfl ?_); refine box_event ?hg (N := 3) ?hd (cs := #[.int .i64 0, .int .i64 0, .int .i64 0, .int .i64 0, .int .i64 0]) (t := 85) ?hr ?_; (case hd => rfl); (case hg => rfl); (case hr => first | (go_simp; done) | (go_simp; rfl)); intro gb281 hg w98 hbox hb; have n0_ := aA (bB BK274.out hb); have n1_ := aA (below_step (mD1 GE274.out) hb); have n2_ := aA (hbox); have n3_ := aA ((bZ hg (mD1 GE274.out))); have n4_ := aA ((bZ hg (mD1 GE274.out))); have n5_ := aA ((bL hg BK274.out)); have n6_ := aA ((bG hg BK274.out)); clear BK274 HB; have BK274 := n0_; have HB := n1_; have BK281 := n2_; have GW281 := n3_; have GE281 := n4_; have NB274_281 := n5_; have NB281_274 := n6_; clear n0_ n1_ n2_ n3_ n4_ n5_ n6_ hb hbox hg; have hnb99 := NB281_274.out; have hnc99 := NB274_281.out; obtain ⟨hcz100_0, hcz100_1, hcz100_2, hcz100_3, hcz100_4⟩ := bC5 BK281.out; obtain ⟨hfz100_0, hfz100_1, hfz100_2, hfz100_3, hfz100_4⟩ := bF5 BK281.out; obtain ⟨hcz101_0, hcz101_1, hcz101_2, hcz101_3, hcz101_4, hcz101_5, hcz101_6, hcz101_7, hcz101_8⟩ := bC9 BK274.out; obtain ⟨hfz101_0, hfz101_1, hfz101_2, hfz101_3, hfz101_4, hfz101_5, hfz101_6, hfz101_7, hfz101_8⟩ := bF9 BK274.out) | ((with_reducible refine gate_callee (f := 68) rfl ?_); refine goesL_ (some 21) rfl rfl Tryz.func68 (by kernel_rfl) rfl #[.int .i64 a0_7, .int .i64 a0_8, .int .i64 0, .int .i64 0] rfl mS ?_; (with_reducible refine (bucket_New.calls a0_7 a0_8 0 0 t282 t283 t284 t285 t286 _ A3.out).mono ?_); rintro e w102 ⟨rfl, hb⟩; refine ⟨_, rfl, ?_⟩; have n0_ := aA (blk_below (g := gb274) (o := .cells #[.string a0_0, .int .i64 a0_1, .int .i64 a0_2, .int .i64 a0_3, .int .i64 a0_4, .int .i64 a0_5, .int .i64 a0_6, .int .i64 a0_7, .int .i64 a0_8] 41 (0, 0)) (by (with_reducible repeat (first | refine blk_drewN ?_ _ | refine blk_drew ?_ | refine blk_alloc ?_ _)); refine blk_far ?_ NB274_281.out _; (with_reducible repeat (first | refine blk_drewN ?_ _ | refine blk_drew ?_ | refine blk_alloc ?_ _)); refine blk_far ?_ NB274_281.out _; (with_reducible repeat (first | refine blk_drewN ?_ _ | refine blk_drew ?_ | refine blk_alloc ?_ _)); refine blk_far ?_ NB274_281.out _; (with_reducible repeat (first | refine blk_drewN ?_ _ | refine blk_drew ?_ | refine blk_alloc ?_ _)); refine blk_far ?_ NB274_281.out _; (with_reducible repeat (first | refine blk_drewN ?_ _ | refine blk_drew ?_ | refine blk_alloc ?_ _)); refine blk_far ?_ NB274_281.out _; (with_reducible repeat (first | refine blk_drewN ?_ _ | refine blk_drew ?_ | refine blk_alloc ?_ _)); exact BK274.out) hb); have n1_ := aA (blk_below (g := gb281) (o := .cells #[.int .i64 t275, .int .i64 t276, .int .i64 t277, .int .i64 t278, .int .i64 t279] 85 (0, 0)) (by (with_reducible repeat (first | refine blk_drewN ?_ _ | refine blk_drew ?_ | refine blk_alloc ?_ _)); have h_ := BK281.out; exact pK 4 (pK 3 (pK 2 (pK 1 (pK 0 (h_)))))) hb); have n2_ := aA (below_step (mD2 GE274.out GE281.out) hb); clear BK274 BK281 HB; have BK274 := n0_; have BK281 := n1_; have HB := n2_; clear n0_ n1_ n2_; (try clear hb); (try clear hb2); (try clear hk); (try clear hi)) | ((with_reducible refine gate_dst (N := 5) rfl ?_); refine box_event ?hg (N := 5) ?hd (cs := #[.int .i64 0, .int .i64 0, .int .i64 0, .int .i64 0]) (t := 87) ?hr ?_; (case hd => rfl); (case hg => rfl); (case hr => first | (go_simp; done) | (go_simp; rfl)); intro gb287 hg w103 hbox hb; have n0_ := aA (bB BK274.out hb); have n1_ := aA (bB BK281.out hb); have n2_ := aA (below_step (mD2 GE274.out GE281.out) hb); have n3_ := aA (hbox); have n4_ := aA ((bZ hg (mD2 GE274.out GE281.out))); have n5_ := aA ((bZ hg (mD2 GE274.out GE281.out))); have n6_ := aA ((bL hg BK274.out)); have n7_ := aA ((bG hg BK274.out)); have n8_ := aA ((bL hg BK281.out)); have n9_ := aA ((bG hg BK281.out)); clear BK274 BK281 HB; have BK274 := n0_; have BK281 := n1_; have HB := n2_; have BK287 := n3_; have GW287 := n4_; have GE287 := n5_; have NB274_287 := n6_; have NB287_274 := n7_; have NB281_287 := n8_; have NB287_281 := n9_; clear n0_ n1_ n2_ n3_ n4_ n5_ n6_ n7_ n8_ n9_ hb hbox hg; have hnb104 := NB287_274.out; have hnc104 := NB274_287.out; have hnb105 := NB287_281.out; have hnc105 := NB281_287.out; obtain ⟨hcz106_0, hcz106_1, hcz106_2, hcz106_3⟩ := bC4 BK287.out; obtain ⟨hfz106_0, hfz106_1, hfz106_2, hfz106_3⟩ := bF4 BK287.out; obtain ⟨hcz107_0, hcz107_1, hcz107_2, hcz107_3, hcz107_4, hcz107_5, hcz107_6, hcz107_7, hcz107_8⟩ := bC9 BK274.out; obtain ⟨hfz107_0, hfz107_1, hfz107_2, hfz107_3, hfz107_4, hfz107_5, hfz107_6, hfz107_7, hfz107_8⟩ := bF9 BK274.out) | ((with_reducible refine gate_callee (f := 100) rfl ?_); refine goesL_ (some 27) rfl rfl Tryz.func100 (by kernel_rfl) rfl #[.agg #[.int .i64 3, .string a0_0, .string (⟨#[]⟩ : ByteArray)]] rfl mS ?_; (with_reducible refine (label_Matcher.calls 3 a0_0 (⟨#[]⟩ : ByteArray) true _ A4.out).mono ?_); rintro e w108 ⟨rfl, hb⟩; refine ⟨_, rfl, ?_⟩; have n0_ := aA (blk_below (g := gb274) (o := .cells #[.string a0_0, .int .i64 a0_1, .int .i64 a0_2, .int .i64 a0_3, .int .i64 a0_4, .int .i64 a0_5, .int .i64 a0_6, .int .i64 a0_7, .int .i64 a0_8] 41 (0, 0)) (by (with_reducible repeat (first | refine blk_drewN ?_ _ | refine blk_drew ?_ | refine blk_alloc ?_ _)); refine blk_far ?_ NB274_287.out _; (with_reducible repeat (first | refine blk_drewN ?_ _ | refine blk_drew ?_ | refine blk_alloc ?_ _)); refine blk_far ?_ NB274_287.out _; (with_reducible repeat (first | refine blk_drewN ?_ _ | refine blk_drew ?_ | refine blk_alloc ?_ _)); refine blk_far ?_ NB274_287.out _; (with_reducible repeat (first | refine blk_drewN ?_ _ | refine blk_drew ?_ | refine blk_alloc ?_ _)); refine blk_far ?_ NB274_287.out _; (with_reducible repeat (first | refine blk_drewN ?_ _ | refine blk_drew ?_ | refine blk_alloc ?_ _)); exact BK274.out) hb); have n1_ := aA (blk_below (g := gb281) (o := .cells #[.int .i64 t275, .int .i64 t276, .int .i64 t277, .int .i64 t278, .int .i64 t279] 85 (0, 0)) (by (with_reducible repeat (first | refine blk_drewN ?_ _ | refine blk_drew ?_ | refine blk_alloc ?_ _)); refine blk_far ?_ NB281_287.out _; (with_reducible repeat (first | refine blk_drewN ?_ _ | refine blk_drew ?_ | refine blk_alloc ?_ _)); refine blk_far ?_ NB281_287.out _; (with_reducible repeat (first | refine blk_drewN ?_ _ | refine blk_drew ?_ | refine blk_alloc ?_ _)); refine blk_far ?_ NB281_287.out _; (with_reducible repeat (first | refine blk_drewN ?_ _ | refine blk_drew ?_ | refine blk_alloc ?_ _)); refine blk_far ?_ NB281_287.out _; (with_reducible repeat (first | refine blk_drewN ?_ _ | refine blk_drew ?_ | refine blk_alloc ?_ _)); exact BK281.out) hb); have n2_ := aA (blk_below (g := gb287) (o := .cells #[.int .i64 t282, .int .i64 t283, .int .i64 t284, .int .i64 t285] 87 (0, 0)) (by (with_reducible repeat (first | refine blk_drewN ?_ _ | refine blk_drew ?_ | refine blk_alloc ?_ _)); have h_ := BK287.out; exact pK 3 (pK 2 (pK 1 (pK 0 (h_))))) hb); have n3_ := aA (below_step (mD3 GE274.out GE281.out GE287.out) hb); clear BK274 BK281 BK287 HB; have BK274 := n0_; have BK281 := n1_; have BK287 := n2_; have HB := n3_; clear n0_ n1_ n2_ n3_; (try clear hb); (try clear hb2); (try clear hk); (try clear hi); obtain ⟨hcz109_0, hcz109_1, hcz109_2, hcz109_3, hcz109_4, hcz109_5, hcz109_6, hcz109_7, hcz109_8⟩ := bC9 BK274.out; obtain ⟨hfz109_0, hfz109_1, hfz109_2, hfz109_3, hfz109_4, hfz109_5, hfz109_6, hfz109_7, hfz109_8⟩ := bF9 BK274.out) | (go_at_call 101; (with_reducible refine (backoff_Right.calls a0_1 a0_2 a0_3 false _ A22.out).mono ?_); rintro e w110 ⟨rfl, hb⟩; have n0_ := aA (bB BK274.out hb); have n1_ := aA (bB BK281.out hb); have n2_ := aA (bB BK287.out hb); have n3_ := aA (below_step (mD3 GE274.out GE281.out GE287.out) hb); clear BK274 BK281 BK287 HB; have BK274 := n0_; have BK281 := n1_; have BK287 := n2_; have HB := n3_; clear n0_ n1_ n2_ n3_; (try clear hb); (try clear hb2); (try clear hk); (try clear hi)))
    go_ret
    exact ⟨by first | rfl | (simp [errW_none, errW_some] <;> rfl) | (simp [*, errW_none, errW_some] <;> rfl), by repeat (first | (with_reducible first | exact HB.out | apply below_alloc | apply pw_below_drewN | apply below_drew1 | refine below_set ?_ GE274.out | refine below_set ?_ GE281.out | refine below_set ?_ GE287.out) | exact HB.out)⟩
 ·replace c5 := Bool.eq_false_iff.mpr c5
  subst c5
  have H1 : (some false) = some r := by rw [if_neg (show ¬ (false = true) by decide)] at H; exact H
  clear H
  have H := H1
  clear H1
  obtain rfl := Option.some.inj H
  go_enter Tryz.func50, Tryz.ntmps50
  go_wp2_with (first | ((with_reducible refine gate_dst (N := 1) rfl ?_); refine box_event ?hg (N := 1) ?hd (cs := #[.string a0_0, .int .i64 a0_1, .int .i64 a0_2, .int .i64 a0_3, .int .i64 a0_4, .int .i64 a0_5, .int .i64 a0_6, .int .i64 a0_7, .int .i64 a0_8]) (t := 41) ?hr ?_; (case hd => rfl); (case hg => rfl); (case hr => first | (go_simp; done) | (go_simp; rfl)); intro gb274 hg w111 hbox hb; have n0_ := aA (below_step mB hb); have n1_ := aA (hbox); have n2_ := aA ((bZ hg mB)); have n3_ := aA ((bZ hg mB)); clear HB; have HB := n0_; have BK274 := n1_; have GW274 := n2_; have GE274 := n3_; clear n0_ n1_ n2_ n3_ hb hbox hg; obtain ⟨hcz112_0, hcz112_1, hcz112_2, hcz112_3, hcz112_4, hcz112_5, hcz112_6, hcz112_7, hcz112_8⟩ := bC9 BK274.out; obtain ⟨hfz112_0, hfz112_1, hfz112_2, hfz112_3, hfz112_4, hfz112_5, hfz112_6, hfz112_7, hfz112_8⟩ := bF9 BK274.out) | ((with_reducible refine gate_callee (f := 67) rfl ?_); refine goesL_ (some 13) rfl rfl Tryz.func67 (by kernel_rfl) rfl #[.int .i64 a0_5, .int .i64 a0_6] rfl mS ?_; (with_reducible refine (breaker_New.calls k a0_5 a0_6 t275 t276 t277 t278 t279 t280 _ A2.out).mono ?_); rintro e w113 ⟨rfl, hb⟩; refine ⟨_, rfl, ?_⟩; have n0_ := aA (bB BK274.out hb); have n1_ := aA (below_step (mD1 GE274.out) hb); clear BK274 HB; have BK274 := n0_; have HB := n1_; clear n0_ n1_; (try clear hb); (try clear hb2); (try clear hk); (try clear hi)) | ((with_reducible refine gate_dst (N := 3) rfl ?_); refine box_event ?hg (N := 3) ?hd (cs := #[.int .i64 0, .int .i64 0, .int .i64 0, .int .i64 0, .int .i64 0]) (t := 85) ?hr ?_; (case hd => rfl); (case hg => rfl); (case hr => first | (go_simp; done) | (go_simp; rfl)); intro gb281 hg w114 hbox hb; have n0_ := aA (bB BK274.out hb); have n1_ := aA (below_step (mD1 GE274.out) hb); have n2_ := aA (hbox); have n3_ := aA ((bZ hg (mD1 GE274.out))); have n4_ := aA ((bZ hg (mD1 GE274.out))); have n5_ := aA ((bL hg BK274.out)); have n6_ := aA ((bG hg BK274.out)); clear BK274 HB; have BK274 := n0_; have HB := n1_; have BK281 := n2_; have GW281 := n3_; have GE281 := n4_; have NB274_281 := n5_; have NB281_274 := n6_; clear n0_ n1_ n2_ n3_ n4_ n5_ n6_ hb hbox hg; have hnb115 := NB281_274.out; have hnc115 := NB274_281.out; obtain ⟨hcz116_0, hcz116_1, hcz116_2, hcz116_3, hcz116_4⟩ := bC5 BK281.out; obtain ⟨hfz116_0, hfz116_1, hfz116_2, hfz116_3, hfz116_4⟩ := bF5 BK281.out; obtain ⟨hcz117_0, hcz117_1, hcz117_2, hcz117_3, hcz117_4, hcz117_5, hcz117_6, hcz117_7, hcz117_8⟩ := bC9 BK274.out; obtain ⟨hfz117_0, hfz117_1, hfz117_2, hfz117_3, hfz117_4, hfz117_5, hfz117_6, hfz117_7, hfz117_8⟩ := bF9 BK274.out) | ((with_reducible refine gate_callee (f := 68) rfl ?_); refine goesL_ (some 21) rfl rfl Tryz.func68 (by kernel_rfl) rfl #[.int .i64 a0_7, .int .i64 a0_8, .int .i64 0, .int .i64 0] rfl mS ?_; (with_reducible refine (bucket_New.calls a0_7 a0_8 0 0 t282 t283 t284 t285 t286 _ A3.out).mono ?_); rintro e w118 ⟨rfl, hb⟩; refine ⟨_, rfl, ?_⟩; have n0_ := aA (blk_below (g := gb274) (o := .cells #[.string a0_0, .int .i64 a0_1, .int .i64 a0_2, .int .i64 a0_3, .int .i64 a0_4, .int .i64 a0_5, .int .i64 a0_6, .int .i64 a0_7, .int .i64 a0_8] 41 (0, 0)) (by (with_reducible repeat (first | refine blk_drewN ?_ _ | refine blk_drew ?_ | refine blk_alloc ?_ _)); refine blk_far ?_ NB274_281.out _; (with_reducible repeat (first | refine blk_drewN ?_ _ | refine blk_drew ?_ | refine blk_alloc ?_ _)); refine blk_far ?_ NB274_281.out _; (with_reducible repeat (first | refine blk_drewN ?_ _ | refine blk_drew ?_ | refine blk_alloc ?_ _)); refine blk_far ?_ NB274_281.out _; (with_reducible repeat (first | refine blk_drewN ?_ _ | refine blk_drew ?_ | refine blk_alloc ?_ _)); refine blk_far ?_ NB274_281.out _; (with_reducible repeat (first | refine blk_drewN ?_ _ | refine blk_drew ?_ | refine blk_alloc ?_ _)); refine blk_far ?_ NB274_281.out _; (with_reducible repeat (first | refine blk_drewN ?_ _ | refine blk_drew ?_ | refine blk_alloc ?_ _)); exact BK274.out) hb); have n1_ := aA (blk_below (g := gb281) (o := .cells #[.int .i64 t275, .int .i64 t276, .int .i64 t277, .int .i64 t278, .int .i64 t279] 85 (0, 0)) (by (with_reducible repeat (first | refine blk_drewN ?_ _ | refine blk_drew ?_ | refine blk_alloc ?_ _)); have h_ := BK281.out; exact pK 4 (pK 3 (pK 2 (pK 1 (pK 0 (h_)))))) hb); have n2_ := aA (below_step (mD2 GE274.out GE281.out) hb); clear BK274 BK281 HB; have BK274 := n0_; have BK281 := n1_; have HB := n2_; clear n0_ n1_ n2_; (try clear hb); (try clear hb2); (try clear hk); (try clear hi)) | ((with_reducible refine gate_dst (N := 5) rfl ?_); refine box_event ?hg (N := 5) ?hd (cs := #[.int .i64 0, .int .i64 0, .int .i64 0, .int .i64 0]) (t := 87) ?hr ?_; (case hd => rfl); (case hg => rfl); (case hr => first | (go_simp; done) | (go_simp; rfl)); intro gb287 hg w119 hbox hb; have n0_ := aA (bB BK274.out hb); have n1_ := aA (bB BK281.out hb); have n2_ := aA (below_step (mD2 GE274.out GE281.out) hb); have n3_ := aA (hbox); have n4_ := aA ((bZ hg (mD2 GE274.out GE281.out))); have n5_ := aA ((bZ hg (mD2 GE274.out GE281.out))); have n6_ := aA ((bL hg BK274.out)); have n7_ := aA ((bG hg BK274.out)); have n8_ := aA ((bL hg BK281.out)); have n9_ := aA ((bG hg BK281.out)); clear BK274 BK281 HB; have BK274 := n0_; have BK281 := n1_; have HB := n2_; have BK287 := n3_; have GW287 := n4_; have GE287 := n5_; have NB274_287 := n6_; have NB287_274 := n7_; have NB281_287 := n8_; have NB287_281 := n9_; clear n0_ n1_ n2_ n3_ n4_ n5_ n6_ n7_ n8_ n9_ hb hbox hg; have hnb120 := NB287_274.out; have hnc120 := NB274_287.out; have hnb121 := NB287_281.out; have hnc121 := NB281_287.out; obtain ⟨hcz122_0, hcz122_1, hcz122_2, hcz122_3⟩ := bC4 BK287.out; obtain ⟨hfz122_0, hfz122_1, hfz122_2, hfz122_3⟩ := bF4 BK287.out; obtain ⟨hcz123_0, hcz123_1, hcz123_2, hcz123_3, hcz123_4, hcz123_5, hcz123_6, hcz123_7, hcz123_8⟩ := bC9 BK274.out; obtain ⟨hfz123_0, hfz123_1, hfz123_2, hfz123_3, hfz123_4, hfz123_5, hfz123_6, hfz123_7, hfz123_8⟩ := bF9 BK274.out) | ((with_reducible refine gate_callee (f := 100) rfl ?_); refine goesL_ (some 27) rfl rfl Tryz.func100 (by kernel_rfl) rfl #[.agg #[.int .i64 3, .string a0_0, .string (⟨#[]⟩ : ByteArray)]] rfl mS ?_; (with_reducible refine (label_Matcher.calls 3 a0_0 (⟨#[]⟩ : ByteArray) false _ A4.out).mono ?_); rintro e w124 ⟨rfl, hb⟩; refine ⟨_, rfl, ?_⟩; have n0_ := aA (blk_below (g := gb274) (o := .cells #[.string a0_0, .int .i64 a0_1, .int .i64 a0_2, .int .i64 a0_3, .int .i64 a0_4, .int .i64 a0_5, .int .i64 a0_6, .int .i64 a0_7, .int .i64 a0_8] 41 (0, 0)) (by (with_reducible repeat (first | refine blk_drewN ?_ _ | refine blk_drew ?_ | refine blk_alloc ?_ _)); refine blk_far ?_ NB274_287.out _; (with_reducible repeat (first | refine blk_drewN ?_ _ | refine blk_drew ?_ | refine blk_alloc ?_ _)); refine blk_far ?_ NB274_287.out _; (with_reducible repeat (first | refine blk_drewN ?_ _ | refine blk_drew ?_ | refine blk_alloc ?_ _)); refine blk_far ?_ NB274_287.out _; (with_reducible repeat (first | refine blk_drewN ?_ _ | refine blk_drew ?_ | refine blk_alloc ?_ _)); refine blk_far ?_ NB274_287.out _; (with_reducible repeat (first | refine blk_drewN ?_ _ | refine blk_drew ?_ | refine blk_alloc ?_ _)); exact BK274.out) hb); have n1_ := aA (blk_below (g := gb281) (o := .cells #[.int .i64 t275, .int .i64 t276, .int .i64 t277, .int .i64 t278, .int .i64 t279] 85 (0, 0)) (by (with_reducible repeat (first | refine blk_drewN ?_ _ | refine blk_drew ?_ | refine blk_alloc ?_ _)); refine blk_far ?_ NB281_287.out _; (with_reducible repeat (first | refine blk_drewN ?_ _ | refine blk_drew ?_ | refine blk_alloc ?_ _)); refine blk_far ?_ NB281_287.out _; (with_reducible repeat (first | refine blk_drewN ?_ _ | refine blk_drew ?_ | refine blk_alloc ?_ _)); refine blk_far ?_ NB281_287.out _; (with_reducible repeat (first | refine blk_drewN ?_ _ | refine blk_drew ?_ | refine blk_alloc ?_ _)); refine blk_far ?_ NB281_287.out _; (with_reducible repeat (first | refine blk_drewN ?_ _ | refine blk_drew ?_ | refine blk_alloc ?_ _)); exact BK281.out) hb); have n2_ := aA (blk_below (g := gb287) (o := .cells #[.int .i64 t282, .int .i64 t283, .int .i64 t284, .int .i64 t285] 87 (0, 0)) (by (with_reducible repeat (first | refine blk_drewN ?_ _ | refine blk_drew ?_ | refine blk_alloc ?_ _)); have h_ := BK287.out; exact pK 3 (pK 2 (pK 1 (pK 0 (h_))))) hb); have n3_ := aA (below_step (mD3 GE274.out GE281.out GE287.out) hb); clear BK274 BK281 BK287 HB; have BK274 := n0_; have BK281 := n1_; have BK287 := n2_; have HB := n3_; clear n0_ n1_ n2_ n3_; (try clear hb); (try clear hb2); (try clear hk); (try clear hi)))
  go_ret
  exact ⟨by first | rfl | (simp [errW_none, errW_some] <;> rfl) | (simp [*, errW_none, errW_some] <;> rfl), by repeat (first | (with_reducible first | exact HB.out | apply below_alloc | apply pw_below_drewN | apply below_drew1 | refine below_set ?_ GE274.out | refine below_set ?_ GE281.out | refine below_set ?_ GE287.out) | exact HB.out)⟩
end Go.Proofs.YtejdpjmfnpbadaaGreatDoorQ.P
namespace Go.Proofs.YtejdpjmfnpbadaaGreatDoor
open Go.RowKit Go.Proofs.YtejdpjmfnpbadaaGreatDoorW.PrintWords Go.Proofs.YtejdpjmfnpbadaaGreatDoorW.PrintMore
theorem w64 {x : Int} (h0 : -9223372036854775808 ≤ x) (h1 : x ≤ 9223372036854775807) : wrap64 x = x := by unfold wrap64; omega
theorem w64s {i : Nat} (h : i < 9223372036854775807) : wrap64 ((i : Int) + 1) = ((i + 1 : Nat) : Int) := by rw [w64 (by omega) (by omega)]; omega
theorem getD_cast {α : Type} {z : α} {xs : List α} {i : Nat} (h : i < xs.length) : xs.getD (i : Int).toNat z = xs[i] := by
  rw [List.getD_eq_getElem?_getD, Int.toNat_natCast, List.getElem?_eq_getElem h]
  rfl
theorem mn_eq (a b : Int) : mn a b = min a b := by unfold mn; omega
theorem mx_eq (a b : Int) : mx a b = max a b := by unfold mx; omega
theorem take_mn {α : Type} (n : Nat) (m : Int) (xs : List α) (hm : m = n) : xs.take (mn (xs.length : Int) m).toNat = xs.take n := by
  subst hm
  rw [mn_eq]
  rcases Nat.le_total xs.length n with h | h
  · rw [List.take_of_length_le (by omega), List.take_of_length_le h]
  · rw [show (min (xs.length : Int) n).toNat = n by omega]
end Go.Proofs.YtejdpjmfnpbadaaGreatDoor
namespace Go.Proofs.YtejdpjmfnpbadaaGreatDoorQ.P
open Go.RowKit Go.Proofs.YtejdpjmfnpbadaaGreatDoorW.PrintWords Go.Proofs.YtejdpjmfnpbadaaGreatDoorW.PrintLast Go.Proofs.YtejdpjmfnpbadaaGreatDoorW.PrintMore Go.Proofs.YtejdpjmfnpbadaaGreatDoor
theorem bin_f (a b c : Int) : breaker_in.f a b c = some (rngB a b c) := by
  unfold breaker_in.f rngB
  by_cases h : b ≤ a
  · rw [if_pos (by omega), decide_eq_true h, Bool.true_and]
  · rw [if_neg (by omega), decide_eq_false h, Bool.false_and]
theorem uin_f (a b c : Int) : bucket_in.f a b c = some (rngB a b c) := bin_f a b c
theorem oin_f (a b c : Int) : backoff_in.f a b c = some (rngB a b c) := bin_f a b c
theorem brNew_f (k : Nat) (a b : Int) : ∃ r1 r2 r3 r4 r5, breaker_New.f (k + 1) a b = some (r1, r2, r3, r4, r5, if (rngB a 1 100 && rngB b 1 1048576) = true then 0 else 1) := by
  have hR : breaker_Right.f (k + 1) a b 0 0 0 = some (rngB a 1 100 && rngB b 1 1048576) := by
    unfold breaker_Right.f
    rw [bin_f, bin_f]
    simp only [Option.bind_some]
    cases h1 : rngB a 1 100
    · rw [if_neg (by simp), breaker_Right.j0, if_pos rfl]
      rfl
    · cases h2 : rngB b 1 1048576
      · rw [if_pos rfl, breaker_Right.j0, if_pos rfl]
        rfl
      · have h3 : rngB 0 0 (wrap64 (a - 1)) = true := by
          unfold rngB at h1 ⊢
          simp only [Bool.and_eq_true, decide_eq_true_eq] at h1 ⊢
          rw [w64 (by omega) (by omega)]
          omega
        rw [if_pos rfl, breaker_Right.j0, if_neg (by simp), if_neg (by decide), if_neg (by decide), if_pos rfl, bin_f, h3, Option.bind_some, if_pos rfl]
        rfl
  unfold breaker_New.f
  rw [hR, Option.bind_some]
  cases (rngB a 1 100 && rngB b 1 1048576)
  · exact ⟨_, _, _, _, _, rfl⟩
  · exact ⟨_, _, _, _, _, rfl⟩
theorem buNew_f (a b : Int) : ∃ r1 r2 r3 r4, bucket_New.f a b 0 0 = some (r1, r2, r3, r4, if (rngB a 1 100 && rngB b 1 1048576) = true then 0 else 1) := by
  have hR : bucket_Right.f a b 0 0 = some (rngB a 1 100 && rngB b 1 1048576) := by
    unfold bucket_Right.f
    rw [uin_f, uin_f, uin_f]
    simp only [Option.bind_some]
    cases h1 : rngB a 1 100
    · rfl
    · cases h2 : rngB b 1 1048576
      · rfl
      · have h3 : rngB 0 0 a = true := by
          unfold rngB at h1 ⊢
          simp only [Bool.and_eq_true, decide_eq_true_eq] at h1 ⊢
          omega
        rw [if_pos rfl, if_pos rfl, h3, if_pos rfl]
        rfl
  unfold bucket_New.f
  rw [hR, Option.bind_some]
  cases (rngB a 1 100 && rngB b 1 1048576)
  · exact ⟨_, _, _, _, rfl⟩
  · exact ⟨_, _, _, _, rfl⟩
theorem back_f (a b c : Int) : backoff_Right.f a b c = some (rngB a 1 1048576 && rngB b a 1073741824 && rngB c 0 1048576) := by
  unfold backoff_Right.f
  rw [oin_f, oin_f, oin_f]
  cases rngB a 1 1048576 <;> cases rngB b a 1073741824 <;> rfl
theorem rcv_f {x : Rcv} (h : x.name.size ≤ maxLen) : config_isReceiver.f 2 x.name x.base x.top x.jit x.tries x.fails x.opn x.burst x.every = some (rcvB x) := by
  obtain ⟨r1, r2, r3, r4, r5, e1⟩ := brNew_f 1 x.fails x.opn
  obtain ⟨s1, s2, s3, s4, e2⟩ := buNew_f x.burst x.every
  have hM : label_Matcher.f 3 x.name (⟨#[]⟩ : ByteArray) = some (nameB x.name) := by
    unfold label_Matcher.f
    rw [if_pos (by unfold matOkB; simp only [Bool.and_eq_true, decide_eq_true_eq]; exact ⟨h, by unfold maxLen; show 0 ≤ _; omega⟩)]
    show some (decide ((0 : Int) ≤ 3) && decide ((3 : Int) ≤ 3) && nameB x.name && valB ⟨#[]⟩ && (decide ((3 : Int) ≠ 3) || decide ((⟨#[]⟩ : ByteArray).size = 0))) = _
    rw [show valB ⟨#[]⟩ = true from by decide, show decide ((⟨#[]⟩ : ByteArray).size = 0) = true from rfl]
    cases nameB x.name <;> rfl
  unfold config_isReceiver.f
  rw [e1, Option.bind_some, e2, Option.bind_some, hM, Option.bind_some]
  unfold rcvB
  simp only
  cases nameB x.name
  · simp
  · rw [if_pos rfl]
    by_cases hn : x.name.data.toList = ifT
    · rw [if_pos (by rw [ByteArray.toList_eq]; exact hn), decide_eq_false (by simpa using hn)]
      simp
    · rw [if_neg (by rw [ByteArray.toList_eq]; exact hn), decide_eq_true (by simpa using hn), back_f, Option.bind_some]
      cases (rngB x.base 1 1048576 && rngB x.top x.base 1073741824 && rngB x.jit 0 1048576)
      · simp
      · rw [if_pos rfl]
        unfold rngB
        by_cases t1 : 1 ≤ x.tries
        · by_cases t2 : x.tries ≤ 100
          · rw [if_pos (by omega), if_pos (by omega), decide_eq_true t1, decide_eq_true t2]
            cases h1 : (decide (1 ≤ x.fails) && decide (x.fails ≤ 100) && (decide (1 ≤ x.opn) && decide (x.opn ≤ 1048576))) <;> cases h2 : (decide (1 ≤ x.burst) && decide (x.burst ≤ 100) && (decide (1 ≤ x.every) && decide (x.every ≤ 1048576))) <;> simp
          · rw [if_pos (by omega), if_neg (by omega), decide_eq_false t2]
            simp
        · rw [if_neg (by omega), decide_eq_false t1]
          simp
theorem isReceiver_any (x : Rcv) (w : World) (h : x.name.size ≤ maxLen) : Calls Tryz.prog 50 #[rcvV x] w fun e w' => e = .returned (.bool (rcvB x)) ∧ Below w.heap.size w w' :=
  config_isReceiver.calls 2 x.name x.base x.top x.jit x.tries x.fails x.opn x.burst x.every (rcvB x) w (rcv_f h)
end Go.Proofs.YtejdpjmfnpbadaaGreatDoorQ.P
namespace Go.Proofs.YtejdpjmfnpbadaaGreatDoor
open Go.RowKit Go.Proofs.YtejdpjmfnpbadaaGreatDoorQ.P
attribute [local go_sem high] ext_size ext_cell ext_frozen alloc_cell alloc_frozen
attribute [local go_sem] lt_more lt_suc drew_size drew_cell
structure RtV where
  c : Value
  a : Value
  t : Rte
def rtvV (x : RtV) : Value := .agg #[x.c, x.a]
def rtvC (x : RtV) : List Value := [x.c, x.a]
def rtvsC (xs : List RtV) : List Value := xs.flatMap rtvC
theorem rtvs_get (xs : List RtV) (i : Nat) (h : i < xs.length) : (rtvsC xs)[i * 2]? = some xs[i].c ∧ (rtvsC xs)[i * 2 + 1]? = some xs[i].a :=
  ⟨flat_get (en := rtvC) (sz := 2) (fun _ => rfl) xs i 0 h (by omega), flat_get (en := rtvC) (sz := 2) (fun _ => rfl) xs i 1 h (by omega)⟩
def PredT (f : FuncId) (caps : Array Value) (w : World) (p : RtV → Bool) (xs : List RtV) : Prop :=
  ∀ x ∈ xs, ∀ W, Below w.heap.size w W → Calls Tryz.prog f (#[rtvV x] ++ caps) W fun e W' => e = .returned (.bool (p x)) ∧ Below W.heap.size W W'
theorem indexFuncT (v : Value) (xs : List RtV) (f : FuncId) (caps : Array Value) (p : RtV → Bool) (w : World) (hS : SlAt w v 2 xs.length (rtvsC xs)) (hp : PredT f caps w p xs) (hf : Enters Tryz.prog f) :
    Calls Tryz.prog 104 #[v, .func (.func f) #[] caps] w fun e w' => e = .returned (.int .i64 (idxOf p xs)) ∧ Below w.heap.size w w' := by
  obtain ⟨a, c, rfl, hnc, hcm⟩ := hS.form
  have hm := hS.le
  have HS := Lib.hid hS
  have HP := Lib.hid hp
  clear hS hp
  unfold maxLen at hm
  go_enter Tryz.func104, Tryz.ntmps104
  go_wp2
  go_loopw [5, 8] (fun _ i wr => ∃ k : Nat, k ≤ xs.length ∧ i = .int .i64 k ∧ (∀ j (hj : j < xs.length), j < k → p xs[j] = false) ∧ Below w.heap.size w wr) (fun _ i _ => xs.length - (intOf i).toNat)
  case atStart => exact ⟨0, Nat.zero_le _, rfl, fun j _ hj => absurd hj (by omega), Below.refl _ _⟩
  case round =>
    obtain ⟨k, hk, rfl, hno, hbel⟩ := hrel
    have HN := Lib.hid hno
    clear hno
    obtain ⟨xr, rfl⟩ := ext_of hbel
    by_cases hlt : k < xs.length
    · obtain ⟨b, o, rfl, hbl, hcell⟩ := HS.out.at (by omega)
      have hg := rtvs_get xs k hlt
      have hck0 : w.cell? ⟨b, o + k * 2, none⟩ = some (xs[k].c) := by exact hcell _ _ hg.1
      have hck1 : w.cell? ⟨b, o + k * 2 + 1, none⟩ = some (xs[k].a) := by rw [Nat.add_assoc]; exact hcell _ _ hg.2
      clear hcell hg
      have hcall : Calls Tryz.prog f (#[Value.agg #[xs[k].c, xs[k].a]] ++ caps) (ext w xr) fun e W' => e = .returned (.bool (p xs[k])) ∧ Below (ext w xr).heap.size (ext w xr) W' := HP.out xs[k] (List.getElem_mem hlt) (ext w xr) hbel
      have he := hf (#[Value.agg #[xs[k].c, xs[k].a]] ++ caps) (ext w xr)
      cases hpx : p xs[k]
      all_goals
        rw [hpx] at hcall
        have HX := Lib.hid hpx
        have HC := Lib.hid hcall
        clear hpx hcall hbel
        go_wp2_with (refine Calls.mono HC.out ?_; rintro e w1 ⟨rfl, hb1⟩)
      · refine ⟨⟨k + 1, by omega, by go_num, fun j hj hjk => ?_, bel (ext_bel w xr) hb1⟩, by simp [intOf]; omega⟩
        rcases Nat.lt_succ_iff_lt_or_eq.1 hjk with h | rfl
        · exact HN.out j hj h
        · exact HX.out
      · go_ret
        exact ⟨ret_int (idxOf_found hlt HX.out fun j hj => HN.out j (by omega) hj).symm, bel (ext_bel w xr) hb1⟩
    · obtain rfl : k = xs.length := by omega
      go_wp2
      go_ret
      exact ⟨ret_int (idxOf_none fun j hj => HN.out j hj hj).symm, ext_bel w xr⟩
theorem containsFuncT (v : Value) (xs : List RtV) (f : FuncId) (caps : Array Value) (p : RtV → Bool) (w : World) (hS : SlAt w v 2 xs.length (rtvsC xs)) (hp : PredT f caps w p xs) (hf : Enters Tryz.prog f) :
    Calls Tryz.prog 52 #[v, .func (.func f) #[] caps] w fun e w' => e = .returned (.bool (xs.any p)) ∧ Below w.heap.size w w' := by
  have hi := Lib.hid (idxOf_any p xs)
  have HI := Lib.hid (indexFuncT v xs f caps p w hS hp hf)
  obtain ⟨a, c, rfl, hnc, hcm⟩ := hS.form
  clear hp hS
  go_enter Tryz.func52, Tryz.ntmps52
  go_wp2_with fail
  refine HI.out.mono ?_
  rintro e w1 ⟨rfl, hb1⟩
  go_wp2
  go_ret
  exact ⟨ret_bool hi.out, hb1⟩
structure RtOk (w : World) (x : RtV) : Prop where
  c : SlAt w x.c 1 x.t.chain.length (intsC x.t.chain)
  a : SlAt w x.a 3 x.t.asked.length (matsC x.t.asked)
  m : MatsOk x.t.asked
  wf : ∀ k ∈ x.t.chain, (Lit.int .i64 k).wf = true
  len : x.t.chain.length ≤ maxLen
theorem RtOk.stay {w W : World} {x : RtV} (h : RtOk w x) (hb : Below w.heap.size w W) : RtOk W x := ⟨h.c.stay hb, h.a.stay hb, h.m, h.wf, h.len⟩
theorem right1_any (x : RtV) (g : Nat) (a : Option Addr) (n c : Nat) (w : World) (hr : RtOk w x) (hc : w.cell? ⟨g, 0, none⟩ = some (.slice a n c)) (hg : g < w.heap.size) :
    Calls Tryz.prog 53 #[rtvV x, .pointer (some ⟨g, 0, none⟩)] w fun e w' => e = .returned (.bool (!rteB x.t n)) ∧ Below w.heap.size w w' := by
  obtain ⟨a1, c1, e1, _, _⟩ := hr.c.form
  obtain ⟨a2, c2, e2, _, _⟩ := hr.a.form
  obtain ⟨h1, h2, h3, h4, h5⟩ := hr
  rw [e1] at h1
  rw [e2] at h2
  have H := Lib.hid fun W (g1 : SlAt W (.slice a1 x.t.chain.length c1) 1 x.t.chain.length (intsC x.t.chain)) (g2 : SlAt W (.slice a2 x.t.asked.length c2) 3 x.t.asked.length (matsC x.t.asked)) => isRoute_any a1 a2 c1 c2 x.t n W g1 g2 h3 h4 h5
  have H1 := Lib.hid h1
  have H2 := Lib.hid h2
  unfold rtvV
  rw [e1, e2]
  generalize rteB x.t n = r at H ⊢
  clear h1 h2 h3 h4 h5 e1 e2
  go_enter Tryz.func53, Tryz.ntmps53
  go_wp2_with fail
  refine (H.out _ (H1.out.stay (by repeat (first | exact Below.refl _ _ | apply bal | apply bext | apply bdr | apply bdrN | (refine bst ?_ _ (by simp only [ext_size, size_alloc, size_set]; omega))))) (H2.out.stay (by repeat (first | exact Below.refl _ _ | apply bal | apply bext | apply bdr | apply bdrN | (refine bst ?_ _ (by simp only [ext_size, size_alloc, size_set]; omega)))))).mono ?_
  rintro e w' ⟨rfl, hb⟩
  obtain ⟨y, rfl⟩ := ext_of hb
  clear hb
  go_wp2_with fail
  go_ret
  exact ⟨rfl, (by repeat (first | exact Below.refl _ _ | apply bal | apply bext | apply bdr | apply bdrN | (refine bst ?_ _ (by simp only [ext_size, size_alloc, size_set]; omega))))⟩
theorem SlAt.take {W : World} {a : Option Addr} {n c sz i : Nat} {cells : List Value} (h : SlAt W (.slice a n c) sz n cells) (hi : i ≤ n) : SlAt W (.slice a i c) sz i (cells.take (i * sz)) := by
  obtain ⟨hl, a', c', hv, h1, h2, h3⟩ := h
  injection hv with hv1 _ hv2
  subst hv1 hv2
  refine ⟨by rw [List.length_take, hl]; exact Nat.min_eq_left (Nat.mul_le_mul_right _ hi), a, c, rfl, by omega, by omega, ?_⟩
  rcases h3 with h3 | ⟨b, o, ha, hlt, hc⟩
  · exact .inl (by omega)
  · refine .inr ⟨b, o, ha, hlt, fun j u hj => ?_⟩
    rw [List.getElem?_take] at hj
    split at hj
    · exact hc j u hj
    · cases hj
theorem rcvs_take (xs : List Rcv) (i : Nat) : (rcvsC xs).take (i * 9) = rcvsC (xs.take i) := by
  induction i generalizing xs with
  | zero => simp [rcvsC]
  | succ i ih =>
    cases xs with
    | nil => simp [rcvsC]
    | cons x xs =>
      unfold rcvsC at ih ⊢
      rw [List.flatMap_cons, List.take_succ_cons, List.flatMap_cons, show (i + 1) * 9 = (rcvC x).length + i * 9 by show _ = 9 + i * 9; omega, List.take_length_add_append, ih]
theorem rcvsB_at : ∀ (l seen : List Rcv) (k : Nat) (h : k < l.length), rcvsB seen l = true → rcvB l[k] = true ∧ placeL (seen ++ l.take k) l[k].name < 0 := by
  intro l
  induction l with
  | nil => intro seen k h; simp at h
  | cons x l ih =>
    intro seen k h hb
    simp only [rcvsB, Bool.and_eq_true, decide_eq_true_eq] at hb
    cases k with
    | zero => exact ⟨hb.1.1, by simpa using hb.1.2⟩
    | succ k =>
      have := ih (seen ++ [x]) k (by simpa using h) hb.2
      simpa using this
theorem rcvsB_of : ∀ (l seen : List Rcv), (∀ k (h : k < l.length), rcvB l[k] = true ∧ placeL (seen ++ l.take k) l[k].name < 0) → rcvsB seen l = true := by
  intro l
  induction l with
  | nil => intro seen _; rfl
  | cons x l ih =>
    intro seen h
    have h0 := h 0 (by simp)
    simp only [rcvsB, Bool.and_eq_true, decide_eq_true_eq]
    refine ⟨⟨h0.1, by simpa using h0.2⟩, ih (seen ++ [x]) fun k hk => ?_⟩
    have := h (k + 1) (by simpa using hk)
    simpa using this
theorem rcvs_bad {c : Cfg} {k : Nat} (h : k < c.rs.length) (hb : rcvB c.rs[k] = false ∨ 0 ≤ placeL (c.rs.take k) c.rs[k].name) : false = c.okB := by
  have : rcvsB [] c.rs = false := by
    cases e : rcvsB [] c.rs with
    | false => rfl
    | true =>
      have := rcvsB_at c.rs [] k h e
      rw [List.nil_append] at this
      rcases hb with hb | hb
      · rw [hb] at this; cases this.1
      · omega
  unfold Cfg.okB
  rw [this]
  rfl
theorem often_any (n : Int) (w : World) : Calls Tryz.prog 55 #[.int .i64 n] w fun e w' => e = .returned (.bool (oftenB n)) ∧ Below w.heap.size w w' := by
  by_cases h0 : 1 ≤ n <;> by_cases h1 : n ≤ 1073741824
  all_goals
    go_enter Tryz.func55, Tryz.ntmps55
    go_wp2_with fail
    go_ret
    exact ⟨ret_bool (by simp [oftenB, rngB, h0, h1]), (by repeat (first | exact Below.refl _ _ | apply bal | apply bext | apply bdr | apply bdrN | (refine bst ?_ _ (by simp only [ext_size, size_alloc, size_set]; omega))))⟩
set_option maxHeartbeats 4000000 in
set_option maxRecDepth 100000 in
theorem cfgRight_any (v0 v1 : Value) (c : Cfg) (xs : List RtV) (w : World) (h0 : SlAt w v0 9 c.rs.length (rcvsC c.rs)) (h1 : SlAt w v1 2 xs.length (rtvsC xs)) (hx : xs.map (·.t) = c.ts) (hok : ∀ x ∈ xs, RtOk w x) (hn : ∀ x ∈ c.rs, x.name.size ≤ maxLen) :
    Calls Tryz.prog 20 #[.agg #[v0, v1, .int .i64 c.rep, .int .i64 c.beat]] w fun e w' => e = .returned (.bool c.okB) ∧ Below w.heap.size w w' := by
  obtain ⟨a0, c0, rfl, _, hm0⟩ := h0.form
  obtain ⟨a1, c1, rfl, _, hm1⟩ := h1.form
  have hen : Enters Tryz.prog 53 := enters_of Tryz.func53 (by kernel_rfl) rfl
  have H0 := Lib.hid h0
  have HC := Lib.hid fun (g : Nat) W (hb : Below w.heap.size w W) (hc : W.cell? ⟨g, 0, none⟩ = some (.slice a0 c.rs.length c0)) (hg : g < W.heap.size) =>
    containsFuncT (.slice a1 xs.length c1) xs 53 #[.pointer (some ⟨g, 0, none⟩)] (fun x => !rteB x.t c.rs.length) W (h1.stay hb) (fun x hx W' hW' => right1_any x g a0 c.rs.length c0 W' ((hok x hx).stay (bel hb hW')) ((hW'.cell (p := ⟨g, 0, none⟩) hg).trans hc) (Nat.lt_of_lt_of_le hg hW'.size)) hen
  obtain ⟨q, hq⟩ : ∃ q, q = xs.any (fun x => !rteB x.t c.rs.length) := ⟨_, rfl⟩
  rw [← hq] at HC
  have hq2 : q = c.ts.any (fun t => !rteB t c.rs.length) := by rw [hq, ← hx, List.any_map]; rfl
  have hxl : xs.length = c.ts.length := by rw [← hx, List.length_map]
  have HP := Lib.hid fun (k : Nat) (h : k < c.rs.length) W (hs : SlAt W (.slice a0 c.rs.length c0) 9 c.rs.length (rcvsC c.rs)) =>
    place_any (.slice a0 k c0) (c.rs.take k) c.rs[k].name W (by have := hs.take (Nat.le_of_lt h); rw [rcvs_take] at this; rwa [show (c.rs.take k).length = k by rw [List.length_take]; omega])
  have HI := Lib.hid fun (k : Nat) (h : k < c.rs.length) W => isReceiver_any c.rs[k] W (hn _ (List.getElem_mem h))
  have HO1 := Lib.hid fun W => often_any c.rep W
  have HO2 := Lib.hid fun W => often_any c.beat W
  have HB := Lib.hid (fun (k : Nat) (h : k < c.rs.length) => rcvs_bad (c := c) h)
  have HOK := Lib.hid (show (∀ k (h : k < c.rs.length), rcvB c.rs[k] = true ∧ placeL (c.rs.take k) c.rs[k].name < 0) → (!q && (decide (1 ≤ c.rs.length) && decide (c.rs.length ≤ 4) && decide (1 ≤ xs.length) && decide (xs.length ≤ 4)) && oftenB c.rep && oftenB c.beat) = c.okB from fun h => by
    unfold Cfg.okB
    rw [rcvsB_of c.rs [] (by simpa using h), Bool.true_and, hq2, hxl])
  generalize c.okB = res at HB HOK ⊢
  generalize oftenB c.rep = o1 at HO1 HOK
  generalize oftenB c.beat = o2 at HO2 HOK
  obtain ⟨rs, ts, rep, beat⟩ := c
  simp only at *
  unfold maxLen at hm0 hm1
  clear h0 h1 hx hok hn hen hq hq2 hxl
  go_enter Tryz.func20, Tryz.ntmps20
  go_wp2
  go_loopw [9] (fun i wr => ∃ k : Nat, k ≤ rs.length ∧ i = .int .i64 k ∧ (∀ j (hj : j < rs.length), j < k → rcvB rs[j] = true ∧ placeL (rs.take j) rs[j].name < 0) ∧ Below (w.heap.size + 1) (w.alloc (.cells #[.slice a0 rs.length c0, .slice a1 xs.length c1, .int .i64 rep, .int .i64 beat] 25)) wr) (fun i _ => rs.length - (intOf i).toNat)
  case atStart => exact ⟨0, Nat.zero_le _, rfl, fun j _ hj => absurd hj (by omega), Below.refl _ _⟩
  case round =>
    obtain ⟨k, hk, rfl, hno, hbel⟩ := hrel
    have HN := Lib.hid hno
    clear hno
    have hbel' : Below (w.alloc (.cells #[.slice a0 rs.length c0, .slice a1 xs.length c1, .int .i64 rep, .int .i64 beat] 25)).heap.size (w.alloc (.cells #[.slice a0 rs.length c0, .slice a1 xs.length c1, .int .i64 rep, .int .i64 beat] 25)) wr := by rw [size_alloc]; exact hbel
    obtain ⟨xr, rfl⟩ := ext_of hbel'
    clear hbel hbel'
    by_cases hlt : k < rs.length
    · obtain ⟨b, o, ha, hbl, hcell⟩ := H0.out.at (by omega)
      obtain rfl := ha
      have hg := rcvs_get rs k hlt
      have hck0 : w.cell? ⟨b, o + k * 9, none⟩ = some (.string rs[k].name) := by exact hcell _ _ hg.1
      have hck1 : w.cell? ⟨b, o + k * 9 + 1, none⟩ = some (.int .i64 rs[k].base) := by rw [Nat.add_assoc]; exact hcell _ _ hg.2.1
      have hck2 : w.cell? ⟨b, o + k * 9 + 2, none⟩ = some (.int .i64 rs[k].top) := by rw [Nat.add_assoc]; exact hcell _ _ hg.2.2.1
      have hck3 : w.cell? ⟨b, o + k * 9 + 3, none⟩ = some (.int .i64 rs[k].jit) := by rw [Nat.add_assoc]; exact hcell _ _ hg.2.2.2.1
      have hck4 : w.cell? ⟨b, o + k * 9 + 4, none⟩ = some (.int .i64 rs[k].tries) := by rw [Nat.add_assoc]; exact hcell _ _ hg.2.2.2.2.1
      have hck5 : w.cell? ⟨b, o + k * 9 + 5, none⟩ = some (.int .i64 rs[k].fails) := by rw [Nat.add_assoc]; exact hcell _ _ hg.2.2.2.2.2.1
      have hck6 : w.cell? ⟨b, o + k * 9 + 6, none⟩ = some (.int .i64 rs[k].opn) := by rw [Nat.add_assoc]; exact hcell _ _ hg.2.2.2.2.2.2.1
      have hck7 : w.cell? ⟨b, o + k * 9 + 7, none⟩ = some (.int .i64 rs[k].burst) := by rw [Nat.add_assoc]; exact hcell _ _ hg.2.2.2.2.2.2.2.1
      have hck8 : w.cell? ⟨b, o + k * 9 + 8, none⟩ = some (.int .i64 rs[k].every) := by rw [Nat.add_assoc]; exact hcell _ _ hg.2.2.2.2.2.2.2.2
      clear hcell hg
      have HI' := Lib.hid (HI.out k hlt)
      have HP' := Lib.hid (HP.out k hlt)
      have HB' := Lib.hid (HB.out k hlt)
      have HX := Lib.hid (show ∀ (r1 : rcvB rs[k] = true) (r2 : placeL (rs.take k) rs[k].name < 0), ∀ j (hj : j < rs.length), j < k + 1 → rcvB rs[j] = true ∧ placeL (rs.take j) rs[j].name < 0 from fun r1 r2 j hj hjk => by
        rcases Nat.lt_succ_iff_lt_or_eq.1 hjk with h | rfl
        · exact HN.out j hj h
        · exact ⟨r1, r2⟩)
      generalize rs[k] = y at *
      obtain ⟨n, f1, f2, f3, f4, f5, f6, f7, f8⟩ := y
      unfold rcvV at HI'
      simp only at *
      generalize rcvB ⟨n, f1, f2, f3, f4, f5, f6, f7, f8⟩ = ry at *
      generalize placeL (rs.take k) n = py at *
      clear HI HP HB
      cases ry
      · go_wp2
        refine wp_region_ext (by kernel_rfl) (by kernel_rfl) ?_
        repeat (go_big_quiet_step ((first | (go_at_call 50; exact Calls.grew (HI'.out _)))))
        refine wpQuiet_nil ?_
        intro _ hw'
        obtain ⟨y1, rfl⟩ := hw'
        go_wp2
        go_ret
        exact ⟨ret_bool (HB'.out (.inl trivial)), (by repeat (first | exact Below.refl _ _ | apply bal | apply bext | apply bdr | apply bdrN | (refine bst ?_ _ (by simp only [ext_size, size_alloc, size_set]; omega))))⟩
      · by_cases hp : 0 ≤ py
        · have hp' := hp
          go_wp2
          refine wp_region_ext (by kernel_rfl) (by kernel_rfl) ?_
          repeat (go_big_quiet_step ((first | (go_at_call 50; exact Calls.grew (HI'.out _)) | (go_at_call 51; exact Calls.grew (HP'.out _ (H0.out.stay (by repeat (first | exact Below.refl _ _ | apply bal | apply bext | apply bdr | apply bdrN | (refine bst ?_ _ (by simp only [ext_size, size_alloc, size_set]; omega))))))))))
          refine wpQuiet_nil ?_
          intro _ hw'
          obtain ⟨y1, rfl⟩ := hw'
          go_wp2
          go_ret
          exact ⟨ret_bool (HB'.out (.inr hp')), (by repeat (first | exact Below.refl _ _ | apply bal | apply bext | apply bdr | apply bdrN | (refine bst ?_ _ (by simp only [ext_size, size_alloc, size_set]; omega))))⟩
        · have hp' := hp
          go_wp2
          refine wp_region_ext (by kernel_rfl) (by kernel_rfl) ?_
          repeat (go_big_quiet_step ((first | (go_at_call 50; exact Calls.grew (HI'.out _)) | (go_at_call 51; exact Calls.grew (HP'.out _ (H0.out.stay (by repeat (first | exact Below.refl _ _ | apply bal | apply bext | apply bdr | apply bdrN | (refine bst ?_ _ (by simp only [ext_size, size_alloc, size_set]; omega))))))))))
          refine wpQuiet_nil ?_
          intro _ hw'
          obtain ⟨y1, rfl⟩ := hw'
          go_wp2
          refine ⟨⟨k + 1, by omega, by go_num, HX.out trivial (by omega), ?_⟩, by simp [intOf]; omega⟩
          have hb9 := ext_bel (w.alloc (.cells #[.slice (some ⟨b, o, none⟩) rs.length c0, .slice a1 xs.length c1, .int .i64 rep, .int .i64 beat] 25)) xr
          rw [size_alloc] at hb9
          exact bels (hb9.alloc (by simp only [ext_size, size_alloc]; omega) _) (by simp only [ext_size, size_alloc]; omega) y1.bel
    · have hres := HOK.out (fun j hj => HN.out j hj (by omega))
      have HA := Lib.hid hres
      clear hres
      have hlen : ¬ ((k : Int) < (rs.length : Int)) := by omega
      have hq0 := ext_bel (w.alloc (.cells #[.slice a0 rs.length c0, .slice a1 xs.length c1, .int .i64 rep, .int .i64 beat] 25)) xr
      have HBW := Lib.hid (show Below w.heap.size w (ext (w.alloc (.cells #[.slice a0 rs.length c0, .slice a1 xs.length c1, .int .i64 rep, .int .i64 beat] 25)) xr) from (by repeat (first | exact Below.refl _ _ | apply bal | apply bext | apply bdr | apply bdrN | (refine bst ?_ _ (by simp only [ext_size, size_alloc, size_set]; omega)))))
      clear hq0 HI HP HB
      have HC' := Lib.hid (HC.out w.heap.size (ext (w.alloc (.cells #[.slice a0 rs.length c0, .slice a1 xs.length c1, .int .i64 rep, .int .i64 beat] 25)) xr) HBW.out (by simp only [ext_cell, alloc_cell, size_alloc]; simp) (by simp only [ext_size, size_alloc]; omega))
      cases q
      · cases o1 <;> cases o2
        all_goals
          go_wp2_with fail
          refine HC'.out.mono ?_
          rintro e w' ⟨rfl, hb⟩
          obtain ⟨y, rfl⟩ := ext_of hb
          clear hb HC'
          go_wp2_with (first | (go_at_call 55; first | (with_reducible refine (HO1.out _).mono ?_) | (with_reducible refine (HO2.out _).mono ?_)); rintro e w' ⟨rfl, hb⟩; obtain ⟨y2, rfl⟩ := ext_of hb; clear hb)
          all_goals
            go_ret
            refine ⟨ret_bool ?_, (by repeat (first | exact Below.refl _ _ | apply bal | apply bext | apply bdr | apply bdrN | (refine bst ?_ _ (by simp only [ext_size, size_alloc, size_set]; omega))))⟩
            rw [← HA.out]
            first
              | (rw [decide_eq_true (p := 1 ≤ rs.length) (by omega), decide_eq_true (p := rs.length ≤ 4) (by omega), decide_eq_true (p := 1 ≤ xs.length) (by omega), decide_eq_true (p := xs.length ≤ 4) (by omega)]; rfl)
              | (rw [decide_eq_false (p := 1 ≤ rs.length) (by omega)]; rfl)
              | (rw [decide_eq_false (p := rs.length ≤ 4) (by omega)]; simp)
              | (rw [decide_eq_false (p := 1 ≤ xs.length) (by omega)]; simp)
              | (rw [decide_eq_false (p := xs.length ≤ 4) (by omega)]; simp)
              | simp
      · go_wp2_with fail
        refine HC'.out.mono ?_
        rintro e w' ⟨rfl, hb⟩
        obtain ⟨y, rfl⟩ := ext_of hb
        clear hb
        go_wp2_with fail
        go_ret
        exact ⟨ret_bool (by rw [← HA.out]; rfl), (by repeat (first | exact Below.refl _ _ | apply bal | apply bext | apply bdr | apply bdrN | (refine bst ?_ _ (by simp only [ext_size, size_alloc, size_set]; omega))))⟩
end Go.Proofs.YtejdpjmfnpbadaaGreatDoor
namespace Go.Proofs
open Go.Shelf
def Tryz.lays137_ren : Go.Shelf.Ren := ⟨fun | 137 => 248 | 217 => 218 | 266 => 240 | n => n, fun | 9 => 9 | 5 => 5 | 3 => 3 | n => n, fun | n => n⟩
theorem Tryz.lays137 : Go.Proofs.Lays.n137 Tryz.prog Tryz.lays137_ren := {
  mixed := by kernel_rfl
  f137 := Tryz.func248.trans (congrArg some (by kernel_rfl))
  f217 := Tryz.func218.trans (congrArg some (by kernel_rfl))
  f266 := Tryz.func240.trans (congrArg some (by kernel_rfl))
  t3 := Tryz.underlying3
  a3 := Tryz.isAgg3
  z3 := Tryz.sizeOf3
  v3 := Tryz.zeroValue3
  t5 := Tryz.underlying5
  a5 := Tryz.isAgg5
  z5 := Tryz.sizeOf5
  v5 := Tryz.zeroValue5
  t9 := Tryz.underlying9
  a9 := Tryz.isAgg9
  z9 := Tryz.sizeOf9
  v9 := Tryz.zeroValue9 }
open Go.RowKit in
theorem Tryz.strings_IndexByte (s : ByteArray) (c : Int) (w : World) :
    Calls Tryz.prog 248 #[.string s, .int .u8 c] w fun e w' => e = .returned (.int .i64 (Lib.indexByte s.data.toList c.toNat.toUInt8)) ∧ w' = w := Any.strings_IndexByte Tryz.lays137 s c w
def Tryz.laysM171_ren : Go.Shelf.Ren := ⟨fun | 171 => 201 | 243 => 224 | 246 => 247 | 283 => 231 | 284 => 232 | 285 => 233 | 286 => 234 | 129 => 140 | 317 => 253 | 318 => 254 | 319 => 255 | 320 => 256 | 337 => 262 | 338 => 263 | n => n, fun | 3 => 3 | 9 => 9 | 2 => 2 | 4 => 4 | 171 => 284 | 0 => 0 | 53 => 42 | 37 => 63 | 5 => 5 | 173 => 286 | 212 => 308 | 51 => 197 | 20 => 20 | 213 => 309 | 46 => 148 | 232 => 323 | 233 => 324 | n => n, fun | 17 => 3 | 18 => 6 | 19 => 7 | n => n⟩
theorem Tryz.laysM171 : Go.Proofs.LaysM.n171 Tryz.prog Tryz.laysM171_ren := {
  mixed := by kernel_rfl
  f129 := Tryz.func140.trans (congrArg some (by kernel_rfl))
  f171 := Tryz.func201.trans (congrArg some (by kernel_rfl))
  f243 := Tryz.func224.trans (congrArg some (by kernel_rfl))
  f246 := Tryz.func247.trans (congrArg some (by kernel_rfl))
  f283 := Tryz.func231.trans (congrArg some (by kernel_rfl))
  f284 := Tryz.func232.trans (congrArg some (by kernel_rfl))
  f285 := Tryz.func233.trans (congrArg some (by kernel_rfl))
  f286 := Tryz.func234.trans (congrArg some (by kernel_rfl))
  f317 := Tryz.func253.trans (congrArg some (by kernel_rfl))
  f318 := Tryz.func254.trans (congrArg some (by kernel_rfl))
  f319 := Tryz.func255.trans (congrArg some (by kernel_rfl))
  f320 := Tryz.func256.trans (congrArg some (by kernel_rfl))
  f337 := Tryz.func262.trans (congrArg some (by kernel_rfl))
  f338 := Tryz.func263.trans (congrArg some (by kernel_rfl))
  t0 := Tryz.underlying0
  a0 := Tryz.isAgg0
  z0 := Tryz.sizeOf0
  v0 := Tryz.zeroValue0
  t2 := Tryz.underlying2
  a2 := Tryz.isAgg2
  z2 := Tryz.sizeOf2
  v2 := Tryz.zeroValue2
  t3 := Tryz.underlying3
  a3 := Tryz.isAgg3
  z3 := Tryz.sizeOf3
  v3 := Tryz.zeroValue3
  t4 := Tryz.underlying4
  a4 := Tryz.isAgg4
  z4 := Tryz.sizeOf4
  v4 := Tryz.zeroValue4
  t5 := Tryz.underlying5
  a5 := Tryz.isAgg5
  z5 := Tryz.sizeOf5
  v5 := Tryz.zeroValue5
  t9 := Tryz.underlying9
  a9 := Tryz.isAgg9
  z9 := Tryz.sizeOf9
  v9 := Tryz.zeroValue9
  t20 := Tryz.underlying20
  a20 := Tryz.isAgg20
  z20 := Tryz.sizeOf20
  v20 := Tryz.zeroValue20
  t37 := Tryz.underlying63
  a37 := Tryz.isAgg63
  z37 := Tryz.sizeOf63
  v37 := Tryz.zeroValue63
  t46 := Tryz.underlying148
  a46 := Tryz.isAgg148
  z46 := Tryz.sizeOf148
  v46 := Tryz.zeroValue148
  t51 := Tryz.underlying197
  a51 := Tryz.isAgg197
  z51 := Tryz.sizeOf197
  v51 := Tryz.zeroValue197
  t53 := Tryz.underlying42
  a53 := Tryz.isAgg42
  z53 := Tryz.sizeOf42
  v53 := Tryz.zeroValue42
  t171 := Tryz.underlying284
  a171 := Tryz.isAgg284
  z171 := Tryz.sizeOf284
  v171 := Tryz.zeroValue284
  t173 := Tryz.underlying286
  a173 := Tryz.isAgg286
  z173 := Tryz.sizeOf286
  v173 := Tryz.zeroValue286
  t212 := Tryz.underlying308
  a212 := Tryz.isAgg308
  z212 := Tryz.sizeOf308
  v212 := Tryz.zeroValue308
  t213 := Tryz.underlying309
  a213 := Tryz.isAgg309
  z213 := Tryz.sizeOf309
  t232 := Tryz.underlying323
  a232 := Tryz.isAgg323
  z232 := Tryz.sizeOf323
  v232 := Tryz.zeroValue323
  t233 := Tryz.underlying324
  a233 := Tryz.isAgg324
  z233 := Tryz.sizeOf324
  v233 := Tryz.zeroValue324
  g17 := by kernel_rfl
  g18 := by kernel_rfl
  g19 := by kernel_rfl
  i0 := by kernel_rfl
  i2 := by kernel_rfl
  i3 := by kernel_rfl
  i4 := by kernel_rfl
  i5 := by kernel_rfl
  i9 := by kernel_rfl
  i20 := by kernel_rfl
  i37 := by kernel_rfl
  i46 := by kernel_rfl
  i51 := by kernel_rfl
  i53 := by kernel_rfl
  i171 := by kernel_rfl
  i173 := by kernel_rfl
  i212 := by kernel_rfl
  i232 := by kernel_rfl
  i233 := by kernel_rfl
  m17 := by kernel_rfl
  m18 := by kernel_rfl
  m19 := by kernel_rfl }
open Go.RowKit Go.Sort Go.Lib in
theorem Tryz.strconv_Itoa (n : Int) (h0 : -9223372036854775808 ≤ n) (h1 : n ≤ 9223372036854775807) (w : World) (htab : Lib.TabIs Tryz.prog w "internal/strconv.uint64pow10" .u64 Lib.pow10Tab) :
    Calls Tryz.prog 201 #[.int .i64 n] w fun e w' => e = .returned (.string ⟨(Lib.itoa n).toArray⟩) ∧ ∃ k os, w' = grow (w.drewN k) os := Any.strconv_Itoa Tryz.laysM171 n h0 h1 w htab
def Tryz.laysC172_ren : Go.Shelf.Ren := ⟨fun | 172 => 200 | 244 => 222 | 245 => 223 | 247 => 242 | 279 => 243 | 280 => 244 | 281 => 245 | 282 => 246 | 287 => 259 | 316 => 260 | 171 => 201 | 205 => 261 | 321 => 264 | 322 => 265 | 243 => 224 | 246 => 247 | 283 => 231 | 284 => 232 | 285 => 233 | 286 => 234 | 129 => 140 | 317 => 253 | 318 => 254 | 319 => 255 | 320 => 256 | 337 => 262 | 338 => 263 | n => n, fun | 9 => 9 | 3 => 3 | 75 => 252 | 76 => 253 | 4 => 4 | 5 => 5 | 167 => 298 | 37 => 63 | 0 => 0 | 85 => 299 | 2 => 2 | 168 => 301 | 53 => 42 | 175 => 313 | 46 => 148 | 210 => 317 | 127 => 292 | 145 => 322 | 143 => 320 | 21 => 21 | 171 => 284 | 173 => 286 | 212 => 308 | 51 => 197 | 20 => 20 | 213 => 309 | 232 => 323 | 233 => 324 | 80 => 269 | n => n, fun | 15 => 4 | 16 => 5 | 17 => 3 | 18 => 6 | 19 => 7 | n => n⟩
theorem Tryz.laysC172 : Go.Proofs.LaysC.n172 Tryz.prog Tryz.laysC172_ren := {
  mixed := by kernel_rfl
  f129 := Tryz.func140.trans (congrArg some (by kernel_rfl))
  f171 := Tryz.func201.trans (congrArg some (by kernel_rfl))
  f172 := Tryz.func200.trans (congrArg some (by kernel_rfl))
  f205 := Tryz.func261.trans (congrArg some (by kernel_rfl))
  f243 := Tryz.func224.trans (congrArg some (by kernel_rfl))
  f244 := Tryz.func222.trans (congrArg some (by kernel_rfl))
  f245 := Tryz.func223.trans (congrArg some (by kernel_rfl))
  f246 := Tryz.func247.trans (congrArg some (by kernel_rfl))
  f247 := Tryz.func242.trans (congrArg some (by kernel_rfl))
  f279 := Tryz.func243.trans (congrArg some (by kernel_rfl))
  f280 := Tryz.func244.trans (congrArg some (by kernel_rfl))
  f281 := Tryz.func245.trans (congrArg some (by kernel_rfl))
  f282 := Tryz.func246.trans (congrArg some (by kernel_rfl))
  f283 := Tryz.func231.trans (congrArg some (by kernel_rfl))
  f284 := Tryz.func232.trans (congrArg some (by kernel_rfl))
  f285 := Tryz.func233.trans (congrArg some (by kernel_rfl))
  f286 := Tryz.func234.trans (congrArg some (by kernel_rfl))
  f287 := Tryz.func259.trans (congrArg some (by kernel_rfl))
  f316 := Tryz.func260.trans (congrArg some (by kernel_rfl))
  f317 := Tryz.func253.trans (congrArg some (by kernel_rfl))
  f318 := Tryz.func254.trans (congrArg some (by kernel_rfl))
  f319 := Tryz.func255.trans (congrArg some (by kernel_rfl))
  f320 := Tryz.func256.trans (congrArg some (by kernel_rfl))
  f321 := Tryz.func264.trans (congrArg some (by kernel_rfl))
  f322 := Tryz.func265.trans (congrArg some (by kernel_rfl))
  f337 := Tryz.func262.trans (congrArg some (by kernel_rfl))
  f338 := Tryz.func263.trans (congrArg some (by kernel_rfl))
  t0 := Tryz.underlying0
  a0 := Tryz.isAgg0
  z0 := Tryz.sizeOf0
  v0 := Tryz.zeroValue0
  t2 := Tryz.underlying2
  a2 := Tryz.isAgg2
  z2 := Tryz.sizeOf2
  v2 := Tryz.zeroValue2
  t3 := Tryz.underlying3
  a3 := Tryz.isAgg3
  z3 := Tryz.sizeOf3
  v3 := Tryz.zeroValue3
  t4 := Tryz.underlying4
  a4 := Tryz.isAgg4
  z4 := Tryz.sizeOf4
  v4 := Tryz.zeroValue4
  t5 := Tryz.underlying5
  a5 := Tryz.isAgg5
  z5 := Tryz.sizeOf5
  v5 := Tryz.zeroValue5
  t9 := Tryz.underlying9
  a9 := Tryz.isAgg9
  z9 := Tryz.sizeOf9
  v9 := Tryz.zeroValue9
  t20 := Tryz.underlying20
  a20 := Tryz.isAgg20
  z20 := Tryz.sizeOf20
  v20 := Tryz.zeroValue20
  t21 := Tryz.underlying21
  a21 := Tryz.isAgg21
  z21 := Tryz.sizeOf21
  v21 := Tryz.zeroValue21
  t37 := Tryz.underlying63
  a37 := Tryz.isAgg63
  z37 := Tryz.sizeOf63
  v37 := Tryz.zeroValue63
  t46 := Tryz.underlying148
  a46 := Tryz.isAgg148
  z46 := Tryz.sizeOf148
  v46 := Tryz.zeroValue148
  t51 := Tryz.underlying197
  a51 := Tryz.isAgg197
  z51 := Tryz.sizeOf197
  v51 := Tryz.zeroValue197
  t53 := Tryz.underlying42
  a53 := Tryz.isAgg42
  z53 := Tryz.sizeOf42
  v53 := Tryz.zeroValue42
  t75 := Tryz.underlying252
  a75 := Tryz.isAgg252
  z75 := Tryz.sizeOf252
  v75 := Tryz.zeroValue252
  t76 := Tryz.underlying253
  a76 := Tryz.isAgg253
  z76 := Tryz.sizeOf253
  v76 := Tryz.zeroValue253
  t85 := Tryz.underlying299
  a85 := Tryz.isAgg299
  z85 := Tryz.sizeOf299
  v85 := Tryz.zeroValue299
  t127 := Tryz.underlying292
  a127 := Tryz.isAgg292
  z127 := Tryz.sizeOf292
  v127 := Tryz.zeroValue292
  t143 := Tryz.underlying320
  a143 := Tryz.isAgg320
  z143 := Tryz.sizeOf320
  v143 := Tryz.zeroValue320
  t145 := Tryz.underlying322
  a145 := Tryz.isAgg322
  z145 := Tryz.sizeOf322
  v145 := Tryz.zeroValue322
  t167 := Tryz.underlying298
  a167 := Tryz.isAgg298
  z167 := Tryz.sizeOf298
  v167 := Tryz.zeroValue298
  t168 := Tryz.underlying301
  a168 := Tryz.isAgg301
  z168 := Tryz.sizeOf301
  v168 := Tryz.zeroValue301
  t171 := Tryz.underlying284
  a171 := Tryz.isAgg284
  z171 := Tryz.sizeOf284
  v171 := Tryz.zeroValue284
  t173 := Tryz.underlying286
  a173 := Tryz.isAgg286
  z173 := Tryz.sizeOf286
  v173 := Tryz.zeroValue286
  t175 := Tryz.underlying313
  a175 := Tryz.isAgg313
  z175 := Tryz.sizeOf313
  v175 := Tryz.zeroValue313
  t210 := Tryz.underlying317
  a210 := Tryz.isAgg317
  z210 := Tryz.sizeOf317
  v210 := Tryz.zeroValue317
  t212 := Tryz.underlying308
  a212 := Tryz.isAgg308
  z212 := Tryz.sizeOf308
  v212 := Tryz.zeroValue308
  t213 := Tryz.underlying309
  a213 := Tryz.isAgg309
  z213 := Tryz.sizeOf309
  t232 := Tryz.underlying323
  a232 := Tryz.isAgg323
  z232 := Tryz.sizeOf323
  v232 := Tryz.zeroValue323
  t233 := Tryz.underlying324
  a233 := Tryz.isAgg324
  z233 := Tryz.sizeOf324
  v233 := Tryz.zeroValue324
  g15 := by kernel_rfl
  g16 := by kernel_rfl
  g17 := by kernel_rfl
  g18 := by kernel_rfl
  g19 := by kernel_rfl
  t80 := Tryz.underlying269
  a80 := Tryz.isAgg269
  z80 := Tryz.sizeOf269
  v80 := Tryz.zeroValue269
  i0 := by kernel_rfl
  i2 := by kernel_rfl
  i3 := by kernel_rfl
  i4 := by kernel_rfl
  i5 := by kernel_rfl
  i9 := by kernel_rfl
  i20 := by kernel_rfl
  i21 := by kernel_rfl
  i37 := by kernel_rfl
  i46 := by kernel_rfl
  i51 := by kernel_rfl
  i53 := by kernel_rfl
  i75 := by kernel_rfl
  i76 := by kernel_rfl
  i80 := by kernel_rfl
  i85 := by kernel_rfl
  i127 := by kernel_rfl
  i143 := by kernel_rfl
  i145 := by kernel_rfl
  i167 := by kernel_rfl
  i168 := by kernel_rfl
  i171 := by kernel_rfl
  i173 := by kernel_rfl
  i175 := by kernel_rfl
  i210 := by kernel_rfl
  i212 := by kernel_rfl
  i232 := by kernel_rfl
  i233 := by kernel_rfl
  m15 := by kernel_rfl
  m16 := by kernel_rfl
  m17 := by kernel_rfl
  m18 := by kernel_rfl
  m19 := by kernel_rfl
  c0 := by kernel_rfl
  c2 := by kernel_rfl
  c3 := by kernel_rfl
  c4 := by kernel_rfl
  c5 := by kernel_rfl
  c9 := by kernel_rfl
  c20 := by kernel_rfl
  c21 := by kernel_rfl
  c37 := by kernel_rfl
  c46 := by kernel_rfl
  c51 := by kernel_rfl
  c53 := by kernel_rfl
  c75 := by kernel_rfl
  c76 := by kernel_rfl
  c80 := by kernel_rfl
  c85 := by kernel_rfl
  c127 := by kernel_rfl
  c143 := by kernel_rfl
  c145 := by kernel_rfl
  c167 := by kernel_rfl
  c168 := by kernel_rfl
  c171 := by kernel_rfl
  c173 := by kernel_rfl
  c175 := by kernel_rfl
  c210 := by kernel_rfl
  c212 := by kernel_rfl
  c213 := by kernel_rfl
  c232 := by kernel_rfl
  c233 := by kernel_rfl }
open Go.RowKit in
theorem Tryz.strconv_Atoi_ok (s : ByteArray) (hmax : s.size ≤ 9223372036854775806) (v : Int) (h : Lib.atoiAll s.data.toList = .ok v) (w : World) :
    Calls Tryz.prog 200 #[.string s] w fun e w' => e = .returned (.tuple #[.int .i64 v, .nilIface]) ∧ (w' = w ∨ ∃ t, w' = Lib.bytesWorld w 5 t) := Any.strconv_Atoi_ok Tryz.laysC172 s hmax v h w
open Go.RowKit in
open Go.RowKit in
theorem Tryz.strconv_Atoi_range (s : ByteArray) (hlim : s.size ≤ 281474976710656) (h : Lib.atoiAll s.data.toList = .range) (ev : Value) (w : World) (hv : w.cell? ⟨5, 0, none⟩ = some ev) (hev : ev = .nilIface ∨ ∃ te pe, ev = .iface te pe) :
    Calls Tryz.prog 200 #[.string s] w fun e w' => ∃ N, e = .returned (.tuple #[.int .i64 (Lib.atoiSat s.data.toList), .iface 301 (.pointer (some ⟨N, 0, none⟩))]) ∧ w.heap.size ≤ N ∧ w'.heap[N]? = some (.cells #[.string ⟨#[65, 116, 111, 105]⟩, .string s, ev] 317 (0, 0)) ∧ Below w.heap.size w w' := Any.strconv_Atoi_range Tryz.laysC172 s hlim h ev w hv hev
def Tryz.lays102_ren : Go.Shelf.Ren := ⟨fun | 102 => 63 | 209 => 111 | 207 => 167 | n => n, fun | 9 => 9 | 4 => 4 | 3 => 3 | n => n, fun | n => n⟩
theorem Tryz.lays102 : Go.Proofs.Lays.n102 Tryz.prog Tryz.lays102_ren := {
  mixed := by kernel_rfl
  f102 := Tryz.func63.trans (congrArg some (by kernel_rfl))
  f207 := Tryz.func167.trans (congrArg some (by kernel_rfl))
  f209 := Tryz.func111.trans (congrArg some (by kernel_rfl))
  t3 := Tryz.underlying3
  a3 := Tryz.isAgg3
  z3 := Tryz.sizeOf3
  v3 := Tryz.zeroValue3
  t4 := Tryz.underlying4
  a4 := Tryz.isAgg4
  z4 := Tryz.sizeOf4
  v4 := Tryz.zeroValue4
  t9 := Tryz.underlying9
  a9 := Tryz.isAgg9
  z9 := Tryz.sizeOf9
  v9 := Tryz.zeroValue9 }
open Go.RowKit Go.Lib in
theorem Tryz.strings_TrimSuffix (s p : ByteArray) (w : World) (hs : s.size ≤ 9223372036854775807) :
    Calls Tryz.prog 63 #[.string s, .string p] w fun e w' => e = .returned (.string ⟨(Lib.trimSuffix s.data.toList p.data.toList).toArray⟩) ∧ w' = w := Any.strings_TrimSuffix Tryz.lays102 s p w hs
def Tryz.lays146_ren : Go.Shelf.Ren := ⟨fun | 146 => 64 | 221 => 112 | 268 => 168 | 138 => 169 | 143 => 170 | 195 => 196 | 197 => 197 | 218 => 198 | 219 => 199 | 260 => 217 | 217 => 218 | 225 => 219 | 224 => 220 | 267 => 221 | 266 => 240 | 314 => 241 | n => n, fun | 9 => 9 | 31 => 122 | 3 => 3 | 4 => 4 | 0 => 0 | 105 => 248 | 21 => 21 | 5 => 5 | 46 => 148 | 119 => 293 | 139 => 296 | 138 => 295 | 146 => 288 | 51 => 197 | n => n, fun | 1 => 0 | 3 => 1 | 4 => 2 | n => n⟩
theorem Tryz.lays146 : Go.Proofs.Lays.n146 Tryz.prog Tryz.lays146_ren := {
  mixed := by kernel_rfl
  f138 := Tryz.func169.trans (congrArg some (by kernel_rfl))
  f143 := Tryz.func170.trans (congrArg some (by kernel_rfl))
  f146 := Tryz.func64.trans (congrArg some (by kernel_rfl))
  f195 := Tryz.func196.trans (congrArg some (by kernel_rfl))
  f197 := Tryz.func197.trans (congrArg some (by kernel_rfl))
  f217 := Tryz.func218.trans (congrArg some (by kernel_rfl))
  f218 := Tryz.func198.trans (congrArg some (by kernel_rfl))
  f219 := Tryz.func199.trans (congrArg some (by kernel_rfl))
  f221 := Tryz.func112.trans (congrArg some (by kernel_rfl))
  f224 := Tryz.func220.trans (congrArg some (by kernel_rfl))
  f225 := Tryz.func219.trans (congrArg some (by kernel_rfl))
  f260 := Tryz.func217.trans (congrArg some (by kernel_rfl))
  f266 := Tryz.func240.trans (congrArg some (by kernel_rfl))
  f267 := Tryz.func221.trans (congrArg some (by kernel_rfl))
  f268 := Tryz.func168.trans (congrArg some (by kernel_rfl))
  f314 := Tryz.func241.trans (congrArg some (by kernel_rfl))
  t0 := Tryz.underlying0
  a0 := Tryz.isAgg0
  z0 := Tryz.sizeOf0
  v0 := Tryz.zeroValue0
  t3 := Tryz.underlying3
  a3 := Tryz.isAgg3
  z3 := Tryz.sizeOf3
  v3 := Tryz.zeroValue3
  t4 := Tryz.underlying4
  a4 := Tryz.isAgg4
  z4 := Tryz.sizeOf4
  v4 := Tryz.zeroValue4
  t5 := Tryz.underlying5
  a5 := Tryz.isAgg5
  z5 := Tryz.sizeOf5
  v5 := Tryz.zeroValue5
  t9 := Tryz.underlying9
  a9 := Tryz.isAgg9
  z9 := Tryz.sizeOf9
  v9 := Tryz.zeroValue9
  t21 := Tryz.underlying21
  a21 := Tryz.isAgg21
  z21 := Tryz.sizeOf21
  v21 := Tryz.zeroValue21
  t31 := Tryz.underlying122
  a31 := Tryz.isAgg122
  z31 := Tryz.sizeOf122
  v31 := Tryz.zeroValue122
  t46 := Tryz.underlying148
  a46 := Tryz.isAgg148
  z46 := Tryz.sizeOf148
  v46 := Tryz.zeroValue148
  t51 := Tryz.underlying197
  a51 := Tryz.isAgg197
  z51 := Tryz.sizeOf197
  v51 := Tryz.zeroValue197
  t105 := Tryz.underlying248
  a105 := Tryz.isAgg248
  z105 := Tryz.sizeOf248
  v105 := Tryz.zeroValue248
  t119 := Tryz.underlying293
  a119 := Tryz.isAgg293
  z119 := Tryz.sizeOf293
  t138 := Tryz.underlying295
  a138 := Tryz.isAgg295
  z138 := Tryz.sizeOf295
  v138 := Tryz.zeroValue295
  t139 := Tryz.underlying296
  a139 := Tryz.isAgg296
  z139 := Tryz.sizeOf296
  v139 := Tryz.zeroValue296
  t146 := Tryz.underlying288
  a146 := Tryz.isAgg288
  z146 := Tryz.sizeOf288
  v146 := Tryz.zeroValue288
  g1 := by kernel_rfl
  g3 := by kernel_rfl
  g4 := by kernel_rfl }
open Go.RowKit Go.Lib in
theorem Tryz.strings_Split (s sep : ByteArray) (m : Int) (w : World) (hs : s.size < 4294967281) (hm : w.cell? ⟨0, 0, none⟩ = some (.int .i64 m)) (h1 : 1 ≤ sep.size) :
    Calls Tryz.prog 64 #[.string s, .string sep] w fun e w' =>
      e = .returned (.slice (some ⟨w.heap.size, 0, none⟩) (Lib.countB s sep + 1) (Lib.countB s sep + 1)) ∧ w' = w.alloc (.cells ((Lib.splitB sep 0 (Lib.countB s sep) s).map Value.string).toArray 9) := Any.strings_Split Tryz.lays146 (by kernel_rfl) s sep m w hs hm h1
def Tryz.lays152_ren : Go.Shelf.Ren := ⟨fun | 152 => 225 | 137 => 248 | 119 => 249 | 224 => 220 | 225 => 219 | 217 => 218 | 266 => 240 | n => n, fun | 9 => 9 | 21 => 21 | 3 => 3 | 4 => 4 | 5 => 5 | 0 => 0 | 46 => 148 | n => n, fun | n => n⟩
theorem Tryz.lays152 : Go.Proofs.Lays.n152 Tryz.prog Tryz.lays152_ren := {
  mixed := by kernel_rfl
  f119 := Tryz.func249.trans (congrArg some (by kernel_rfl))
  f137 := Tryz.func248.trans (congrArg some (by kernel_rfl))
  f152 := Tryz.func225.trans (congrArg some (by kernel_rfl))
  f217 := Tryz.func218.trans (congrArg some (by kernel_rfl))
  f224 := Tryz.func220.trans (congrArg some (by kernel_rfl))
  f225 := Tryz.func219.trans (congrArg some (by kernel_rfl))
  f266 := Tryz.func240.trans (congrArg some (by kernel_rfl))
  t0 := Tryz.underlying0
  a0 := Tryz.isAgg0
  z0 := Tryz.sizeOf0
  v0 := Tryz.zeroValue0
  t3 := Tryz.underlying3
  a3 := Tryz.isAgg3
  z3 := Tryz.sizeOf3
  v3 := Tryz.zeroValue3
  t4 := Tryz.underlying4
  a4 := Tryz.isAgg4
  z4 := Tryz.sizeOf4
  v4 := Tryz.zeroValue4
  t5 := Tryz.underlying5
  a5 := Tryz.isAgg5
  z5 := Tryz.sizeOf5
  v5 := Tryz.zeroValue5
  t9 := Tryz.underlying9
  a9 := Tryz.isAgg9
  z9 := Tryz.sizeOf9
  v9 := Tryz.zeroValue9
  t21 := Tryz.underlying21
  a21 := Tryz.isAgg21
  z21 := Tryz.sizeOf21
  v21 := Tryz.zeroValue21
  t46 := Tryz.underlying148
  a46 := Tryz.isAgg148
  z46 := Tryz.sizeOf148
  v46 := Tryz.zeroValue148 }
open Go.RowKit Go.Lib in
theorem Tryz.strings_IndexRune_ascii (s : ByteArray) (r : Int) (w : World) (h0 : 0 ≤ r) (h1 : r < 128) :
    Calls Tryz.prog 225 #[.string s, .int .i32 r] w fun e w' => e = .returned (.int .i64 (Lib.indexByte s.data.toList r.toNat.toUInt8)) ∧ w' = w := Any.strings_IndexRune_ascii Tryz.lays152 s r w h0 h1
def Tryz.lays226_ren : Go.Shelf.Ren := ⟨fun | 226 => 226 | n => n, fun | 3 => 3 | 4 => 4 | n => n, fun | n => n⟩
theorem Tryz.lays226 : Go.Proofs.Lays.n226 Tryz.prog Tryz.lays226_ren := {
  mixed := by kernel_rfl
  f226 := Tryz.func226.trans (congrArg some (by kernel_rfl))
  t3 := Tryz.underlying3
  a3 := Tryz.isAgg3
  z3 := Tryz.sizeOf3
  v3 := Tryz.zeroValue3
  t4 := Tryz.underlying4
  a4 := Tryz.isAgg4
  z4 := Tryz.sizeOf4
  v4 := Tryz.zeroValue4 }
open Go.RowKit Go.Lib in
theorem Tryz.strings_shouldUseASCIISet (n : Int) (w : World) :
    Calls Tryz.prog 226 #[.int .i64 n] w fun e w' => e = .returned (.bool (decide (8 < n))) ∧ w' = w := Any.strings_shouldUseASCIISet Tryz.lays226 n w
def Tryz.lays153_ren : Go.Shelf.Ren := ⟨fun | 153 => 202 | 152 => 225 | 226 => 226 | 227 => 227 | 228 => 228 | 137 => 248 | 119 => 249 | 224 => 220 | 225 => 219 | 217 => 218 | 266 => 240 | n => n, fun | 9 => 9 | 3 => 3 | 4 => 4 | 5 => 5 | 21 => 21 | 117 => 277 | 116 => 276 | 0 => 0 | 46 => 148 | 124 => 306 | n => n, fun | n => n⟩
theorem Tryz.lays153 : Go.Proofs.Lays.n153 Tryz.prog Tryz.lays153_ren := {
  mixed := by kernel_rfl
  f119 := Tryz.func249.trans (congrArg some (by kernel_rfl))
  f137 := Tryz.func248.trans (congrArg some (by kernel_rfl))
  f152 := Tryz.func225.trans (congrArg some (by kernel_rfl))
  f153 := Tryz.func202.trans (congrArg some (by kernel_rfl))
  f217 := Tryz.func218.trans (congrArg some (by kernel_rfl))
  f224 := Tryz.func220.trans (congrArg some (by kernel_rfl))
  f225 := Tryz.func219.trans (congrArg some (by kernel_rfl))
  f226 := Tryz.func226.trans (congrArg some (by kernel_rfl))
  f227 := Tryz.func227.trans (congrArg some (by kernel_rfl))
  f228 := Tryz.func228.trans (congrArg some (by kernel_rfl))
  f266 := Tryz.func240.trans (congrArg some (by kernel_rfl))
  t0 := Tryz.underlying0
  a0 := Tryz.isAgg0
  z0 := Tryz.sizeOf0
  v0 := Tryz.zeroValue0
  t3 := Tryz.underlying3
  a3 := Tryz.isAgg3
  z3 := Tryz.sizeOf3
  v3 := Tryz.zeroValue3
  t4 := Tryz.underlying4
  a4 := Tryz.isAgg4
  z4 := Tryz.sizeOf4
  v4 := Tryz.zeroValue4
  t5 := Tryz.underlying5
  a5 := Tryz.isAgg5
  z5 := Tryz.sizeOf5
  v5 := Tryz.zeroValue5
  t9 := Tryz.underlying9
  a9 := Tryz.isAgg9
  z9 := Tryz.sizeOf9
  v9 := Tryz.zeroValue9
  t21 := Tryz.underlying21
  a21 := Tryz.isAgg21
  z21 := Tryz.sizeOf21
  v21 := Tryz.zeroValue21
  t46 := Tryz.underlying148
  a46 := Tryz.isAgg148
  z46 := Tryz.sizeOf148
  v46 := Tryz.zeroValue148
  t116 := Tryz.underlying276
  a116 := Tryz.isAgg276
  z116 := Tryz.sizeOf276
  t117 := Tryz.underlying277
  a117 := Tryz.isAgg277
  z117 := Tryz.sizeOf277
  v117 := Tryz.zeroValue277
  t124 := Tryz.underlying306
  a124 := Tryz.isAgg306
  z124 := Tryz.sizeOf306
  v124 := Tryz.zeroValue306 }
open Go.RowKit Go.Lib in
theorem Tryz.strings_IndexAny_long (hv116 : ∀ w, (zeroValue 276).run Tryz.prog w = .ok (.agg (Array.replicate 256 (.bool false))) w) (s chars : ByteArray) (w : World) (h2 : 2 ≤ chars.size) (h8 : 8 < s.size) (hs : s.size < 4294967281) (hcs : chars.size < 4294967281) (hascii : ∀ (j : Nat) b, chars.data.toList[j]? = some b → b.toNat < 128) :
    Calls Tryz.prog 202 #[.string s, .string chars] w fun e w' => e = .returned (.int .i64 (Lib.indexAny s.data.toList chars.data.toList)) ∧ w' = ((w.alloc (.cells (Lib.setCells chars.data.toList) 276)).alloc (.cells (Lib.setCells chars.data.toList) 276)) := Any.strings_IndexAny_long Tryz.lays153 hv116 (by kernel_rfl) s chars w h2 h8 hs hcs hascii
open Go.RowKit Go.Lib in
theorem Tryz.strings_IndexAny (hv116 : ∀ w, (zeroValue 276).run Tryz.prog w = .ok (.agg (Array.replicate 256 (.bool false))) w) (s chars : ByteArray) (w : World) (hs : s.size < 4294967281) (hcs : chars.size < 4294967281) (has : ∀ (j : Nat) b, s.data.toList[j]? = some b → b.toNat < 128) (hac : ∀ (j : Nat) b, chars.data.toList[j]? = some b → b.toNat < 128) :
    Calls Tryz.prog 202 #[.string s, .string chars] w fun e w' => e = .returned (.int .i64 (Lib.indexAny s.data.toList chars.data.toList)) ∧ Below w.heap.size w w' := Any.strings_IndexAny Tryz.lays153 hv116 (by kernel_rfl) s chars w hs hcs has hac
def Tryz.lays109_ren : Go.Shelf.Ren := ⟨fun | 109 => 172 | n => n, fun | 31 => 122 | 9 => 9 | 3 => 3 | 0 => 0 | 4 => 4 | n => n, fun | n => n⟩
theorem Tryz.lays109 : Go.Proofs.Lays.n109 Tryz.prog Tryz.lays109_ren := {
  mixed := by kernel_rfl
  f109 := Tryz.func172.trans (congrArg some (by kernel_rfl))
  t0 := Tryz.underlying0
  a0 := Tryz.isAgg0
  z0 := Tryz.sizeOf0
  v0 := Tryz.zeroValue0
  t3 := Tryz.underlying3
  a3 := Tryz.isAgg3
  z3 := Tryz.sizeOf3
  v3 := Tryz.zeroValue3
  t4 := Tryz.underlying4
  a4 := Tryz.isAgg4
  z4 := Tryz.sizeOf4
  v4 := Tryz.zeroValue4
  t9 := Tryz.underlying9
  a9 := Tryz.isAgg9
  z9 := Tryz.sizeOf9
  v9 := Tryz.zeroValue9
  t31 := Tryz.underlying122
  a31 := Tryz.isAgg122
  z31 := Tryz.sizeOf122
  v31 := Tryz.zeroValue122 }
open Go.Lib in
theorem Tryz.slices_Index_string (b off n c : Nat) (zs : List ByteArray) (x : ByteArray) (w : World) (hz : n ≤ zs.length) (hbig : n ≤ 9223372036854775807) (hc : ∀ j, j < zs.length → w.cell? ⟨b, off + j, none⟩ = some (.string (zs.getD j ByteArray.empty))) :
    Calls Tryz.prog 172 #[.slice (some ⟨b, off, none⟩) n c, .string x] w fun e w' => e = .returned (.int .i64 (Lib.idxOfS (zs.take n) x)) ∧ w' = w := Any.slices_Index_string Tryz.lays109 b off n c zs x w hz hbig hc
open Go.Lib in
theorem Tryz.slices_Index_string_empty (a : Option Addr) (c : Nat) (x : ByteArray) (w : World) :
    Calls Tryz.prog 172 #[.slice a 0 c, .string x] w fun e w' => e = .returned (.int .i64 (Lib.idxOfS [] x)) ∧ w' = w := Any.slices_Index_string_empty Tryz.lays109 a c x w
def Tryz.lays110_ren : Go.Shelf.Ren := ⟨fun | 110 => 117 | 109 => 172 | n => n, fun | 31 => 122 | 9 => 9 | 4 => 4 | 3 => 3 | 0 => 0 | n => n, fun | n => n⟩
theorem Tryz.lays110 : Go.Proofs.Lays.n110 Tryz.prog Tryz.lays110_ren := {
  mixed := by kernel_rfl
  f109 := Tryz.func172.trans (congrArg some (by kernel_rfl))
  f110 := Tryz.func117.trans (congrArg some (by kernel_rfl))
  t0 := Tryz.underlying0
  a0 := Tryz.isAgg0
  z0 := Tryz.sizeOf0
  v0 := Tryz.zeroValue0
  t3 := Tryz.underlying3
  a3 := Tryz.isAgg3
  z3 := Tryz.sizeOf3
  v3 := Tryz.zeroValue3
  t4 := Tryz.underlying4
  a4 := Tryz.isAgg4
  z4 := Tryz.sizeOf4
  v4 := Tryz.zeroValue4
  t9 := Tryz.underlying9
  a9 := Tryz.isAgg9
  z9 := Tryz.sizeOf9
  v9 := Tryz.zeroValue9
  t31 := Tryz.underlying122
  a31 := Tryz.isAgg122
  z31 := Tryz.sizeOf122
  v31 := Tryz.zeroValue122 }
open Go.Lib in
theorem Tryz.slices_Contains_string (b off n c : Nat) (zs : List ByteArray) (x : ByteArray) (w : World) (hz : n ≤ zs.length) (hbig : n ≤ 9223372036854775807) (hc : ∀ j, j < zs.length → w.cell? ⟨b, off + j, none⟩ = some (.string (zs.getD j ByteArray.empty))) :
    Calls Tryz.prog 117 #[.slice (some ⟨b, off, none⟩) n c, .string x] w fun e w' => e = .returned (.bool (Lib.containsS (zs.take n) x)) ∧ w' = w := Any.slices_Contains_string Tryz.lays110 b off n c zs x w hz hbig hc
open Go.Lib in
theorem Tryz.slices_Contains_string_empty (a : Option Addr) (c : Nat) (x : ByteArray) (w : World) :
    Calls Tryz.prog 117 #[.slice a 0 c, .string x] w fun e w' => e = .returned (.bool false) ∧ w' = w := Any.slices_Contains_string_empty Tryz.lays110 a c x w
end Go.Proofs
namespace Go.Proofs.YtejdpjmfnpbadaaGreatDoor
open Go.RowKit Go.Proofs.YtejdpjmfnpbadaaGreatDoorQ
attribute [local go_sem high] ext_size ext_cell ext_frozen alloc_cell alloc_frozen
theorem itoa_any (n : Int) (w : World) (hG : GOK w) (h0 : -9223372036854775808 ≤ n) (h1 : n ≤ 9223372036854775807) :
    Calls Tryz.prog 201 #[.int .i64 n] w fun e w' => e = .returned (.string (tx (Lib.itoa n))) ∧ Below w.heap.size w w' := by
  refine (Tryz.strconv_Itoa n h0 h1 w (gok_tab_internal_strconv_uint64pow10 hG)).mono ?_
  rintro e w' ⟨rfl, k, os, rfl⟩
  exact ⟨rfl, Go.Lib.below_grow _ w (Nat.le_refl _) k os⟩
theorem atoi_ok (s : ByteArray) (v : Int) (w : World) (hs : s.size ≤ 1000000) (h : Lib.atoiAll s.data.toList = .ok v) :
    Calls Tryz.prog 200 #[.string s] w fun e w' => e = .returned (.tuple #[.int .i64 v, .nilIface]) ∧ Below w.heap.size w w' := by
  refine (Tryz.strconv_Atoi_ok s (by omega) v h w).mono ?_
  rintro e w' ⟨rfl, rfl | ⟨t, rfl⟩⟩
  · exact ⟨rfl, Below.refl _ _⟩
  · refine ⟨rfl, ?_⟩
    exact Lib.bytesWorld_below _ _ _
theorem atoi_no (s : ByteArray) (w : World) (hG : GOK w) (hs : s.size ≤ 1000000) (h : ∀ v, Lib.atoiAll s.data.toList ≠ .ok v) :
    Calls Tryz.prog 200 #[.string s] w fun e w' => ∃ N, e = .returned (.tuple #[.int .i64 (atoiV s.data.toList), .iface 301 (.pointer (some ⟨N, 0, none⟩))]) ∧ Below w.heap.size w w' := by
  unfold atoiV
  rcases hh : Lib.atoiAll s.data.toList with v | _ | _
  · exact absurd hh (h v)
  · obtain ⟨t, p, hc⟩ := gok_errsyntax hG
    refine (Any.strconv_Atoi_syntax Tryz.laysC172 s (by omega) hh _ w hc (.inr ⟨t, p, rfl⟩)).mono ?_
    rintro e w' ⟨N, rfl, _, _, hb⟩
    exact ⟨N, rfl, hb⟩
  · obtain ⟨t, p, hc⟩ := gok_errrange hG
    refine (Tryz.strconv_Atoi_range s (by omega) hh _ w hc (.inr ⟨t, p, rfl⟩)).mono ?_
    rintro e w' ⟨N, rfl, _, _, hb⟩
    exact ⟨N, rfl, hb⟩
theorem tx_eq_list (l : List UInt8) (s : ByteArray) : ((tx l).toList == s.toList) = decide (l = s.data.toList) := by
  rw [ByteArray.toList_eq, ByteArray.toList_eq, tx_data]
  rw [Bool.eq_iff_iff, beq_iff_eq, decide_eq_true_eq]
end Go.Proofs.YtejdpjmfnpbadaaGreatDoor
namespace Go.Proofs.YtejdpjmfnpbadaaGreatDoor
open Go.RowKit Go.Proofs.YtejdpjmfnpbadaaGreatDoorQ
attribute [local go_sem high] ext_size ext_cell ext_frozen alloc_cell alloc_frozen
set_option maxHeartbeats 4000000 in
theorem number_any (s : ByteArray) (w : World) (hG : GOK w) (hs : s.size ≤ 1000000) :
    Calls Tryz.prog 171 #[.string s] w fun e w' => e = .returned (.tuple #[.int .i64 (atoiV s.data.toList), .bool (atoiB s.data.toList)]) ∧ Below w.heap.size w w' := by
  have HG := Lib.hid hG
  by_cases hok : ∃ v, Lib.atoiAll s.data.toList = .ok v
  · obtain ⟨v, hv⟩ := hok
    have hb := Lib.atoiAll_bounds hv
    have HA := Lib.hid fun W => atoi_ok s v W hs hv
    have HT := Lib.hid fun W => tick_any v W
    have HI := Lib.hid fun W (h : GOK W) => itoa_any v W h hb.1 hb.2
    have hq := tx_eq_list (Lib.itoa v) s
    unfold atoiV atoiB
    rw [hv]
    simp only
    obtain ⟨t, ht⟩ : ∃ t, t = tx (Lib.itoa v) := ⟨_, rfl⟩
    rw [← ht] at HI hq
    obtain ⟨b1, hb1⟩ : ∃ b, b = timeB v := ⟨_, rfl⟩
    rw [← hb1] at HT
    have e1 : (decide (0 ≤ v) && decide (v ≤ 1099511627776)) = b1 := by rw [hb1]; rfl
    rw [e1]
    obtain ⟨b2, hb2⟩ : ∃ b, b = decide (Lib.itoa v = s.data.toList) := ⟨_, rfl⟩
    rw [← hb2] at hq ⊢
    clear hv hG ht hb1 hb2 e1
    cases b1
    · go_enter Tryz.func171, Tryz.ntmps171
      go_wp2_with fail
      refine (HA.out _).mono ?_
      rintro e w' ⟨rfl, hb⟩
      obtain ⟨y1, rfl⟩ := ext_of hb
      clear hb
      go_wp2_with fail
      refine (HT.out _).mono ?_
      rintro e w' ⟨rfl, hb⟩
      obtain ⟨y2, rfl⟩ := ext_of hb
      clear hb
      go_wp2_with fail
      go_ret2
      exact ⟨rfl, (by repeat (first | exact Below.refl _ _ | apply bal | apply bext | apply bdr | apply bdrN | (refine bst ?_ _ (by simp only [ext_size, size_alloc, size_set]; omega))))⟩
    · go_enter Tryz.func171, Tryz.ntmps171
      go_wp2_with fail
      refine (HA.out _).mono ?_
      rintro e w' ⟨rfl, hb⟩
      obtain ⟨y1, rfl⟩ := ext_of hb
      clear hb
      go_wp2_with fail
      refine (HT.out _).mono ?_
      rintro e w' ⟨rfl, hb⟩
      obtain ⟨y2, rfl⟩ := ext_of hb
      clear hb
      go_wp2_with fail
      refine (HI.out _ (gok_below HG.out (by repeat (first | exact Below.refl _ _ | apply bal | apply bext | apply bdr | apply bdrN | (refine bst ?_ _ (by simp only [ext_size, size_alloc, size_set]; omega)))))).mono ?_
      rintro e w' ⟨rfl, hb⟩
      obtain ⟨y3, rfl⟩ := ext_of hb
      clear hb
      go_wp2_with fail
      go_ret2
      exact ⟨rfl, (by repeat (first | exact Below.refl _ _ | apply bal | apply bext | apply bdr | apply bdrN | (refine bst ?_ _ (by simp only [ext_size, size_alloc, size_set]; omega))))⟩
  · have hv : ∀ v, Lib.atoiAll s.data.toList ≠ .ok v := fun v h => hok ⟨v, h⟩
    have hB : atoiB s.data.toList = false := by
      unfold atoiB
      split
      · rename_i v h
        exact absurd h (hv v)
      · rfl
    have HA := Lib.hid fun W (h : GOK W) => atoi_no s W h hs hv
    rw [hB]
    generalize atoiV s.data.toList = v at HA ⊢
    clear hG hok hv hB
    go_enter Tryz.func171, Tryz.ntmps171
    go_wp2_with fail
    refine (HA.out _ (gok_below HG.out (by repeat (first | exact Below.refl _ _ | apply bal | apply bext | apply bdr | apply bdrN | (refine bst ?_ _ (by simp only [ext_size, size_alloc, size_set]; omega)))))).mono ?_
    rintro e w' ⟨N, rfl, hb⟩
    obtain ⟨y1, rfl⟩ := ext_of hb
    clear hb
    go_wp2_with fail
    go_ret2
    exact ⟨rfl, (by repeat (first | exact Below.refl _ _ | apply bal | apply bext | apply bdr | apply bdrN | (refine bst ?_ _ (by simp only [ext_size, size_alloc, size_set]; omega))))⟩
end Go.Proofs.YtejdpjmfnpbadaaGreatDoor
namespace Go.Proofs.YtejdpjmfnpbadaaGreatDoor
open Go.RowKit
attribute [local go_sem high] ext_size ext_cell ext_frozen alloc_cell alloc_frozen
def setIter (W : World) (g : Nat) (s : ByteArray) (pos : Nat) : World := { W with heap := W.heap.setIfInBounds g (.stringIter s pos) }
theorem next_any {P : Program} {W : World} {g : Nat} {s : ByteArray} {pos : Nat} (hb : W.heap[g]? = some (.stringIter s pos)) (ty : TypeId) (h : pos < s.size) :
    (Instr.next (.pointer (some ⟨g, 0, none⟩)) true ty).run P W = .ok (.tuple #[.bool true, .int .i64 pos, .int .i32 (Utf8.decode s pos).1]) (setIter W g s (pos + (Utf8.decode s pos).2)) := by
  simp only [Instr.next, getObj, setObj, Sem.run_bind, Sem.run, hb, Result.andThen, h, if_true]
  simp [goInt, setIter]
theorem next_end {P : Program} {W : World} {g : Nat} {s : ByteArray} {pos : Nat} (hb : W.heap[g]? = some (.stringIter s pos)) (ty : TypeId) (h : ¬ pos < s.size) :
    (Instr.next (.pointer (some ⟨g, 0, none⟩)) true ty).run P W = .ok (.tuple #[.bool false]) W := by
  simp [Instr.next, getObj, Sem.run, hb, h]
theorem setIter_size (W : World) (g : Nat) (s : ByteArray) (pos : Nat) : (setIter W g s pos).heap.size = W.heap.size := by simp [setIter]
theorem setIter_same {W : World} {g : Nat} (h : g < W.heap.size) (s : ByteArray) (pos : Nat) : (setIter W g s pos).heap[g]? = some (.stringIter s pos) := by simp [setIter, h]
theorem setIter_below {w W : World} {g : Nat} (h : Below w.heap.size w W) (hg : w.heap.size ≤ g) (s : ByteArray) (pos : Nat) : Below w.heap.size w (setIter W g s pos) := by
  refine ⟨h.os, h.tape, h.output, by rw [setIter_size]; exact h.size, fun i hi => ?_⟩
  rw [← h.block i hi]
  show (W.heap.setIfInBounds g (.stringIter s pos))[i]? = W.heap[i]?
  rw [Array.getElem?_setIfInBounds, if_neg (by omega)]
theorem cont_hi {s : ByteArray} {i : Nat} (h : i < s.size) (h2 : (s.get! i).toNat / 64 = 2) : 128 ≤ (s[i]'h).toNat := by
  have e : s.get! i = s[i]'h := get_at s i h
  rw [e] at h2
  omega
theorem decode_wide (s : ByteArray) (pos : Nat) (h : pos < s.size) (ha : 128 ≤ (s[pos]'h).toNat) :
    1 ≤ (Utf8.decode s pos).2 ∧ pos + (Utf8.decode s pos).2 ≤ s.size ∧ ∀ k, k < (Utf8.decode s pos).2 → ∃ hk : pos + k < s.size, 128 ≤ (s[pos + k]'hk).toNat := by
  have hn : ¬ (s[pos]'h).toNat < 128 := by omega
  have one : 1 ≤ 1 ∧ pos + 1 ≤ s.size ∧ ∀ k, k < 1 → ∃ hk : pos + k < s.size, 128 ≤ (s[pos + k]'hk).toNat :=
    ⟨by omega, by omega, fun k hk => by obtain rfl : k = 0 := by omega
                                        exact ⟨h, ha⟩⟩
  simp only [Utf8.decode, get_at s pos h, hn, if_false]
  split
  · rename_i h1
    simp only [Bool.and_eq_true, decide_eq_true_eq, beq_iff_eq] at h1
    split
    · refine ⟨by simp, by simp; omega, fun k hk => ?_⟩
      have : k = 0 ∨ k = 1 := by simp at hk; omega
      rcases this with rfl | rfl
      · exact ⟨h, ha⟩
      · exact ⟨h1.2.1, cont_hi h1.2.1 h1.2.2⟩
    · exact one
  · split
    · rename_i h1
      simp only [Bool.and_eq_true, decide_eq_true_eq, beq_iff_eq] at h1
      split
      · refine ⟨by simp, by simp; omega, fun k hk => ?_⟩
        have : k = 0 ∨ k = 1 ∨ k = 2 := by simp at hk; omega
        rcases this with rfl | rfl | rfl
        · exact ⟨h, ha⟩
        · exact ⟨h1.1.2.1, cont_hi h1.1.2.1 h1.1.2.2⟩
        · exact ⟨h1.2.1, cont_hi h1.2.1 h1.2.2⟩
      · exact one
    · split
      · rename_i h1
        simp only [Bool.and_eq_true, decide_eq_true_eq, beq_iff_eq] at h1
        split
        · refine ⟨by simp, by simp; omega, fun k hk => ?_⟩
          have : k = 0 ∨ k = 1 ∨ k = 2 ∨ k = 3 := by simp at hk; omega
          rcases this with rfl | rfl | rfl | rfl
          · exact ⟨h, ha⟩
          · exact ⟨h1.1.1.2.1, cont_hi h1.1.1.2.1 h1.1.1.2.2⟩
          · exact ⟨h1.1.2.1, cont_hi h1.1.2.1 h1.1.2.2⟩
          · exact ⟨h1.2.1, cont_hi h1.2.1 h1.2.2⟩
        · exact one
      · exact one
theorem enc_high {r : Int} (h : 128 ≤ r) : (∃ a b : UInt8, Utf8.encode r = ⟨#[a, b]⟩ ∧ 128 ≤ b.toNat) ∨ (∃ a b c : UInt8, Utf8.encode r = ⟨#[a, b, c]⟩ ∧ 128 ≤ c.toNat) ∨ (∃ a b c d : UInt8, Utf8.encode r = ⟨#[a, b, c, d]⟩ ∧ 128 ≤ d.toNat) := by
  have hl : ∀ x : Nat, 128 ≤ (UInt8.ofNat (128 + x % 64)).toNat := by
    intro x
    rw [UInt8.toNat_ofNat']
    omega
  unfold Utf8.encode
  generalize hc : (if Utf8.valid r = true then r.toNat else Utf8.runeError) = c
  have h1 : ¬ c < 128 := by
    rw [← hc]
    split
    · omega
    · decide
  simp only
  rw [if_neg h1]
  split
  · exact .inl ⟨_, _, rfl, hl _⟩
  · split
    · exact .inr (.inl ⟨_, _, _, rfl, hl _⟩)
    · exact .inr (.inr ⟨_, _, _, _, rfl, hl _⟩)
def signT : ByteArray := ⟨#[61, 33, 94, 63]⟩
theorem noIdx (l : List UInt8) (b : UInt8) (h : ∀ x ∈ l, x ≠ b) : Lib.indexByte l b = -1 := by
  induction l with
  | nil => rfl
  | cons x l ih =>
    have h1 : (x == b) = false := by simpa using h x (by simp)
    rw [Lib.indexByte, h1, ih fun y hy => h y (by simp [hy])]
    rfl
theorem signs_low : ∀ x ∈ signs, x.toNat < 128 := by decide
theorem contains_high {b : UInt8} (h : 128 ≤ b.toNat) : signs.contains b = false := by
  rw [← Bool.not_eq_true, List.contains_iff_mem]
  intro e
  have := signs_low b e
  omega
theorem sub_low (i j : Nat) {b : UInt8} (h : 128 ≤ b.toNat) : ∀ x ∈ (signT.extract i j).data.toList, x ≠ b := by
  intro x hx e
  subst e
  rw [Lib.extract_data] at hx
  have hm : x ∈ signT.data.toList := by
    first
      | exact List.mem_of_mem_drop (List.mem_of_mem_take hx)
      | exact List.mem_of_mem_take (List.mem_of_mem_drop hx)
  have := signs_low x hm
  omega
theorem valid_ge (r : Int) (w : World) (h : 0 ≤ r) : Calls Tryz.prog 249 #[.int .i32 r] w fun e w' => e = .returned (.bool (decide (r < 55296) || (decide (57343 < r) && decide (r ≤ 1114111)))) ∧ Below w.heap.size w w' := by
  by_cases h1 : r < 55296
  · go_enter Tryz.func249, Tryz.ntmps249
    go_wp2_with fail
    go_ret
    exact ⟨ret_bool (by simp [h1]), Below.refl _ _⟩
  · by_cases h2 : 57343 < r <;> by_cases h3 : r ≤ 1114111
    all_goals
      go_enter Tryz.func249, Tryz.ntmps249
      go_wp2_with fail
      go_ret
      exact ⟨ret_bool (by simp [h1, h2, h3]), Below.refl _ _⟩
set_option maxHeartbeats 4000000 in
set_option maxRecDepth 100000 in
theorem idxRune_high (r : Int) (w : World) (h : 128 ≤ r) : Calls Tryz.prog 225 #[.string signT, .int .i32 r] w fun e w' => e = .returned (.int .i64 (-1)) ∧ Below w.heap.size w w' := by
  have g1 : ¬ r < 128 := by omega
  have g0 : (0 : Int) ≤ r := by omega
  by_cases he : r = 65533
  · subst he
    go_enter Tryz.func225, Tryz.ntmps225
    go_wp2_with fail
    go_loopw [5, 6] (fun _ _ wr => ∃ pos : Nat, pos ≤ 4 ∧ wr = w.iter signT pos) (fun _ _ wr => 4 - wr.iterPos w.heap.size)
    case atStart => exact ⟨0, by omega, rfl⟩
    case round =>
      obtain ⟨pos, hp, rfl⟩ := hrel
      by_cases hlt : pos < 4
      · have hc : (signT[pos]'hlt).toNat < 128 := by
          have : pos = 0 ∨ pos = 1 ∨ pos = 2 ∨ pos = 3 := by omega
          rcases this with rfl | rfl | rfl | rfl <;> (revert hlt; decide)
        have hn := fun ty => run_next_ascii (P := Tryz.prog) w signT pos ty hlt hc
        obtain ⟨c, hcc⟩ : ∃ c, c = (signT[pos]'hlt).toNat := ⟨_, rfl⟩
        rw [← hcc] at hn hc
        have h5 : ((c : Int) == 65533) = false := by simp; omega
        clear hcc
        go_wp2
        exact ⟨⟨pos + 1, by omega, rfl⟩, by simp; omega⟩
      · have hn := fun ty => run_next_end (P := Tryz.prog) w signT pos ty (show ¬ pos < signT.size from hlt)
        go_wp2
        go_ret
        exact ⟨rfl, size_iter _ _ _⟩
  · have he' : (r == 65533) = false := by simpa using he
    have HV := Lib.hid fun W => valid_ge r W g0
    obtain ⟨vb, hvb⟩ : ∃ q, q = (decide (r < 55296) || (decide (57343 < r) && decide (r ≤ 1114111))) := ⟨_, rfl⟩
    rw [← hvb] at HV
    clear hvb
    cases vb
    · go_enter Tryz.func225, Tryz.ntmps225
      go_wp2_with fail
      refine (HV.out _).mono ?_
      rintro e w' ⟨rfl, hb⟩
      obtain ⟨y1, rfl⟩ := ext_of hb
      clear hb
      go_wp2_with fail
      go_ret
      exact ⟨rfl, (by repeat (first | exact Below.refl _ _ | apply bal | apply bext | apply bdr | apply bdrN | (refine bst ?_ _ (by simp only [ext_size, size_alloc, size_set]; omega))))⟩
    · have HB := Lib.hid fun (s : ByteArray) (b : UInt8) W (hh : ∀ x ∈ s.data.toList, x ≠ b) => show Calls Tryz.prog 248 #[.string s, .int .u8 b.toNat] W fun e w' => e = .returned (.int .i64 (-1)) ∧ Below W.heap.size W w' from
        (Tryz.strings_IndexByte s b.toNat W).mono fun e w' ⟨h1, h2⟩ => ⟨by rw [h1, Int.toNat_natCast, show b.toNat.toUInt8 = b by simp, noIdx _ _ hh], h2 ▸ Below.refl _ _⟩
      have hcv := fun w => run_convert_int_string (P := Tryz.prog) w 21 9 .i32 r (by kernel_rfl) Tryz.underlying9
      have hu21 := Tryz.underlying21
      have hu9 := Tryz.underlying9
      rcases enc_high h with ⟨a, b, e1, hb⟩ | ⟨a, b, c, e1, hb⟩ | ⟨a, b, c, d, e1, hb⟩
      · rw [e1] at hcv
        have hlt := b.toNat_lt
        have h1 : (((signT[1]'(by show 1 < 4; omega)).toNat : Int) != ((((⟨#[a, b]⟩ : ByteArray)[1]'(by show 1 < 2; omega)).toNat : Nat) : Int)) = true := by
          show ((33 : Int) != (b.toNat : Int)) = true
          simp
          omega
        have HL := fun i j => sub_low i j hb
        go_enter Tryz.func225, Tryz.ntmps225
        go_wp2_with fail
        refine (HV.out _).mono ?_
        rintro e w' ⟨rfl, hb⟩
        obtain ⟨y1, rfl⟩ := ext_of hb
        clear hb
        go_wp2_with fail
        go_step3
        go_wp2_with fail
        refine wp_loop_rounds 1 ?_
        rw [rounds_succ]
        go_wp2_with fail
        go_step3
        go_wp2_with fail
        go_region
        go_wp2_with fail
        refine wp_region_ext (by kernel_rfl) (by kernel_rfl) ?_
        repeat (go_big_quiet_step ((first | (exact Calls.grew (HB.out _ b _ (HL _ _))))))
        refine wpQuiet_nil ?_
        intro _ hw'
        obtain ⟨y2, rfl⟩ := hw'
        go_wp2_with fail
        simp only [Exit.noGoto, Exit.inBlock, Exit.then]
        go_ret
        exact ⟨rfl, (by repeat (first | exact Below.refl _ _ | apply bal | apply bext | apply bdr | apply bdrN | (refine bst ?_ _ (by simp only [ext_size, size_alloc, size_set]; omega))))⟩
      · rw [e1] at hcv
        have hlt := c.toNat_lt
        have h1 : (((signT[2]'(by show 2 < 4; omega)).toNat : Int) != ((((⟨#[a, b, c]⟩ : ByteArray)[2]'(by show 2 < 3; omega)).toNat : Nat) : Int)) = true := by
          show ((94 : Int) != (c.toNat : Int)) = true
          simp
          omega
        have HL := fun i j => sub_low i j hb
        go_enter Tryz.func225, Tryz.ntmps225
        go_wp2_with fail
        refine (HV.out _).mono ?_
        rintro e w' ⟨rfl, hb⟩
        obtain ⟨y1, rfl⟩ := ext_of hb
        clear hb
        go_wp2_with fail
        go_step3
        go_wp2_with fail
        refine wp_loop_rounds 1 ?_
        rw [rounds_succ]
        go_wp2_with fail
        go_step3
        go_wp2_with fail
        go_region
        go_wp2_with fail
        refine wp_region_ext (by kernel_rfl) (by kernel_rfl) ?_
        repeat (go_big_quiet_step ((first | (exact Calls.grew (HB.out _ c _ (HL _ _))))))
        refine wpQuiet_nil ?_
        intro _ hw'
        obtain ⟨y2, rfl⟩ := hw'
        go_wp2_with fail
        simp only [Exit.noGoto, Exit.inBlock, Exit.then]
        go_ret
        exact ⟨rfl, (by repeat (first | exact Below.refl _ _ | apply bal | apply bext | apply bdr | apply bdrN | (refine bst ?_ _ (by simp only [ext_size, size_alloc, size_set]; omega))))⟩
      · rw [e1] at hcv
        have hlt := d.toNat_lt
        have h1 : (((signT[3]'(by show 3 < 4; omega)).toNat : Int) != ((((⟨#[a, b, c, d]⟩ : ByteArray)[3]'(by show 3 < 4; omega)).toNat : Nat) : Int)) = true := by
          show ((63 : Int) != (d.toNat : Int)) = true
          simp
          omega
        have HL := fun i j => sub_low i j hb
        go_enter Tryz.func225, Tryz.ntmps225
        go_wp2_with fail
        refine (HV.out _).mono ?_
        rintro e w' ⟨rfl, hb⟩
        obtain ⟨y1, rfl⟩ := ext_of hb
        clear hb
        go_wp2_with fail
        go_step3
        go_wp2_with fail
        refine wp_loop_rounds 1 ?_
        rw [rounds_succ]
        go_wp2_with fail
        go_step3
        go_wp2_with fail
        go_region
        go_wp2_with fail
        refine wp_region_ext (by kernel_rfl) (by kernel_rfl) ?_
        repeat (go_big_quiet_step ((first | (exact Calls.grew (HB.out _ d _ (HL _ _))))))
        refine wpQuiet_nil ?_
        intro _ hw'
        obtain ⟨y2, rfl⟩ := hw'
        go_wp2_with fail
        simp only [Exit.noGoto, Exit.inBlock, Exit.then]
        go_ret
        exact ⟨rfl, (by repeat (first | exact Below.refl _ _ | apply bal | apply bext | apply bdr | apply bdrN | (refine bst ?_ _ (by simp only [ext_size, size_alloc, size_set]; omega))))⟩
end Go.Proofs.YtejdpjmfnpbadaaGreatDoor
namespace Go.Proofs.YtejdpjmfnpbadaaGreatDoor
open Go.RowKit
theorem iterPos_of {W : World} {k : Nat} {s : ByteArray} {p : Nat} (h : W.heap[k]? = some (.stringIter s p)) : W.iterPos k = p := by simp [World.iterPos, h]
theorem noAny_more {s : ByteArray} {pos n : Nat} (h : Lib.NoAny s.data.toList signs pos) (h2 : ∀ k, k < n → ∃ hk : pos + k < s.size, 128 ≤ (s[pos + k]'hk).toNat) : Lib.NoAny s.data.toList signs (pos + n) := by
  intro j b hj hb
  by_cases hlt : j < pos
  · exact h j b hlt hb
  · obtain ⟨hk, h3⟩ := h2 (j - pos) (by omega)
    have e : pos + (j - pos) = j := by omega
    have := Lib.data_getElem? s j (by omega)
    rw [hb] at this
    obtain rfl := Option.some.inj this
    refine contains_high ?_
    simpa only [e] using h3
def IA (w : World) (s : ByteArray) (wr : World) : Prop := ∃ pos, pos ≤ s.size ∧ Lib.NoAny s.data.toList signs pos ∧ wr.heap[w.heap.size]? = some (.stringIter s pos) ∧ Below w.heap.size w wr
set_option maxHeartbeats 4000000 in
set_option maxRecDepth 100000 in
theorem idxAny_short (s : ByteArray) (w : World) (h8 : s.size ≤ 8) :
    Calls Tryz.prog 202 #[.string s, .string signT] w fun e w' => e = .returned (.int .i64 (Lib.indexAny s.data.toList signs)) ∧ Below w.heap.size w w' := by
  have hn1 : ((signT.size : Int) == 1) = false := by decide
  have hem : signT.toList.isEmpty = false := by rw [ByteArray.toList_eq]; rfl
  have HU := Lib.hid fun W => show Calls Tryz.prog 226 #[.int .i64 s.size] W fun e w' => e = .returned (.bool false) ∧ w' = W from
    (Tryz.strings_shouldUseASCIISet s.size W).mono fun e w' ⟨h1, h2⟩ => ⟨by rw [h1]; congr 2; exact decide_eq_false (by omega), h2⟩
  have HA := Lib.hid fun (r : Nat) W (h : r < 128) => show Calls Tryz.prog 225 #[.string signT, .int .i32 r] W fun e w' => e = .returned (.int .i64 (Lib.indexByte signs r.toUInt8)) ∧ Below W.heap.size W w' from
    (Tryz.strings_IndexRune_ascii signT r W (by omega) (by omega)).mono fun e w' ⟨h1, h2⟩ => ⟨by rw [h1]; rfl, h2 ▸ Below.refl _ _⟩
  have HH := Lib.hid fun (r : Nat) W (h : 128 ≤ r) => idxRune_high r W (by omega)
  go_enter Tryz.func202, Tryz.ntmps202
  go_wp2_with fail
  refine (HU.out _).mono ?_
  rintro e w' ⟨rfl, hw⟩
  rw [hw]
  clear hw
  go_wp2_with fail
  go_loopw [9, 10] (fun _ _ wr => IA w s wr) (fun _ _ wr => s.size - wr.iterPos w.heap.size)
  case atStart => exact ⟨0, Nat.zero_le _, Lib.NoAny.zero _ _, World.iter_heap _ _ _, size_iter _ _ _⟩
  case round =>
    obtain ⟨pos, hp, hno, hit, hbel⟩ := hrel
    have HN := Lib.hid hno
    have HB := Lib.hid hbel
    have HI := Lib.hid hit
    have hlt0 : w.heap.size < wr.heap.size := blk_lt hit
    have hip := iterPos_of hit
    clear hno hbel
    by_cases hlt : pos < s.size
    · have hn := fun ty => next_any (P := Tryz.prog) hit ty hlt
      obtain ⟨c, hc⟩ : ∃ c, c = (s[pos]'hlt).toNat := ⟨_, rfl⟩
      by_cases ha : c < 128
      · have hd : Utf8.decode s pos = (c, 1) := by rw [decode_ascii s pos hlt (by omega), hc]
        rw [hd] at hn
        have HD := Lib.hid hc
        clear hc hd hit
        obtain ⟨q, hq⟩ : ∃ q, q = Lib.indexByte signs c.toUInt8 := ⟨_, rfl⟩
        have HQ := Lib.hid fun W => HA.out c W ha
        rw [← hq] at HQ
        have HE := Lib.hid hq
        clear hq
        go_wp2_with fail
        refine (HQ.out _).mono ?_
        rintro e w' ⟨rfl, hb⟩
        have hsz := setIter_size wr w.heap.size s (pos + 1)
        have hit2 := (hb.block w.heap.size (by omega)).trans (setIter_same hlt0 s (pos + 1))
        have hbel2 : Below w.heap.size w w' := bel (setIter_below HB.out (Nat.le_refl _) s (pos + 1)) hb
        have hx : s.data.toList[pos]? = some (s[pos]'hlt) := Lib.data_getElem? s pos hlt
        have hcu : c.toUInt8 = s[pos]'hlt := by rw [HD.out]; simp
        have hcon := Lib.contains_iff_indexByte signs (c.toUInt8)
        rw [← HE.out] at hcon
        cases hin : signs.contains c.toUInt8
        · rw [hin] at hcon
          have hneg : ¬ (0 : Int) ≤ q := of_decide_eq_false hcon.symm
          have hres : IA w s w' := ⟨pos + 1, by omega, HN.out.succ hx (by rw [← hcu]; exact hin), hit2, hbel2⟩
          have hme := iterPos_of hit2
          clear hx hcu hcon hin hb hit2 hbel2 hn
          go_wp2_with fail
          exact ⟨hres, by rw [hme, hip]; omega⟩
        · rw [hin] at hcon
          have hge : (0 : Int) ≤ q := of_decide_eq_true hcon.symm
          have hres := Lib.indexAny_hit HN.out hx (by rw [← hcu]; exact hin)
          clear hx hcu hcon hin hb hit2 hn
          go_wp2_with fail
          go_ret
          exact ⟨by rw [hres]; rfl, hbel2⟩
      · have hw := decode_wide s pos hlt (by omega)
        have hd := (decode_high s pos hlt (by omega)).1
        obtain ⟨d, hd0⟩ : ∃ d, d = (Utf8.decode s pos).1 := ⟨_, rfl⟩
        obtain ⟨n, hn0⟩ : ∃ n, n = (Utf8.decode s pos).2 := ⟨_, rfl⟩
        rw [← hd0] at hn hd
        rw [← hn0] at hn hw
        have HW := Lib.hid hw
        clear hd0 hn0 hw hit hc
        go_wp2_with fail
        refine (HH.out d _ hd).mono ?_
        rintro e w' ⟨rfl, hb⟩
        have hsz := setIter_size wr w.heap.size s (pos + n)
        have hit2 := (hb.block w.heap.size (by omega)).trans (setIter_same hlt0 s (pos + n))
        have hbel2 : Below w.heap.size w w' := bel (setIter_below HB.out (Nat.le_refl _) s (pos + n)) hb
        have hres : IA w s w' := ⟨pos + n, HW.out.2.1, noAny_more HN.out HW.out.2.2, hit2, hbel2⟩
        have hme := iterPos_of hit2
        have hnn := HW.out.1
        clear hb hit2 hbel2 hn
        go_wp2_with fail
        exact ⟨hres, by rw [hme, hip]; omega⟩
    · have hn := fun ty => next_end (P := Tryz.prog) hit ty hlt
      have hl : s.data.toList.length = s.size := len_data s
      have hres := Lib.indexAny_none (s := s.data.toList) (chars := signs) (by rw [hl]; have := HN.out; rwa [show pos = s.size by omega] at this)
      clear hit
      go_wp2_with fail
      go_ret
      exact ⟨by rw [hres]; rfl, HB.out⟩
theorem idxAny_any (s : ByteArray) (w : World) (hs : s.size < 4294967281) :
    Calls Tryz.prog 202 #[.string s, .string signT] w fun e w' => e = .returned (.int .i64 (Lib.indexAny s.data.toList signs)) ∧ Below w.heap.size w w' := by
  by_cases h8 : s.size ≤ 8
  · exact idxAny_short s w h8
  · have h116 : (Tryz.prog.info? 276).map (fun i => (i.zero, i.size)) = some (some (.agg (Array.replicate 256 (.bool false))), 256) := by kernel_rfl
    refine (Tryz.strings_IndexAny_long (zero_of_info h116).1 s signT w (by decide) (by omega) hs (by decide) (fun j b hb => signs_low b (List.mem_of_getElem? hb))).mono ?_
    rintro e w' ⟨rfl, rfl⟩
    exact ⟨rfl, ((Below.refl _ _).alloc (Nat.le_refl _) _).alloc (by simp) _⟩
end Go.Proofs.YtejdpjmfnpbadaaGreatDoor
namespace Go.Proofs.YtejdpjmfnpbadaaGreatDoorQ.P
open Go.RowKit Go.Proofs.YtejdpjmfnpbadaaGreatDoorW.PrintWords Go.Proofs.YtejdpjmfnpbadaaGreatDoor
theorem if_someP {α : Type} {p : Prop} [Decidable p] {x y : α} (h : (if p then some x else none) = some y) : p ∧ x = y := by
  split at h
  · exact ⟨‹_›, Option.some.inj h⟩
  · cases h
theorem flat_sing (xs : List ByteArray) : xs.flatMap (fun x => [Value.string x]) = xs.map Value.string := by
  induction xs with
  | nil => rfl
  | cons x xs ih => rw [List.flatMap_cons, ih]; rfl
def wordsT (c : UInt8) (s : ByteArray) : List ByteArray := (splitL c s.data.toList).map tx
theorem tx_inj {a b : ByteArray} (h : a.data.toList = b.data.toList) : a = b := by rw [← tx_of a, ← tx_of b, h]
theorem count_one (c : UInt8) : ∀ (n : Nat) (l : List UInt8), l.length ≤ n → l.count c ≤ Lib.countFrom [c] (n + 1) l
  | n, l, hn => by
    rcases index_one_cut c l with ⟨h1, h2⟩ | ⟨i, h1, h2, h3⟩
    · rw [List.count_eq_zero.2 h2]; omega
    · have e : Lib.countFrom [c] (n + 1) l = 1 + Lib.countFrom [c] n (l.drop (i + 1)) := by
        rw [Lib.countFrom, if_neg (by rw [h1]; simp), h1, Int.toNat_natCast]
        rfl
      have hl : l.count c = 1 + (l.drop (i + 1)).count c := by
        conv => lhs; rw [h3]
        rw [List.count_append, List.count_cons_self, List.count_eq_zero.2 h2]
        omega
      have hlen : l.length = (l.take i).length + ((l.drop (i + 1)).length + 1) := by
        conv => lhs; rw [h3]
        simp
      rw [e, hl]
      cases n with
      | zero => omega
      | succ n =>
        have := count_one c n (l.drop (i + 1)) (by omega)
        omega
theorem split_words (c : UInt8) (s sep : ByteArray) (hsep : sep.data.toList = [c]) : Lib.splitB sep 0 (Lib.countB s sep) s = wordsT c s ∧ Lib.countB s sep + 1 = (wordsT c s).length := by
  have h1 := Lib.splitB_data sep 0 (Lib.countB s sep) s
  have hlen := Lib.splitB_all sep (by rw [← len_data, hsep]; simp) 0 _ s rfl
  have hc : s.data.toList.count c ≤ Lib.countB s sep := by
    show _ ≤ Lib.count s.data.toList sep.data.toList
    rw [hsep]
    exact count_one c _ _ (Nat.le_refl _)
  rw [hsep, splitK_eq c _ _ hc] at h1
  have h2 : Lib.splitB sep 0 (Lib.countB s sep) s = wordsT c s := by
    unfold wordsT
    rw [← h1, List.map_map]
    have : (tx ∘ fun x : ByteArray => x.data.toList) = id := by
      funext x
      exact tx_of x
    rw [this, List.map_id]
  rw [h2] at hlen
  exact ⟨h2, hlen.symm⟩
def strings_Split.f (a0 : ByteArray) (a1 : ByteArray) : Option (List ByteArray) := if a0.size ≤ 1000000 ∧ a1.size = 1 then some (wordsT (a1.data.toList.headD 0) a0) else none
theorem strs_r {w : World} {B : Nat} {v : Value} {xs : List ByteArray} (h : w.ownsRow B 9 1 v xs.length (xs.map Value.string)) : Kd.R Kd.string 9 w B (fun _ => True) v xs := by
  have := R_of_own (d := Kd.string) (g := id) (en := fun x => [Value.string x]) (fun _ _ _ _ => rfl) (fun _ => rfl) (ys := xs) (w := w) (B := B) (v := v) (e := 9) (by
    rw [flat_sing]
    exact h)
  rwa [List.map_id] at this
theorem strings_Split.calls (a0 : ByteArray) (a1 : ByteArray) (r : List ByteArray) (w : World) (hG : GOK w) (h : strings_Split.f a0 a1 = some r) :
    Calls Tryz.prog 64 #[.string a0, .string a1] w fun e w' => ∃ v0_ : Value, e = .returned (v0_) ∧ Kd.R Kd.string 9 w' w.heap.size (fun _ => True) v0_ r ∧ Below w.heap.size w w' := by
  obtain ⟨⟨h1, h2⟩, rfl⟩ := if_someP h
  obtain ⟨m, hm⟩ := gok_maxlen hG
  have hsep : a1.data.toList = [a1.data.toList.headD 0] := by
    have hl := len_data a1
    rw [h2] at hl
    match hh : a1.data.toList, hl with
    | [x], _ => rfl
  obtain ⟨e1, e2⟩ := split_words _ a0 a1 hsep
  refine (Tryz.strings_Split a0 a1 m w (by omega) hm (by omega)).mono ?_
  rintro e w' ⟨rfl, rfl⟩
  refine ⟨_, rfl, ?_, (Below.refl _ _).alloc (Nat.le_refl _) _⟩
  rw [e1, e2]
  refine strs_r ?_
  have hle : (wordsT (a1.data.toList.headD 0) a0).length ≤ 1000001 := by
    have := splitL_len (a1.data.toList.headD 0) a0.data.toList
    rw [len_data] at this
    unfold wordsT
    rw [List.length_map]
    omega
  refine ⟨by simp, .inr ⟨w.heap.size, _, _, rfl, Nat.le_refl _, Go.Proofs.YtejdpjmfnpbadaaGreatDoor.blk_new _ _, Nat.le_refl _, by unfold maxLen; omega, by simp, by rw [Nat.mul_one, List.take_of_length_le (by simp)]⟩⟩
def strings_IndexAny.f (a0 : ByteArray) (a1 : ByteArray) : Option (Int) := if a0.size ≤ 1000000 ∧ a1 = signT then some (Lib.indexAny a0.data.toList signs) else none
theorem strings_IndexAny.calls (a0 : ByteArray) (a1 : ByteArray) (r : Int) (w : World) (h : strings_IndexAny.f a0 a1 = some r) :
    Calls Tryz.prog 202 #[.string a0, .string a1] w fun e w' => e = .returned (.int .i64 r) ∧ Below w.heap.size w w' := by
  obtain ⟨⟨h1, rfl⟩, rfl⟩ := if_someP h
  exact idxAny_any a0 w (by omega)
end Go.Proofs.YtejdpjmfnpbadaaGreatDoorQ.P
namespace Go.Proofs.YtejdpjmfnpbadaaGreatDoorQ.P
open Go.RowKit Go.Proofs.YtejdpjmfnpbadaaGreatDoorW.PrintWords Go.Proofs.YtejdpjmfnpbadaaGreatDoor
def toRcv (x : S41) : Rcv := ⟨x.f0, x.f1.f0, x.f1.f1, x.f1.f2, x.f2, x.f3, x.f4, x.f5, x.f6⟩
def ofRcv (x : Rcv) : S41 := ⟨x.name, ⟨x.base, x.top, x.jit⟩, x.tries, x.fails, x.opn, x.burst, x.every⟩
def toRte (x : S46) : Rte := ⟨x.f0, x.f1.map toMat⟩
def ofRte (x : Rte) : S46 := ⟨x.chain, x.asked.map ofMat⟩
theorem rcvs_c {w : World} {A : Option Addr} {c : Nat} {xs : List S41} (h : Kd.C k41 w A xs.length xs) (hc : xs.length ≤ c) : SlAt w (.slice A xs.length c) 9 (xs.map toRcv).length (rcvsC (xs.map toRcv)) := by
  rw [List.length_map]
  exact slat_of_C (f := toRcv) (en := rcvC) (fun h => k41_open h) (fun _ => rfl) (by decide) h hc
theorem flat_ints (xs : List Int) : xs.flatMap (fun x => [Value.int .i64 x]) = intsC xs := by
  unfold intsC
  induction xs with
  | nil => rfl
  | cons x xs ih => rw [List.flatMap_cons, ih]; rfl
theorem ints_c {w : World} {A : Option Addr} {c : Nat} {xs : List Int} (h : (Kd.int .i64).C w A xs.length xs) (hc : xs.length ≤ c) : SlAt w (.slice A xs.length c) 1 xs.length (intsC xs) := by
  have hS := slat_of_C (d := Kd.int .i64) (f := id) (en := fun x => [Value.int .i64 x]) (fun h => h) (fun _ => rfl) (by decide) h hc
  rw [List.map_id, flat_ints] at hS
  exact hS
theorem rts_of_C {w : World} {A : Option Addr} {c : Nat} {l : List S46} (h : Kd.C k46 w A l.length l) (hc : l.length ≤ c) :
    ∃ xs : List RtV, SlAt w (.slice A l.length c) 2 xs.length (rtvsC xs) ∧ xs.map (·.t) = l.map toRte ∧ ∀ x ∈ xs, SlAt w x.c 1 x.t.chain.length (intsC x.t.chain) ∧ SlAt w x.a 3 x.t.asked.length (matsC x.t.asked) := by
  obtain ⟨_, hm, hr⟩ := h
  rcases Nat.eq_zero_or_pos l.length with hz | hz
  · have hl : l = [] := List.length_eq_zero_iff.1 hz
    subst hl
    exact ⟨[], ⟨rfl, A, c, rfl, Nat.zero_le _, Nat.zero_le _, .inl rfl⟩, rfl, by simp⟩
  obtain ⟨ad, rfl, hcell⟩ := hr hz
  have H : ∀ j : Fin l.length, ∃ x : RtV, x.t = toRte l[j.1] ∧ SlAt w x.c 1 x.t.chain.length (intsC x.t.chain) ∧ SlAt w x.a 3 x.t.asked.length (matsC x.t.asked) ∧ w.cell? (ad.add (j.1 * 2)) = some x.c ∧ w.cell? (ad.add (j.1 * 2 + 1)) = some x.a := by
    intro j
    obtain ⟨cs, _, hk, hcs⟩ := hcell j.1 l[j.1] (List.getElem?_eq_getElem j.2)
    obtain ⟨A0, c0, A1, c1, rfl, l0, g0, l1, g1⟩ := k46_open hk
    exact ⟨⟨.slice A0 _ c0, .slice A1 _ c1, toRte l[j.1]⟩, rfl, ints_c g0 l0, mats_c g1 l1, hcs 0 _ rfl, hcs 1 _ rfl⟩
  obtain ⟨f, hf⟩ := Classical.axiomOfChoice H
  have hlen : (List.ofFn f).length = l.length := List.length_ofFn
  have hget : ∀ t u, (rtvsC (List.ofFn f))[t]? = some u → w.cell? (ad.add t) = some u := by
    intro t u hu
    obtain ⟨h1, h2⟩ := flat_get? (en := rtvC) (sz := 2) (fun _ => rfl) (by omega) _ t u hu
    rw [hlen] at h1
    rw [List.getElem_ofFn] at h2
    have hj := hf ⟨t / 2, h1⟩
    have hm2 : t % 2 = 0 ∨ t % 2 = 1 := by omega
    rcases hm2 with e | e
    · rw [e] at h2
      have e2 : t / 2 * 2 = t := by omega
      have h3 := hj.2.2.2.1
      simp only [e2] at h3
      rw [h3, ← h2]
      rfl
    · rw [e] at h2
      have e2 : t / 2 * 2 + 1 = t := by omega
      have h3 := hj.2.2.2.2
      simp only [e2] at h3
      rw [h3, ← h2]
      rfl
  have h0 := (hf ⟨0, hz⟩).2.2.2.1
  have ha0 : ad.add (0 * 2) = ad := by simp [Addr.add]
  simp only [ha0] at h0
  have hsp := cell_spot h0
  obtain ⟨b, o, s⟩ := ad
  simp only at hsp
  subst hsp
  refine ⟨List.ofFn f, ⟨by rw [rtvsC, flat_len (en := rtvC) (sz := 2) (fun _ => rfl)], some ⟨b, o, none⟩, c, by rw [hlen], by rw [hlen]; exact hc, by rw [hlen]; unfold maxLen; omega, .inr ⟨b, o, rfl, World.block_lt_of_cell? _ _ h0, fun j u hu => ?_⟩⟩, ?_, ?_⟩
  · have := hget j u hu
    rwa [add_off] at this
  · apply List.ext_getElem
    · simp
    · intro i h1 h2
      simp only [List.getElem_map, List.getElem_ofFn]
      exact (hf ⟨i, by simpa using h2⟩).1
  · intro x hx
    obtain ⟨j, rfl⟩ := List.mem_ofFn.1 hx
    exact ⟨(hf j).2.1, (hf j).2.2.1⟩
def rteSzB (x : S46) : Bool := matsOkB x.f1 && decide (x.f0.length ≤ maxLen) && x.f0.all fun k => (Lit.int .i64 k).wf
def cfgSzB (l : List S41) (t : List S46) : Bool := (l.all fun x => decide (x.f0.size ≤ maxLen)) && t.all rteSzB
def config_Right.f (l0_0 : List (S41)) (l0_1 : List (S46)) (a0_2 : Int) (a0_3 : Int) : Option (Bool) := if cfgSzB l0_0 l0_1 = true then some (Cfg.okB ⟨l0_0.map toRcv, l0_1.map toRte, a0_2, a0_3⟩) else none
theorem config_Right.calls (A0_0 : Option Addr) (c0_0 : Nat) (l0_0 : List (S41)) (A0_1 : Option Addr) (c0_1 : Nat) (l0_1 : List (S46)) (a0_2 : Int) (a0_3 : Int) (r : Bool) (w : World) (hr0_0 : Kd.C k41 w A0_0 l0_0.length l0_0) (hc0_0 : l0_0.length ≤ c0_0) (hr0_1 : Kd.C k46 w A0_1 l0_1.length l0_1) (hc0_1 : l0_1.length ≤ c0_1) (h : config_Right.f l0_0 l0_1 a0_2 a0_3 = some r) :
    Calls Tryz.prog 20 #[.agg #[.slice A0_0 l0_0.length c0_0, .slice A0_1 l0_1.length c0_1, .int .i64 a0_2, .int .i64 a0_3]] w fun e w' => e = .returned (.bool r) ∧ Below w.heap.size w w' := by
  obtain ⟨h1, rfl⟩ := if_someP h
  unfold cfgSzB at h1
  rw [Bool.and_eq_true, List.all_eq_true, List.all_eq_true] at h1
  obtain ⟨xs, hS, hm, hx⟩ := rts_of_C hr0_1 hc0_1
  refine cfgRight_any _ _ ⟨l0_0.map toRcv, l0_1.map toRte, a0_2, a0_3⟩ xs w (rcvs_c hr0_0 hc0_0) hS hm (fun x hxx => ?_) (fun x hxx => ?_)
  · have hmem : x.t ∈ l0_1.map toRte := by rw [← hm]; exact List.mem_map_of_mem hxx
    obtain ⟨y, hy, hyt⟩ := List.mem_map.1 hmem
    have hz := h1.2 y hy
    simp only [rteSzB, Bool.and_eq_true, decide_eq_true_eq, List.all_eq_true] at hz
    obtain ⟨g1, g2⟩ := hx x hxx
    refine ⟨g1, g2, ?_, ?_, ?_⟩
    · rw [← hyt]
      exact mats_ok hz.1.1
    · rw [← hyt]
      exact hz.2
    · rw [← hyt]
      exact hz.1.2
  · obtain ⟨y, hy, rfl⟩ := List.mem_map.1 hxx
    have := h1.1 y hy
    simpa [toRcv] using this
end Go.Proofs.YtejdpjmfnpbadaaGreatDoorQ.P
namespace Go.Proofs.YtejdpjmfnpbadaaGreatDoor
open Go.RowKit Go.Proofs.YtejdpjmfnpbadaaGreatDoorQ Go.Proofs.YtejdpjmfnpbadaaGreatDoorQ.P Go.Proofs.YtejdpjmfnpbadaaGreatDoorW.PrintWords Go.Proofs.YtejdpjmfnpbadaaGreatDoorW.PrintMore
attribute [local go_sem high] ext_size ext_cell ext_frozen alloc_cell alloc_frozen
attribute [local go_sem] lt_more lt_suc drew_size drew_cell
theorem ints_get (xs : List Int) (k : Nat) (h : k < xs.length) : (intsC xs)[k]? = some (.int .i64 xs[k]) := by
  unfold intsC
  rw [List.getElem?_map, List.getElem?_eq_getElem h]
  rfl
def PredI (f : FuncId) (caps : Array Value) (w : World) (p : Int → Bool) (xs : List Int) : Prop :=
  ∀ x ∈ xs, ∀ W, Below w.heap.size w W → Calls Tryz.prog f (#[Value.int .i64 x] ++ caps) W fun e W' => e = .returned (.bool (p x)) ∧ Below W.heap.size W W'
theorem indexFuncI (v : Value) (xs : List Int) (f : FuncId) (caps : Array Value) (p : Int → Bool) (w : World) (hS : SlAt w v 1 xs.length (intsC xs)) (hp : PredI f caps w p xs) (hf : Enters Tryz.prog f) :
    Calls Tryz.prog 165 #[v, .func (.func f) #[] caps] w fun e w' => e = .returned (.int .i64 (idxOf p xs)) ∧ Below w.heap.size w w' := by
  obtain ⟨a, c, rfl, hnc, hcm⟩ := hS.form
  have hm := hS.le
  have HS := Lib.hid hS
  have HP := Lib.hid hp
  clear hS hp
  unfold maxLen at hm
  go_enter Tryz.func165, Tryz.ntmps165
  go_wp2
  go_loopw [5, 8] (fun _ i wr => ∃ k : Nat, k ≤ xs.length ∧ i = .int .i64 k ∧ (∀ j (hj : j < xs.length), j < k → p xs[j] = false) ∧ Below w.heap.size w wr) (fun _ i _ => xs.length - (intOf i).toNat)
  case atStart => exact ⟨0, Nat.zero_le _, rfl, fun j _ hj => absurd hj (by omega), Below.refl _ _⟩
  case round =>
    obtain ⟨k, hk, rfl, hno, hbel⟩ := hrel
    have HN := Lib.hid hno
    clear hno
    obtain ⟨xr, rfl⟩ := ext_of hbel
    by_cases hlt : k < xs.length
    · obtain ⟨b, o, rfl, hbl, hcell⟩ := HS.out.at (by omega)
      have hg := ints_get xs k hlt
      have hck0 : w.cell? ⟨b, o + k, none⟩ = some (.int .i64 xs[k]) := hcell _ _ hg
      clear hcell hg
      have hcall : Calls Tryz.prog f (#[.int .i64 xs[k]] ++ caps) (ext w xr) fun e W' => e = .returned (.bool (p xs[k])) ∧ Below (ext w xr).heap.size (ext w xr) W' := HP.out xs[k] (List.getElem_mem hlt) (ext w xr) hbel
      have he := hf (#[.int .i64 xs[k]] ++ caps) (ext w xr)
      cases hpx : p xs[k]
      all_goals
        rw [hpx] at hcall
        have HX := Lib.hid hpx
        have HC := Lib.hid hcall
        clear hpx hcall hbel
        go_wp2_with (refine Calls.mono HC.out ?_; rintro e w1 ⟨rfl, hb1⟩)
      · refine ⟨⟨k + 1, by omega, by go_num, fun j hj hjk => ?_, bel (ext_bel w xr) hb1⟩, by simp [intOf]; omega⟩
        rcases Nat.lt_succ_iff_lt_or_eq.1 hjk with h | rfl
        · exact HN.out j hj h
        · exact HX.out
      · go_ret
        exact ⟨ret_int (idxOf_found hlt HX.out fun j hj => HN.out j (by omega) hj).symm, bel (ext_bel w xr) hb1⟩
    · obtain rfl : k = xs.length := by omega
      go_wp2
      go_ret
      exact ⟨ret_int (idxOf_none fun j hj => HN.out j hj hj).symm, ext_bel w xr⟩
theorem containsFuncI (v : Value) (xs : List Int) (f : FuncId) (caps : Array Value) (p : Int → Bool) (w : World) (hS : SlAt w v 1 xs.length (intsC xs)) (hp : PredI f caps w p xs) (hf : Enters Tryz.prog f) :
    Calls Tryz.prog 107 #[v, .func (.func f) #[] caps] w fun e w' => e = .returned (.bool (xs.any p)) ∧ Below w.heap.size w w' := by
  have hi := Lib.hid (idxOf_any p xs)
  have HI := Lib.hid (indexFuncI v xs f caps p w hS hp hf)
  obtain ⟨a, c, rfl, hnc, hcm⟩ := hS.form
  clear hp hS
  go_enter Tryz.func107, Tryz.ntmps107
  go_wp2_with fail
  refine HI.out.mono ?_
  rintro e w1 ⟨rfl, hb1⟩
  go_wp2
  go_ret
  exact ⟨ret_bool hi.out, hb1⟩
theorem all1_any (t : Int) (w : World) : Calls Tryz.prog 108 #[.int .i64 t] w fun e w' => e = .returned (.bool (!timeB t)) ∧ Below w.heap.size w w' := by
  have HT := Lib.hid fun W => tick_any t W
  generalize timeB t = b at HT ⊢
  cases b
  all_goals
    go_enter Tryz.func108, Tryz.ntmps108
    go_wp2_with fail
    refine (HT.out _).mono ?_
    rintro e w' ⟨rfl, hb⟩
    obtain ⟨y1, rfl⟩ := ext_of hb
    clear hb
    go_wp2_with fail
    go_ret
    exact ⟨rfl, (by repeat (first | exact Below.refl _ _ | apply bal | apply bext | apply bdr | apply bdrN | (refine bst ?_ _ (by simp only [ext_size, size_alloc, size_set]; omega))))⟩
theorem all_ints (l : List Int) : (!l.any fun t => !timeB t) = l.all timeB := by
  induction l with
  | nil => rfl
  | cons x l ih =>
    rw [List.any_cons, List.all_cons, ← ih]
    cases timeB x <;> rfl
theorem all_any (v : Value) (l : List Int) (w : World) (hS : SlAt w v 1 l.length (intsC l)) : Calls Tryz.prog 57 #[v] w fun e w' => e = .returned (.bool (l.all timeB)) ∧ Below w.heap.size w w' := by
  have HC := Lib.hid (containsFuncI v l 108 #[] (fun t => !timeB t) w hS (fun x hx W _ => all1_any x W) (enters_of Tryz.func108 (by kernel_rfl) rfl))
  rw [← all_ints]
  generalize (l.any fun t => !timeB t) = b at HC ⊢
  clear hS
  cases b
  all_goals
    go_enter Tryz.func57, Tryz.ntmps57
    go_wp2_with fail
    refine (HC.out).mono ?_
    rintro e w' ⟨rfl, hb⟩
    obtain ⟨y1, rfl⟩ := ext_of hb
    clear hb
    go_wp2_with fail
    go_ret
    exact ⟨rfl, (by repeat (first | exact Below.refl _ _ | apply bal | apply bext | apply bdr | apply bdrN | (refine bst ?_ _ (by simp only [ext_size, size_alloc, size_set]; omega))))⟩
theorem run_store_func {P : Program} {w : World} {a : Addr} {m : Mode} (f : Fn) (x y : Array Value) : (store a (.func f x y) m).run P w = stored P w a (.func f x y) m := run_store P w a _ m rfl
attribute [local go_sem] run_store_func
def waitV (x : Rcv) : Int := wrap64 (x.top + x.jit)
def allR (x : Rcv) : Int := mx (mx (waitV x) x.every) x.opn
def mostL (xs : List Rcv) : Int := xs.foldl (fun o x => mx o (allR x)) 0
theorem mostL_snoc (xs : List Rcv) (x : Rcv) : mostL (xs ++ [x]) = mx (mostL xs) (allR x) := by simp [mostL]
theorem wait_any (x : Rcv) (w : World) : Calls Tryz.prog 21 #[rcvV x] w fun e w' => e = .returned (.int .i64 (waitV x)) ∧ Below w.heap.size w w' := by
  unfold rcvV waitV
  go_enter Tryz.func21, Tryz.ntmps21
  go_wp2_with fail
  go_ret
  exact ⟨rfl, (by repeat (first | exact Below.refl _ _ | apply bal | apply bext | apply bdr | apply bdrN | (refine bst ?_ _ (by simp only [ext_size, size_alloc, size_set]; omega))))⟩
set_option maxHeartbeats 4000000 in
theorem allR_any (x : Rcv) (g : Nat) (w : World) (hc : w.cell? ⟨g, 0, none⟩ = some (.func (.func 21) #[] #[])) (hg : g < w.heap.size) :
    Calls Tryz.prog 22 #[rcvV x, .pointer (some ⟨g, 0, none⟩)] w fun e w' => e = .returned (.int .i64 (allR x)) ∧ Below w.heap.size w w' := by
  have HW := Lib.hid fun W => wait_any x W
  unfold allR
  generalize waitV x = wv at HW ⊢
  unfold rcvV at *
  go_enter Tryz.func22, Tryz.ntmps22
  go_wp2_with fail
  refine wp_region_ext (by kernel_rfl) (by kernel_rfl) ?_
  repeat (go_big_quiet_step ((first | (go_at_call 21; exact Calls.grew (HW.out _)))))
  refine wpQuiet_nil ?_
  intro _ hw'
  obtain ⟨y1, rfl⟩ := hw'
  go_wp2_with fail
  all_goals
    go_ret
    refine ⟨?_, (by repeat (first | exact Below.refl _ _ | apply bal | apply bext | apply bdr | apply bdrN | (refine bst ?_ _ (by simp only [ext_size, size_alloc, size_set]; omega))))⟩
    rw [mx_eq, mx_eq]
    refine Eq.trans (b := Ending.returned (Value.int .i64 _)) rfl (congrArg (fun n => Ending.returned (Value.int .i64 n)) ?_)
    omega
set_option maxHeartbeats 4000000 in
theorem most_any (v : Value) (xs : List Rcv) (g : Nat) (w : World) (hS : SlAt w v 9 xs.length (rcvsC xs)) (hc : w.cell? ⟨g, 0, none⟩ = some (.func (.func 21) #[] #[])) (hg : g < w.heap.size) :
    Calls Tryz.prog 23 #[v, .func (.func 22) #[] #[.pointer (some ⟨g, 0, none⟩)]] w fun e w' => e = .returned (.int .i64 (mostL xs)) ∧ Below w.heap.size w w' := by
  obtain ⟨a, c, rfl, hnc, hcm⟩ := hS.form
  have hm := hS.le
  have HS := Lib.hid hS
  have HA := Lib.hid fun x W (hb : Below w.heap.size w W) => allR_any x g W ((hb.cell (p := ⟨g, 0, none⟩) hg).trans hc) (Nat.lt_of_lt_of_le hg hb.size)
  clear hS hc
  unfold maxLen at hm
  go_enter Tryz.func23, Tryz.ntmps23
  go_wp2
  go_loopw [5, 10] (fun out i wr => ∃ k : Nat, k ≤ xs.length ∧ i = .int .i64 k ∧ out = .int .i64 (mostL (xs.take k)) ∧ Below w.heap.size w wr) (fun _ i _ => xs.length - (intOf i).toNat)
  case atStart => exact ⟨0, Nat.zero_le _, rfl, rfl, Below.refl _ _⟩
  case round =>
    obtain ⟨k, hk, rfl, rfl, hbel⟩ := hrel
    obtain ⟨xr, rfl⟩ := ext_of hbel
    by_cases hlt : k < xs.length
    · obtain ⟨b, o, rfl, hbl, hcell⟩ := HS.out.at (by omega)
      obtain ⟨h0, h1, h2, h3, h4, h5, h6, h7, h8⟩ := rcvs_get xs k hlt
      have c0 : w.cell? ⟨b, o + k * 9, none⟩ = some (.string xs[k].name) := hcell _ _ h0
      have c1 : w.cell? ⟨b, o + k * 9 + 1, none⟩ = some (.int .i64 xs[k].base) := by rw [Nat.add_assoc]; exact hcell _ _ h1
      have c2 : w.cell? ⟨b, o + k * 9 + 2, none⟩ = some (.int .i64 xs[k].top) := by rw [Nat.add_assoc]; exact hcell _ _ h2
      have c3 : w.cell? ⟨b, o + k * 9 + 3, none⟩ = some (.int .i64 xs[k].jit) := by rw [Nat.add_assoc]; exact hcell _ _ h3
      have c4 : w.cell? ⟨b, o + k * 9 + 4, none⟩ = some (.int .i64 xs[k].tries) := by rw [Nat.add_assoc]; exact hcell _ _ h4
      have c5 : w.cell? ⟨b, o + k * 9 + 5, none⟩ = some (.int .i64 xs[k].fails) := by rw [Nat.add_assoc]; exact hcell _ _ h5
      have c6 : w.cell? ⟨b, o + k * 9 + 6, none⟩ = some (.int .i64 xs[k].opn) := by rw [Nat.add_assoc]; exact hcell _ _ h6
      have c7 : w.cell? ⟨b, o + k * 9 + 7, none⟩ = some (.int .i64 xs[k].burst) := by rw [Nat.add_assoc]; exact hcell _ _ h7
      have c8 : w.cell? ⟨b, o + k * 9 + 8, none⟩ = some (.int .i64 xs[k].every) := by rw [Nat.add_assoc]; exact hcell _ _ h8
      have HT := Lib.hid (show mostL (xs.take (k + 1)) = mx (mostL (xs.take k)) (allR xs[k]) from by rw [List.take_succ_eq_append_getElem hlt, mostL_snoc])
      have HA' := Lib.hid fun W hb => HA.out xs[k] W hb
      clear hcell h0 h1 h2 h3 h4 h5 h6 h7 h8 HA hbel
      generalize allR xs[k] = av at HT HA'
      unfold rcvV at HA'
      go_wp2_with fail
      refine (HA'.out _ (by repeat (first | exact Below.refl _ _ | apply bal | apply bext | apply bdr | apply bdrN | (refine bst ?_ _ (by simp only [ext_size, size_alloc, size_set]; omega))))).mono ?_
      rintro e w' ⟨rfl, hb⟩
      obtain ⟨z, rfl⟩ := ext_of hb
      clear hb
      go_wp2_with fail
      refine ⟨⟨k + 1, by omega, by go_num, by rw [HT.out, mx_eq], (by repeat (first | exact Below.refl _ _ | apply bal | apply bext | apply bdr | apply bdrN | (refine bst ?_ _ (by simp only [ext_size, size_alloc, size_set]; omega))))⟩, by simp [intOf]; omega⟩
    · obtain rfl : k = xs.length := by omega
      clear hlt
      go_wp2
      go_ret
      rw [List.take_length]
      exact ⟨rfl, ext_bel w xr⟩
set_option maxHeartbeats 4000000 in
theorem step_any (A0_0 : Option Addr) (c0_0 : Nat) (l0_0 : List (S41)) (A0_1 : Option Addr) (c0_1 : Nat) (l0_1 : List (S46)) (a0_2 : Int) (a0_3 : Int) (ok : Bool) (w : World) (hr0_0 : Kd.C k41 w A0_0 l0_0.length l0_0) (hc0_0 : l0_0.length ≤ c0_0) (hr0_1 : Kd.C k46 w A0_1 l0_1.length l0_1) (hc0_1 : l0_1.length ≤ c0_1) (h : config_Right.f l0_0 l0_1 a0_2 a0_3 = some ok) :
    Calls Tryz.prog 7 #[.agg #[.slice A0_0 l0_0.length c0_0, .slice A0_1 l0_1.length c0_1, .int .i64 a0_2, .int .i64 a0_3]] w fun e w' => e = .returned (.tuple #[.int .i64 (if ok = true then mostL (l0_0.map toRcv) else 0), .int .i64 (if ok = true then 0 else 1)]) ∧ Below w.heap.size w w' := by
  have HR := Lib.hid fun W (hb : Below w.heap.size w W) => config_Right.calls A0_0 c0_0 l0_0 A0_1 c0_1 l0_1 a0_2 a0_3 ok W (Kd.C_below hr0_0 hb) hc0_0 (Kd.C_below hr0_1 hb) hc0_1 h
  have hS := rcvs_c hr0_0 hc0_0
  rw [List.length_map] at hS
  have HM := Lib.hid fun W g (hb : Below w.heap.size w W) (hc : W.cell? ⟨g, 0, none⟩ = some (.func (.func 21) #[] #[])) (hg : g < W.heap.size) => most_any (.slice A0_0 l0_0.length c0_0) (l0_0.map toRcv) g W (by rw [List.length_map]; exact hS.stay hb) hc hg
  clear hS hr0_0 hr0_1 h
  generalize mostL (l0_0.map toRcv) = m at HM ⊢
  cases ok
  · rw [if_neg (by decide), if_neg (by decide)]
    go_enter Tryz.func7, Tryz.ntmps7
    go_wp2_with fail
    refine (HR.out _ (by repeat (first | exact Below.refl _ _ | apply bal | apply bext | apply bdr | apply bdrN | (refine bst ?_ _ (by simp only [ext_size, size_alloc, size_set]; omega))))).mono ?_
    rintro e w' ⟨rfl, hb⟩
    obtain ⟨z, rfl⟩ := ext_of hb
    clear hb
    go_wp2_with fail
    go_ret2
    exact ⟨rfl, (by repeat (first | exact Below.refl _ _ | apply bal | apply bext | apply bdr | apply bdrN | (refine bst ?_ _ (by simp only [ext_size, size_alloc, size_set]; omega))))⟩
  · rw [if_pos rfl, if_pos rfl]
    go_enter Tryz.func7, Tryz.ntmps7
    go_wp2_with fail
    refine (HR.out _ (by repeat (first | exact Below.refl _ _ | apply bal | apply bext | apply bdr | apply bdrN | (refine bst ?_ _ (by simp only [ext_size, size_alloc, size_set]; omega))))).mono ?_
    rintro e w' ⟨rfl, hb⟩
    obtain ⟨z, rfl⟩ := ext_of hb
    clear hb
    go_wp2_with fail
    refine (HM.out _ _ (by repeat (first | exact Below.refl _ _ | apply bal | apply bext | apply bdr | apply bdrN | (refine bst ?_ _ (by simp only [ext_size, size_alloc, size_set]; omega)))) ?_ ?_).mono ?_
    · go_simp
      try rfl
    · go_simp
      try omega
    rintro e w' ⟨rfl, hb⟩
    obtain ⟨z2, rfl⟩ := ext_of hb
    clear hb
    go_wp2_with fail
    go_ret2
    exact ⟨rfl, (by repeat (first | exact Below.refl _ _ | apply bal | apply bext | apply bdr | apply bdrN | (refine bst ?_ _ (by simp only [ext_size, size_alloc, size_set]; omega))))⟩
end Go.Proofs.YtejdpjmfnpbadaaGreatDoor
namespace Go.Proofs.YtejdpjmfnpbadaaGreatDoorQ.P
open Go.RowKit Go.Proofs.YtejdpjmfnpbadaaGreatDoorW.PrintWords Go.Proofs.YtejdpjmfnpbadaaGreatDoor
def tick_all.f (l0 : List Int) : Option (Bool) := some (l0.all timeB)
theorem tick_all.calls (A0 : Option Addr) (c0 : Nat) (l0 : List Int) (r : Bool) (w : World) (hr0 : Kd.C (Kd.int .i64) w A0 l0.length l0) (hc0 : l0.length ≤ c0) (h : tick_all.f l0 = some r) :
    Calls Tryz.prog 57 #[.slice A0 l0.length c0] w fun e w' => e = .returned (.bool r) ∧ Below w.heap.size w w' := by
  obtain rfl := Option.some.inj h
  exact all_any _ l0 w (ints_c hr0 hc0)
def stepF (ok : Bool) (l : List Rcv) : Int × Int := (if ok = true then mostL l else 0, if ok = true then 0 else 1)
def bound_Step.f (l0_0 : List (S41)) (l0_1 : List (S46)) (a0_2 : Int) (a0_3 : Int) : Option (Int × Int) := (config_Right.f l0_0 l0_1 a0_2 a0_3).map fun ok => stepF ok (l0_0.map toRcv)
theorem bound_Step.calls (A0_0 : Option Addr) (c0_0 : Nat) (l0_0 : List (S41)) (A0_1 : Option Addr) (c0_1 : Nat) (l0_1 : List (S46)) (a0_2 : Int) (a0_3 : Int) (r1 : Int) (r2 : Int) (w : World) (hr0_0 : Kd.C k41 w A0_0 l0_0.length l0_0) (hc0_0 : l0_0.length ≤ c0_0) (hr0_1 : Kd.C k46 w A0_1 l0_1.length l0_1) (hc0_1 : l0_1.length ≤ c0_1) (h : bound_Step.f l0_0 l0_1 a0_2 a0_3 = some (r1, r2)) :
    Calls Tryz.prog 7 #[.agg #[.slice A0_0 l0_0.length c0_0, .slice A0_1 l0_1.length c0_1, .int .i64 a0_2, .int .i64 a0_3]] w fun e w' => e = .returned (.tuple #[.int .i64 r1, .int .i64 r2]) ∧ Below w.heap.size w w' := by
  obtain ⟨ok, h1, h2⟩ := Option.map_eq_some_iff.1 h
  unfold stepF at h2
  injection h2 with h3 h4
  rw [← h3, ← h4]
  exact step_any A0_0 c0_0 l0_0 A0_1 c0_1 l0_1 a0_2 a0_3 ok w hr0_0 hc0_0 hr0_1 hc0_1 h1
end Go.Proofs.YtejdpjmfnpbadaaGreatDoorQ.P
namespace Go.Proofs.YtejdpjmfnpbadaaGreatDoorQ.P
open Go.RowKit Go.Proofs.YtejdpjmfnpbadaaGreatDoorW.PrintWords Go.Proofs.YtejdpjmfnpbadaaGreatDoorW.PrintLast Go.Proofs.YtejdpjmfnpbadaaGreatDoorW.PrintMore
attribute [local go_sem] max2_int min2_int max_two min_two max_three min_three max_four min_four
def tick_Add.f (a0 : Int) (a1 : Int) : Option (Int × Int) := (tick_all.f (([a0, a1] : List Int))).bind fun t116 => (if t116 = true then (some (mn (wrap64 (a0 + a1)) 1099511627776, 0)) else (some (0, 1)))
set_option maxHeartbeats 8000000 in
set_option maxRecDepth 100000 in
theorem tick_Add.calls (a0 : Int) (a1 : Int) (r1 : Int) (r2 : Int) (w : World) (h : tick_Add.f a0 a1 = some (r1, r2)) :
  Calls Tryz.prog 25 #[.int .i64 a0, .int .i64 a1] w fun e w' => e = .returned (.tuple #[.int .i64 r1, .int .i64 r2]) ∧ Below w.heap.size w w' := by
 have HB := aA (Below.refl w.heap.size w)
 have H : ((tick_all.f (([a0, a1] : List Int))).bind fun t116 => (if t116 = true then (some (mn (wrap64 (a0 + a1)) 1099511627776, 0)) else (some (0, 1)))) = some (r1, r2) := h
 clear h
 obtain ⟨y113, hy113⟩ : ∃ y_ : List Int, y_ = (([a0, a1] : List Int)) := ⟨_, rfl⟩
 replace H : ((tick_all.f y113).bind fun t116 => (if t116 = true then (some (mn (wrap64 (a0 + a1)) 1099511627776, 0)) else (some (0, 1)))) = some (r1, r2) := by first | (rw [hy113]; with_reducible exact H) | (have H2_ := (Option.bind_some _ _).symm.trans H; rw [hy113]; with_reducible exact H2_) | (have H2_ := (Option.bind_some _ _).symm.trans H; with_reducible exact H2_) | with_reducible exact H | (rw [hy113]; exact H) | exact H
 have Ny113 := aA hy113
 clear hy113
 replace H := Option.bind_eq_some_iff.mp H
 obtain ⟨t116, A30, H⟩ := H
 replace H : (if t116 = true then (some (mn (wrap64 (a0 + a1)) 1099511627776, 0)) else (some (0, 1))) = some (r1, r2) := H
 have A3 := aA A30
 clear A30
 by_cases c4 : t116 = true
 ·subst c4
  have H1 : (some (mn (wrap64 (a0 + a1)) 1099511627776, 0)) = some (r1, r2) := by rw [if_pos rfl] at H; exact H
  clear H
  have H := H1
  clear H1
  obtain ⟨ji5, hji5⟩ : ∃ j_ : Int, (mn (wrap64 (a0 + a1)) 1099511627776) = j_ := ⟨_, rfl⟩
  replace H : (some (ji5, 0)) = some (r1, r2) := by first | (rw [hji5] at H; exact H) | (simp only [hji5] at H ⊢; exact H)
  (try rw [hji5] at A3)
  (try (have hji5h : ji5 ≤ 1099511627776 := by (rw [← hji5]; unfold mn; (repeat' split) <;> omega)))
  (try (have hji5g : ji5 ≤ 64 := by omega))
  have hji5_ : (if 1099511627776 < (wrap64 (a0 + a1)) then 1099511627776 else (wrap64 (a0 + a1))) = ji5 := hji5
  simp only [Option.some.injEq, Prod.mk.injEq] at H
  obtain ⟨rfl, rfl⟩ := H
  go_enter Tryz.func25, Tryz.ntmps25
  go_wp2_with (first | ((with_reducible refine gate_dst (N := 8) rfl ?_); refine Kd.R_lit (Kd.int .i64) _ 3 ?hg (N := 8) ?hd (xs := ([a0, a1] : List Int)) (inner := [.int .i64 a0, .int .i64 a1]) (ok := fun _ => True) (okp := fun _ => True) ?hr ?hp (fun _ hk => hk) trivial (Below.refl _ _) (Nat.le_refl _) (by simp) ?_; (case hd => rfl); (case hg => rfl); (case hr => first | (go_simp; done) | (go_simp; rfl)); (case hp => exact (Reps.one (show Kd.M (Kd.int .i64) _ _ _ a0 [.int .i64 a0] from rfl) (Reps.one (show Kd.M (Kd.int .i64) _ _ _ a1 [.int .i64 a1] from rfl) (Reps.none _ _)))); intro v114 w6 ho7 hb hg_ hnew_; clear hg_ hnew_; (first | rw [← Ny113.out] at ho7 | (simp only [Int.reduceToNat] at ho7; rw [← Ny113.out] at ho7)); have n0_ := aA (Kd.R_lower ho7 (below_size mB)); have n1_ := aA (below_step mB hb); clear HB; have HO115 := n0_; have HB := n1_; clear n0_ n1_ hb ho7; obtain ⟨Ao8, co8, eo8⟩ := Kd.R_slice HO115.out; subst eo8) | ((with_reducible refine gate_callee (f := 57) rfl ?_); refine goesL_ (some 9) rfl rfl Tryz.func57 (by kernel_rfl) rfl #[.slice Ao8 y113.length co8] rfl mS ?_; (with_reducible refine (tick_all.calls _ _ y113 true _ ?side1 ?side2 A3.out).mono ?_); (case side1 => exact mC ((Kd.R_reads' HO115.out).2.2)); (case side2 => exact (Kd.R_reads' HO115.out).2.1); rintro e w9 ⟨rfl, hb⟩; refine ⟨_, rfl, ?_⟩; have n0_ := aA (Kd.R_below (mR HO115.out) hb); have n1_ := aA (below_step mB hb); clear HO115 HB; have HO115 := n0_; have HB := n1_; clear n0_ n1_; (try clear hb); (try clear hb2); (try clear hk); (try clear hi)))
  go_ret2
  exact ⟨by first | rfl | (simp [errW_none, errW_some] <;> rfl) | (simp only [← hji5]; first | rfl | (simp [errW_none, errW_some] <;> rfl)) | (simp [*, errW_none, errW_some] <;> rfl), by repeat (first | (with_reducible first | exact HB.out | apply below_alloc | apply pw_below_drewN | apply below_drew1) | exact HB.out)⟩
 ·replace c4 := Bool.eq_false_iff.mpr c4
  subst c4
  have H1 : (some (0, 1)) = some (r1, r2) := by rw [if_neg (show ¬ (false = true) by decide)] at H; exact H
  clear H
  have H := H1
  clear H1
  simp only [Option.some.injEq, Prod.mk.injEq] at H
  obtain ⟨rfl, rfl⟩ := H
  go_enter Tryz.func25, Tryz.ntmps25
  go_wp2_with (first | ((with_reducible refine gate_dst (N := 8) rfl ?_); refine Kd.R_lit (Kd.int .i64) _ 3 ?hg (N := 8) ?hd (xs := ([a0, a1] : List Int)) (inner := [.int .i64 a0, .int .i64 a1]) (ok := fun _ => True) (okp := fun _ => True) ?hr ?hp (fun _ hk => hk) trivial (Below.refl _ _) (Nat.le_refl _) (by simp) ?_; (case hd => rfl); (case hg => rfl); (case hr => first | (go_simp; done) | (go_simp; rfl)); (case hp => exact (Reps.one (show Kd.M (Kd.int .i64) _ _ _ a0 [.int .i64 a0] from rfl) (Reps.one (show Kd.M (Kd.int .i64) _ _ _ a1 [.int .i64 a1] from rfl) (Reps.none _ _)))); intro v114 w10 ho11 hb hg_ hnew_; clear hg_ hnew_; (first | rw [← Ny113.out] at ho11 | (simp only [Int.reduceToNat] at ho11; rw [← Ny113.out] at ho11)); have n0_ := aA (Kd.R_lower ho11 (below_size mB)); have n1_ := aA (below_step mB hb); clear HB; have HO115 := n0_; have HB := n1_; clear n0_ n1_ hb ho11; obtain ⟨Ao12, co12, eo12⟩ := Kd.R_slice HO115.out; subst eo12) | ((with_reducible refine gate_callee (f := 57) rfl ?_); refine goesL_ (some 9) rfl rfl Tryz.func57 (by kernel_rfl) rfl #[.slice Ao12 y113.length co12] rfl mS ?_; (with_reducible refine (tick_all.calls _ _ y113 false _ ?side1 ?side2 A3.out).mono ?_); (case side1 => exact mC ((Kd.R_reads' HO115.out).2.2)); (case side2 => exact (Kd.R_reads' HO115.out).2.1); rintro e w13 ⟨rfl, hb⟩; refine ⟨_, rfl, ?_⟩; have n0_ := aA (Kd.R_below (mR HO115.out) hb); have n1_ := aA (below_step mB hb); clear HO115 HB; have HO115 := n0_; have HB := n1_; clear n0_ n1_; (try clear hb); (try clear hb2); (try clear hk); (try clear hi)))
  go_ret2
  exact ⟨by first | rfl | (simp [errW_none, errW_some] <;> rfl) | (simp [*, errW_none, errW_some] <;> rfl), by repeat (first | (with_reducible first | exact HB.out | apply below_alloc | apply pw_below_drewN | apply below_drew1) | exact HB.out)⟩
end Go.Proofs.YtejdpjmfnpbadaaGreatDoorQ.P
namespace Go.Proofs.YtejdpjmfnpbadaaGreatDoorQ.P
open Go.RowKit Go.Proofs.YtejdpjmfnpbadaaGreatDoorW.PrintWords Go.Proofs.YtejdpjmfnpbadaaGreatDoorW.PrintLast Go.Proofs.YtejdpjmfnpbadaaGreatDoorW.PrintMore
attribute [local go_sem] max2_int min2_int max_two min_two max_three min_three max_four min_four
def tick_Times.f (a0 : Int) (a1 : Int) : Option (Int × Int) := (tick_all.f (([a0, a1] : List Int))).bind fun t120 => (if t120 = true then (if a0 > 0 then (if a0 = 0 then (none) else (if a1 > (wrap64 ((1099511627776 : Int) / a0)) then (some (1099511627776, 0)) else (some (wrap64 (a0 * a1), 0)))) else (some (wrap64 (a0 * a1), 0))) else (some (0, 1)))
set_option maxHeartbeats 8000000 in
set_option maxRecDepth 100000 in
theorem tick_Times.calls (a0 : Int) (a1 : Int) (r1 : Int) (r2 : Int) (w : World) (h : tick_Times.f a0 a1 = some (r1, r2)) :
  Calls Tryz.prog 56 #[.int .i64 a0, .int .i64 a1] w fun e w' => e = .returned (.tuple #[.int .i64 r1, .int .i64 r2]) ∧ Below w.heap.size w w' := by
 have HB := aA (Below.refl w.heap.size w)
 have H : ((tick_all.f (([a0, a1] : List Int))).bind fun t120 => (if t120 = true then (if a0 > 0 then (if a0 = 0 then (none) else (if a1 > (wrap64 ((1099511627776 : Int) / a0)) then (some (1099511627776, 0)) else (some (wrap64 (a0 * a1), 0)))) else (some (wrap64 (a0 * a1), 0))) else (some (0, 1)))) = some (r1, r2) := h
 clear h
 obtain ⟨y117, hy117⟩ : ∃ y_ : List Int, y_ = (([a0, a1] : List Int)) := ⟨_, rfl⟩
 replace H : ((tick_all.f y117).bind fun t120 => (if t120 = true then (if a0 > 0 then (if a0 = 0 then (none) else (if a1 > (wrap64 ((1099511627776 : Int) / a0)) then (some (1099511627776, 0)) else (some (wrap64 (a0 * a1), 0)))) else (some (wrap64 (a0 * a1), 0))) else (some (0, 1)))) = some (r1, r2) := by first | (rw [hy117]; with_reducible exact H) | (have H2_ := (Option.bind_some _ _).symm.trans H; rw [hy117]; with_reducible exact H2_) | (have H2_ := (Option.bind_some _ _).symm.trans H; with_reducible exact H2_) | with_reducible exact H | (rw [hy117]; exact H) | exact H
 have Ny117 := aA hy117
 clear hy117
 replace H := Option.bind_eq_some_iff.mp H
 obtain ⟨t120, A30, H⟩ := H
 replace H : (if t120 = true then (if a0 > 0 then (if a0 = 0 then (none) else (if a1 > (wrap64 ((1099511627776 : Int) / a0)) then (some (1099511627776, 0)) else (some (wrap64 (a0 * a1), 0)))) else (some (wrap64 (a0 * a1), 0))) else (some (0, 1))) = some (r1, r2) := H
 have A3 := aA A30
 clear A30
 by_cases c4 : t120 = true
 ·subst c4
  have H1 : (if a0 > 0 then (if a0 = 0 then (none) else (if a1 > (wrap64 ((1099511627776 : Int) / a0)) then (some (1099511627776, 0)) else (some (wrap64 (a0 * a1), 0)))) else (some (wrap64 (a0 * a1), 0))) = some (r1, r2) := by rw [if_pos rfl] at H; exact H
  clear H
  have H := H1
  clear H1
  by_cases c5 : a0 > 0
  ·rw [if_pos c5] at H
   have c5b0 : decide (0 < a0) = true := decide_eq_true c5
   clear c5
   by_cases c6 : a0 = 0
   ·rw [if_pos c6] at H
    exact absurd H (by simp)
   ·rw [if_neg c6] at H
    have c6b0 : (a0 == 0) = false := beq_eq_false_iff_ne.mpr c6
    have c6b1 : (a0 != 0) = true := bne_iff_ne.mpr c6
    by_cases c7 : a1 > (wrap64 ((1099511627776 : Int) / a0))
    ·rw [if_pos c7] at H
     have c7b0 : decide ((wrap64 ((1099511627776 : Int) / a0)) < a1) = true := decide_eq_true c7
     have c7z : ¬ a1 ≤ wrap64 (Int.tdiv 1099511627776 a0) := by rw [Int.tdiv_eq_ediv_of_nonneg (by omega)]; exact Int.not_le.2 c7
     clear c7
     simp only [Option.some.injEq, Prod.mk.injEq] at H
     obtain ⟨rfl, rfl⟩ := H
     go_enter Tryz.func56, Tryz.ntmps56
     go_wp2_with (first | ((with_reducible refine gate_dst (N := 9) rfl ?_); refine Kd.R_lit (Kd.int .i64) _ 3 ?hg (N := 9) ?hd (xs := ([a0, a1] : List Int)) (inner := [.int .i64 a0, .int .i64 a1]) (ok := fun _ => True) (okp := fun _ => True) ?hr ?hp (fun _ hk => hk) trivial (Below.refl _ _) (Nat.le_refl _) (by simp) ?_; (case hd => rfl); (case hg => rfl); (case hr => first | (go_simp; done) | (go_simp; rfl)); (case hp => exact (Reps.one (show Kd.M (Kd.int .i64) _ _ _ a0 [.int .i64 a0] from rfl) (Reps.one (show Kd.M (Kd.int .i64) _ _ _ a1 [.int .i64 a1] from rfl) (Reps.none _ _)))); intro v118 w8 ho9 hb hg_ hnew_; clear hg_ hnew_; (first | rw [← Ny117.out] at ho9 | (simp only [Int.reduceToNat] at ho9; rw [← Ny117.out] at ho9)); have n0_ := aA (Kd.R_lower ho9 (below_size mB)); have n1_ := aA (below_step mB hb); clear HB; have HO119 := n0_; have HB := n1_; clear n0_ n1_ hb ho9; obtain ⟨Ao10, co10, eo10⟩ := Kd.R_slice HO119.out; subst eo10) | ((with_reducible refine gate_callee (f := 57) rfl ?_); refine goesL_ (some 10) rfl rfl Tryz.func57 (by kernel_rfl) rfl #[.slice Ao10 y117.length co10] rfl mS ?_; (with_reducible refine (tick_all.calls _ _ y117 true _ ?side1 ?side2 A3.out).mono ?_); (case side1 => exact mC ((Kd.R_reads' HO119.out).2.2)); (case side2 => exact (Kd.R_reads' HO119.out).2.1); rintro e w11 ⟨rfl, hb⟩; refine ⟨_, rfl, ?_⟩; have n0_ := aA (Kd.R_below (mR HO119.out) hb); have n1_ := aA (below_step mB hb); clear HO119 HB; have HO119 := n0_; have HB := n1_; clear n0_ n1_; (try clear hb); (try clear hb2); (try clear hk); (try clear hi)))
     go_ret2
     exact ⟨by first | rfl | (simp [errW_none, errW_some] <;> rfl) | (simp [*, errW_none, errW_some] <;> rfl), by repeat (first | (with_reducible first | exact HB.out | apply below_alloc | apply pw_below_drewN | apply below_drew1) | exact HB.out)⟩
    ·rw [if_neg c7] at H
     have c7b0 : decide ((wrap64 ((1099511627776 : Int) / a0)) < a1) = false := decide_eq_false c7
     have c7z : a1 ≤ wrap64 (Int.tdiv 1099511627776 a0) := by rw [Int.tdiv_eq_ediv_of_nonneg (by omega)]; exact Int.not_lt.1 c7
     clear c7
     simp only [Option.some.injEq, Prod.mk.injEq] at H
     obtain ⟨rfl, rfl⟩ := H
     go_enter Tryz.func56, Tryz.ntmps56
     go_wp2_with (first | ((with_reducible refine gate_dst (N := 9) rfl ?_); refine Kd.R_lit (Kd.int .i64) _ 3 ?hg (N := 9) ?hd (xs := ([a0, a1] : List Int)) (inner := [.int .i64 a0, .int .i64 a1]) (ok := fun _ => True) (okp := fun _ => True) ?hr ?hp (fun _ hk => hk) trivial (Below.refl _ _) (Nat.le_refl _) (by simp) ?_; (case hd => rfl); (case hg => rfl); (case hr => first | (go_simp; done) | (go_simp; rfl)); (case hp => exact (Reps.one (show Kd.M (Kd.int .i64) _ _ _ a0 [.int .i64 a0] from rfl) (Reps.one (show Kd.M (Kd.int .i64) _ _ _ a1 [.int .i64 a1] from rfl) (Reps.none _ _)))); intro v118 w12 ho13 hb hg_ hnew_; clear hg_ hnew_; (first | rw [← Ny117.out] at ho13 | (simp only [Int.reduceToNat] at ho13; rw [← Ny117.out] at ho13)); have n0_ := aA (Kd.R_lower ho13 (below_size mB)); have n1_ := aA (below_step mB hb); clear HB; have HO119 := n0_; have HB := n1_; clear n0_ n1_ hb ho13; obtain ⟨Ao14, co14, eo14⟩ := Kd.R_slice HO119.out; subst eo14) | ((with_reducible refine gate_callee (f := 57) rfl ?_); refine goesL_ (some 10) rfl rfl Tryz.func57 (by kernel_rfl) rfl #[.slice Ao14 y117.length co14] rfl mS ?_; (with_reducible refine (tick_all.calls _ _ y117 true _ ?side1 ?side2 A3.out).mono ?_); (case side1 => exact mC ((Kd.R_reads' HO119.out).2.2)); (case side2 => exact (Kd.R_reads' HO119.out).2.1); rintro e w15 ⟨rfl, hb⟩; refine ⟨_, rfl, ?_⟩; have n0_ := aA (Kd.R_below (mR HO119.out) hb); have n1_ := aA (below_step mB hb); clear HO119 HB; have HO119 := n0_; have HB := n1_; clear n0_ n1_; (try clear hb); (try clear hb2); (try clear hk); (try clear hi)))
     go_ret2
     exact ⟨by first | rfl | (simp [errW_none, errW_some] <;> rfl) | (simp [*, errW_none, errW_some] <;> rfl), by repeat (first | (with_reducible first | exact HB.out | apply below_alloc | apply pw_below_drewN | apply below_drew1) | exact HB.out)⟩
  ·rw [if_neg c5] at H
   have c5b0 : decide (0 < a0) = false := decide_eq_false c5
   clear c5
   simp only [Option.some.injEq, Prod.mk.injEq] at H
   obtain ⟨rfl, rfl⟩ := H
   go_enter Tryz.func56, Tryz.ntmps56
   go_wp2_with (first | ((with_reducible refine gate_dst (N := 9) rfl ?_); refine Kd.R_lit (Kd.int .i64) _ 3 ?hg (N := 9) ?hd (xs := ([a0, a1] : List Int)) (inner := [.int .i64 a0, .int .i64 a1]) (ok := fun _ => True) (okp := fun _ => True) ?hr ?hp (fun _ hk => hk) trivial (Below.refl _ _) (Nat.le_refl _) (by simp) ?_; (case hd => rfl); (case hg => rfl); (case hr => first | (go_simp; done) | (go_simp; rfl)); (case hp => exact (Reps.one (show Kd.M (Kd.int .i64) _ _ _ a0 [.int .i64 a0] from rfl) (Reps.one (show Kd.M (Kd.int .i64) _ _ _ a1 [.int .i64 a1] from rfl) (Reps.none _ _)))); intro v118 w16 ho17 hb hg_ hnew_; clear hg_ hnew_; (first | rw [← Ny117.out] at ho17 | (simp only [Int.reduceToNat] at ho17; rw [← Ny117.out] at ho17)); have n0_ := aA (Kd.R_lower ho17 (below_size mB)); have n1_ := aA (below_step mB hb); clear HB; have HO119 := n0_; have HB := n1_; clear n0_ n1_ hb ho17; obtain ⟨Ao18, co18, eo18⟩ := Kd.R_slice HO119.out; subst eo18) | ((with_reducible refine gate_callee (f := 57) rfl ?_); refine goesL_ (some 10) rfl rfl Tryz.func57 (by kernel_rfl) rfl #[.slice Ao18 y117.length co18] rfl mS ?_; (with_reducible refine (tick_all.calls _ _ y117 true _ ?side1 ?side2 A3.out).mono ?_); (case side1 => exact mC ((Kd.R_reads' HO119.out).2.2)); (case side2 => exact (Kd.R_reads' HO119.out).2.1); rintro e w19 ⟨rfl, hb⟩; refine ⟨_, rfl, ?_⟩; have n0_ := aA (Kd.R_below (mR HO119.out) hb); have n1_ := aA (below_step mB hb); clear HO119 HB; have HO119 := n0_; have HB := n1_; clear n0_ n1_; (try clear hb); (try clear hb2); (try clear hk); (try clear hi)))
   go_ret2
   exact ⟨by first | rfl | (simp [errW_none, errW_some] <;> rfl) | (simp [*, errW_none, errW_some] <;> rfl), by repeat (first | (with_reducible first | exact HB.out | apply below_alloc | apply pw_below_drewN | apply below_drew1) | exact HB.out)⟩
 ·replace c4 := Bool.eq_false_iff.mpr c4
  subst c4
  have H1 : (some (0, 1)) = some (r1, r2) := by rw [if_neg (show ¬ (false = true) by decide)] at H; exact H
  clear H
  have H := H1
  clear H1
  simp only [Option.some.injEq, Prod.mk.injEq] at H
  obtain ⟨rfl, rfl⟩ := H
  go_enter Tryz.func56, Tryz.ntmps56
  go_wp2_with (first | ((with_reducible refine gate_dst (N := 9) rfl ?_); refine Kd.R_lit (Kd.int .i64) _ 3 ?hg (N := 9) ?hd (xs := ([a0, a1] : List Int)) (inner := [.int .i64 a0, .int .i64 a1]) (ok := fun _ => True) (okp := fun _ => True) ?hr ?hp (fun _ hk => hk) trivial (Below.refl _ _) (Nat.le_refl _) (by simp) ?_; (case hd => rfl); (case hg => rfl); (case hr => first | (go_simp; done) | (go_simp; rfl)); (case hp => exact (Reps.one (show Kd.M (Kd.int .i64) _ _ _ a0 [.int .i64 a0] from rfl) (Reps.one (show Kd.M (Kd.int .i64) _ _ _ a1 [.int .i64 a1] from rfl) (Reps.none _ _)))); intro v118 w20 ho21 hb hg_ hnew_; clear hg_ hnew_; (first | rw [← Ny117.out] at ho21 | (simp only [Int.reduceToNat] at ho21; rw [← Ny117.out] at ho21)); have n0_ := aA (Kd.R_lower ho21 (below_size mB)); have n1_ := aA (below_step mB hb); clear HB; have HO119 := n0_; have HB := n1_; clear n0_ n1_ hb ho21; obtain ⟨Ao22, co22, eo22⟩ := Kd.R_slice HO119.out; subst eo22) | ((with_reducible refine gate_callee (f := 57) rfl ?_); refine goesL_ (some 10) rfl rfl Tryz.func57 (by kernel_rfl) rfl #[.slice Ao22 y117.length co22] rfl mS ?_; (with_reducible refine (tick_all.calls _ _ y117 false _ ?side1 ?side2 A3.out).mono ?_); (case side1 => exact mC ((Kd.R_reads' HO119.out).2.2)); (case side2 => exact (Kd.R_reads' HO119.out).2.1); rintro e w23 ⟨rfl, hb⟩; refine ⟨_, rfl, ?_⟩; have n0_ := aA (Kd.R_below (mR HO119.out) hb); have n1_ := aA (below_step mB hb); clear HO119 HB; have HO119 := n0_; have HB := n1_; clear n0_ n1_; (try clear hb); (try clear hb2); (try clear hk); (try clear hi)))
  go_ret2
  exact ⟨by first | rfl | (simp [errW_none, errW_some] <;> rfl) | (simp [*, errW_none, errW_some] <;> rfl), by repeat (first | (with_reducible first | exact HB.out | apply below_alloc | apply pw_below_drewN | apply below_drew1) | exact HB.out)⟩
end Go.Proofs.YtejdpjmfnpbadaaGreatDoorQ.P
namespace Go.Proofs.YtejdpjmfnpbadaaGreatDoorQ.P
open Go.RowKit Go.Proofs.YtejdpjmfnpbadaaGreatDoorW.PrintWords Go.Proofs.YtejdpjmfnpbadaaGreatDoorW.PrintLast Go.Proofs.YtejdpjmfnpbadaaGreatDoorW.PrintMore
attribute [local go_sem] max2_int min2_int max_two min_two max_three min_three max_four min_four
def bound_after.f (a0 : Int) (a1 : Int) : Option (Int × Int) := (tick_Times.f (mn a0 1099511627776) a1).bind fun bt121 => ((tick_Add.f 1 bt121.1).bind fun bt123 => (some (bt123.1, bt123.2)))
set_option maxHeartbeats 8000000 in
set_option maxRecDepth 100000 in
theorem bound_after.calls (a0 : Int) (a1 : Int) (r1 : Int) (r2 : Int) (w : World) (h : bound_after.f a0 a1 = some (r1, r2)) :
  Calls Tryz.prog 24 #[.int .i64 a0, .int .i64 a1] w fun e w' => e = .returned (.tuple #[.int .i64 r1, .int .i64 r2]) ∧ Below w.heap.size w w' := by
 have HB := aA (Below.refl w.heap.size w)
 have H : ((tick_Times.f (mn a0 1099511627776) a1).bind fun bt121 => ((tick_Add.f 1 bt121.1).bind fun bt123 => (some (bt123.1, bt123.2)))) = some (r1, r2) := h
 clear h
 obtain ⟨ji3, hji3⟩ : ∃ j_ : Int, (mn a0 1099511627776) = j_ := ⟨_, rfl⟩
 replace H : ((tick_Times.f (ji3) a1).bind fun bt121 => ((tick_Add.f 1 bt121.1).bind fun bt123 => (some (bt123.1, bt123.2)))) = some (r1, r2) := by first | (rw [hji3] at H; exact H) | (simp only [hji3] at H ⊢; exact H)
 (try (have hji3h : ji3 ≤ 1099511627776 := by (rw [← hji3]; unfold mn; (repeat' split) <;> omega)))
 (try (have hji3g : ji3 ≤ 64 := by omega))
 have hji3_ : (if 1099511627776 < a0 then 1099511627776 else a0) = ji3 := hji3
 replace H := Option.bind_eq_some_iff.mp H
 obtain ⟨⟨t121, t122⟩, A40, H⟩ := H
 replace H : ((tick_Add.f 1 t121).bind fun bt123 => (some (bt123.1, bt123.2))) = some (r1, r2) := H
 have A4 := aA A40
 clear A40
 replace H := Option.bind_eq_some_iff.mp H
 obtain ⟨⟨t123, t124⟩, A50, H⟩ := H
 replace H : (some (t123, t124)) = some (r1, r2) := H
 have A5 := aA A50
 clear A50
 simp only [Option.some.injEq, Prod.mk.injEq] at H
 obtain ⟨rfl, rfl⟩ := H
 go_enter Tryz.func24, Tryz.ntmps24
 go_wp2_with (first | ((with_reducible refine gate_callee (f := 56) rfl ?_); refine goesL_ (some 12) rfl rfl Tryz.func56 (by kernel_rfl) rfl #[.int .i64 ji3, .int .i64 a1] rfl (by (try simp only [List.map_toArray, List.map_cons, List.map_nil]); first | done | (simp only [hji3]; rfl) | rfl | (simp only [List.length_drop, List.length_take]; rfl)) ?_; (with_reducible refine (tick_Times.calls ji3 a1 t121 t122 _ A4.out).mono ?_); rintro e w6 ⟨rfl, hb⟩; refine ⟨_, rfl, ?_⟩; have n0_ := aA (below_step mB hb); clear HB; have HB := n0_; clear n0_; (try clear hb); (try clear hb2); (try clear hk); (try clear hi)) | ((with_reducible refine gate_callee (f := 25) rfl ?_); refine goesL_ (some 16) rfl rfl Tryz.func25 (by kernel_rfl) rfl #[.int .i64 1, .int .i64 t121] rfl mS ?_; (with_reducible refine (tick_Add.calls 1 t121 t123 t124 _ A5.out).mono ?_); rintro e w7 ⟨rfl, hb⟩; refine ⟨_, rfl, ?_⟩; have n0_ := aA (below_step mB hb); clear HB; have HB := n0_; clear n0_; (try clear hb); (try clear hb2); (try clear hk); (try clear hi)))
 go_ret2
 exact ⟨by first | rfl | (simp [errW_none, errW_some] <;> rfl) | (simp only [← hji3]; first | rfl | (simp [errW_none, errW_some] <;> rfl)) | (simp [*, errW_none, errW_some] <;> rfl), by repeat (first | (with_reducible first | exact HB.out | apply below_alloc | apply pw_below_drewN | apply below_drew1) | exact HB.out)⟩
end Go.Proofs.YtejdpjmfnpbadaaGreatDoorQ.P
namespace Go.Proofs.YtejdpjmfnpbadaaGreatDoorQ.P
open Go.RowKit Go.Proofs.YtejdpjmfnpbadaaGreatDoorW.PrintWords Go.Proofs.YtejdpjmfnpbadaaGreatDoorW.PrintLast Go.Proofs.YtejdpjmfnpbadaaGreatDoorW.PrintMore
attribute [local go_sem] max2_int min2_int max_two min_two max_three min_three max_four min_four
def bound_Alone.f (l0_0 : List (S41)) (l0_1 : List (S46)) (a0_2 : Int) (a0_3 : Int) (a1 : Int) : Option (Int × Int) := (bound_Step.f l0_0 l0_1 a0_2 a0_3).bind fun bt126 => (if bt126.2 = 0 then (if a1 < 1 then (some (0, 3)) else ((bound_after.f (wrap64 (a1 - 1)) bt126.1).bind fun bt128 => (some (bt128.1, bt128.2)))) else (some (0, bt126.2)))
set_option maxHeartbeats 8000000 in
set_option maxRecDepth 100000 in
theorem bound_Alone.calls (A0_0 : Option Addr) (c0_0 : Nat) (l0_0 : List (S41)) (A0_1 : Option Addr) (c0_1 : Nat) (l0_1 : List (S46)) (a0_2 : Int) (a0_3 : Int) (a1 : Int) (r1 : Int) (r2 : Int) (w : World) (hr0_0 : Kd.C k41 w A0_0 l0_0.length l0_0) (hc0_0 : l0_0.length ≤ c0_0) (hr0_1 : Kd.C k46 w A0_1 l0_1.length l0_1) (hc0_1 : l0_1.length ≤ c0_1) (h : bound_Alone.f l0_0 l0_1 a0_2 a0_3 a1 = some (r1, r2)) :
  Calls Tryz.prog 8 #[.agg #[.slice A0_0 l0_0.length c0_0, .slice A0_1 l0_1.length c0_1, .int .i64 a0_2, .int .i64 a0_3], .int .i64 a1] w fun e w' => e = .returned (.tuple #[.int .i64 r1, .int .i64 r2]) ∧ Below w.heap.size w w' := by
 have hu25 := Tryz.underlying25
 have HR0_0 := aA hr0_0
 have HC0_0 := aA hc0_0
 clear hr0_0 hc0_0
 have HR0_1 := aA hr0_1
 have HC0_1 := aA hc0_1
 clear hr0_1 hc0_1
 have HB := aA (Below.refl w.heap.size w)
 have H : ((bound_Step.f l0_0 l0_1 a0_2 a0_3).bind fun bt126 => (if bt126.2 = 0 then (if a1 < 1 then (some (0, 3)) else ((bound_after.f (wrap64 (a1 - 1)) bt126.1).bind fun bt128 => (some (bt128.1, bt128.2)))) else (some (0, bt126.2)))) = some (r1, r2) := h
 clear h
 replace H := Option.bind_eq_some_iff.mp H
 obtain ⟨⟨t126, t127⟩, A30, H⟩ := H
 replace H : (if t127 = 0 then (if a1 < 1 then (some (0, 3)) else ((bound_after.f (wrap64 (a1 - 1)) t126).bind fun bt128 => (some (bt128.1, bt128.2)))) else (some (0, t127))) = some (r1, r2) := H
 have A3 := aA A30
 clear A30
 by_cases c4 : t127 = 0
 ·rw [if_pos c4] at H
  have c4b0 : (t127 == 0) = true := beq_iff_eq.mpr c4
  have c4b1 : (t127 != 0) = false := bne_eq_false_iff_eq.mpr c4
  clear c4
  by_cases c5 : a1 < 1
  ·rw [if_pos c5] at H
   have c5b0 : decide (a1 < 1) = true := decide_eq_true c5
   clear c5
   simp only [Option.some.injEq, Prod.mk.injEq] at H
   obtain ⟨rfl, rfl⟩ := H
   go_enter Tryz.func8, Tryz.ntmps8
   go_wp2_with (first | ((with_reducible refine gate_dst (N := 2) rfl ?_); refine box_event ?hg (N := 2) ?hd (cs := #[.slice A0_0 l0_0.length c0_0, .slice A0_1 l0_1.length c0_1, .int .i64 a0_2, .int .i64 a0_3]) (t := 25) ?hr ?_; (case hd => rfl); (case hg => rfl); (case hr => first | (go_simp; done) | (go_simp; rfl)); intro gb125 hg w6 hbox hb; have n0_ := aA (below_step mB hb); have n1_ := aA (hbox); have n2_ := aA ((bZ hg mB)); have n3_ := aA ((bZ hg mB)); clear HB; have HB := n0_; have BK125 := n1_; have GW125 := n2_; have GE125 := n3_; clear n0_ n1_ n2_ n3_ hb hbox hg; obtain ⟨hcz7_0, hcz7_1, hcz7_2, hcz7_3⟩ := bC4 BK125.out; obtain ⟨hfz7_0, hfz7_1, hfz7_2, hfz7_3⟩ := bF4 BK125.out) | ((with_reducible refine gate_callee (f := 7) rfl ?_); refine goesL_ (some 10) rfl rfl Tryz.func7 (by kernel_rfl) rfl #[.agg #[.slice A0_0 l0_0.length c0_0, .slice A0_1 l0_1.length c0_1, .int .i64 a0_2, .int .i64 a0_3]] rfl mS ?_; (with_reducible refine (bound_Step.calls _ _ l0_0 _ _ l0_1 a0_2 a0_3 t126 t127 _ ?side1 ?side2 ?side3 ?side4 A3.out).mono ?_); (case side1 => exact mC ((Kd.C_below HR0_0.out HB.out))); (case side2 => exact HC0_0.out); (case side3 => exact mC ((Kd.C_below HR0_1.out HB.out))); (case side4 => exact HC0_1.out); rintro e w8 ⟨rfl, hb⟩; refine ⟨_, rfl, ?_⟩; have n0_ := aA (bB BK125.out hb); have n1_ := aA (below_step (mD1 GE125.out) hb); clear BK125 HB; have BK125 := n0_; have HB := n1_; clear n0_ n1_; (try clear hb); (try clear hb2); (try clear hk); (try clear hi)))
   go_ret2
   exact ⟨by first | rfl | (simp [errW_none, errW_some] <;> rfl) | (simp [*, errW_none, errW_some] <;> rfl), by repeat (first | (with_reducible first | exact HB.out | apply below_alloc | apply pw_below_drewN | apply below_drew1 | refine below_set ?_ GE125.out) | exact HB.out)⟩
  ·rw [if_neg c5] at H
   have c5b0 : decide (a1 < 1) = false := decide_eq_false c5
   clear c5
   replace H := Option.bind_eq_some_iff.mp H
   obtain ⟨⟨t128, t129⟩, A90, H⟩ := H
   replace H : (some (t128, t129)) = some (r1, r2) := H
   have A9 := aA A90
   clear A90
   simp only [Option.some.injEq, Prod.mk.injEq] at H
   obtain ⟨rfl, rfl⟩ := H
   go_enter Tryz.func8, Tryz.ntmps8
   go_wp2_with (first | ((with_reducible refine gate_dst (N := 2) rfl ?_); refine box_event ?hg (N := 2) ?hd (cs := #[.slice A0_0 l0_0.length c0_0, .slice A0_1 l0_1.length c0_1, .int .i64 a0_2, .int .i64 a0_3]) (t := 25) ?hr ?_; (case hd => rfl); (case hg => rfl); (case hr => first | (go_simp; done) | (go_simp; rfl)); intro gb125 hg w10 hbox hb; have n0_ := aA (below_step mB hb); have n1_ := aA (hbox); have n2_ := aA ((bZ hg mB)); have n3_ := aA ((bZ hg mB)); clear HB; have HB := n0_; have BK125 := n1_; have GW125 := n2_; have GE125 := n3_; clear n0_ n1_ n2_ n3_ hb hbox hg; obtain ⟨hcz11_0, hcz11_1, hcz11_2, hcz11_3⟩ := bC4 BK125.out; obtain ⟨hfz11_0, hfz11_1, hfz11_2, hfz11_3⟩ := bF4 BK125.out) | ((with_reducible refine gate_callee (f := 7) rfl ?_); refine goesL_ (some 10) rfl rfl Tryz.func7 (by kernel_rfl) rfl #[.agg #[.slice A0_0 l0_0.length c0_0, .slice A0_1 l0_1.length c0_1, .int .i64 a0_2, .int .i64 a0_3]] rfl mS ?_; (with_reducible refine (bound_Step.calls _ _ l0_0 _ _ l0_1 a0_2 a0_3 t126 t127 _ ?side1 ?side2 ?side3 ?side4 A3.out).mono ?_); (case side1 => exact mC ((Kd.C_below HR0_0.out HB.out))); (case side2 => exact HC0_0.out); (case side3 => exact mC ((Kd.C_below HR0_1.out HB.out))); (case side4 => exact HC0_1.out); rintro e w12 ⟨rfl, hb⟩; refine ⟨_, rfl, ?_⟩; have n0_ := aA (bB BK125.out hb); have n1_ := aA (below_step (mD1 GE125.out) hb); clear BK125 HB; have BK125 := n0_; have HB := n1_; clear n0_ n1_; (try clear hb); (try clear hb2); (try clear hk); (try clear hi)) | ((with_reducible refine gate_callee (f := 24) rfl ?_); refine goesL_ (some 23) rfl rfl Tryz.func24 (by kernel_rfl) rfl #[.int .i64 (wrap64 (a1 - 1)), .int .i64 t126] rfl mS ?_; (with_reducible refine (bound_after.calls (wrap64 (a1 - 1)) t126 t128 t129 _ A9.out).mono ?_); rintro e w13 ⟨rfl, hb⟩; refine ⟨_, rfl, ?_⟩; have n0_ := aA (bB BK125.out hb); have n1_ := aA (below_step (mD1 GE125.out) hb); clear BK125 HB; have BK125 := n0_; have HB := n1_; clear n0_ n1_; (try clear hb); (try clear hb2); (try clear hk); (try clear hi)))
   go_ret2
   exact ⟨by first | rfl | (simp [errW_none, errW_some] <;> rfl) | (simp [*, errW_none, errW_some] <;> rfl), by repeat (first | (with_reducible first | exact HB.out | apply below_alloc | apply pw_below_drewN | apply below_drew1 | refine below_set ?_ GE125.out) | exact HB.out)⟩
 ·rw [if_neg c4] at H
  have c4b0 : (t127 == 0) = false := beq_eq_false_iff_ne.mpr c4
  have c4b1 : (t127 != 0) = true := bne_iff_ne.mpr c4
  simp only [Option.some.injEq, Prod.mk.injEq] at H
  obtain ⟨rfl, rfl⟩ := H
  go_enter Tryz.func8, Tryz.ntmps8
  go_wp2_with (first | ((with_reducible refine gate_dst (N := 2) rfl ?_); refine box_event ?hg (N := 2) ?hd (cs := #[.slice A0_0 l0_0.length c0_0, .slice A0_1 l0_1.length c0_1, .int .i64 a0_2, .int .i64 a0_3]) (t := 25) ?hr ?_; (case hd => rfl); (case hg => rfl); (case hr => first | (go_simp; done) | (go_simp; rfl)); intro gb125 hg w14 hbox hb; have n0_ := aA (below_step mB hb); have n1_ := aA (hbox); have n2_ := aA ((bZ hg mB)); have n3_ := aA ((bZ hg mB)); clear HB; have HB := n0_; have BK125 := n1_; have GW125 := n2_; have GE125 := n3_; clear n0_ n1_ n2_ n3_ hb hbox hg; obtain ⟨hcz15_0, hcz15_1, hcz15_2, hcz15_3⟩ := bC4 BK125.out; obtain ⟨hfz15_0, hfz15_1, hfz15_2, hfz15_3⟩ := bF4 BK125.out) | ((with_reducible refine gate_callee (f := 7) rfl ?_); refine goesL_ (some 10) rfl rfl Tryz.func7 (by kernel_rfl) rfl #[.agg #[.slice A0_0 l0_0.length c0_0, .slice A0_1 l0_1.length c0_1, .int .i64 a0_2, .int .i64 a0_3]] rfl mS ?_; (with_reducible refine (bound_Step.calls _ _ l0_0 _ _ l0_1 a0_2 a0_3 t126 t127 _ ?side1 ?side2 ?side3 ?side4 A3.out).mono ?_); (case side1 => exact mC ((Kd.C_below HR0_0.out HB.out))); (case side2 => exact HC0_0.out); (case side3 => exact mC ((Kd.C_below HR0_1.out HB.out))); (case side4 => exact HC0_1.out); rintro e w16 ⟨rfl, hb⟩; refine ⟨_, rfl, ?_⟩; have n0_ := aA (bB BK125.out hb); have n1_ := aA (below_step (mD1 GE125.out) hb); clear BK125 HB; have BK125 := n0_; have HB := n1_; clear n0_ n1_; (try clear hb); (try clear hb2); (try clear hk); (try clear hi)))
  go_ret2
  exact ⟨by first | rfl | (simp [errW_none, errW_some] <;> rfl) | (simp [*, errW_none, errW_some] <;> rfl), by repeat (first | (with_reducible first | exact HB.out | apply below_alloc | apply pw_below_drewN | apply below_drew1 | refine below_set ?_ GE125.out) | exact HB.out)⟩
end Go.Proofs.YtejdpjmfnpbadaaGreatDoorQ.P
namespace Go.Proofs.YtejdpjmfnpbadaaGreatDoorQ.P
open Go.RowKit Go.Proofs.YtejdpjmfnpbadaaGreatDoorW.PrintWords Go.Proofs.YtejdpjmfnpbadaaGreatDoorW.PrintLast Go.Proofs.YtejdpjmfnpbadaaGreatDoorW.PrintMore
attribute [local go_sem] max2_int min2_int max_two min_two max_three min_three max_four min_four
def bound_Many.f (l0_0 : List (S41)) (l0_1 : List (S46)) (a0_2 : Int) (a0_3 : Int) (a1 : Int) (a2 : Int) : Option (Int × Int) := (config_Right.f l0_0 l0_1 a0_2 a0_3).bind fun t131 => (if t131 = true then (if a1 < 0 then (some (0, 3)) else (if a1 ≥ (l0_0.length : Int) then (some (0, 3)) else (if a2 < 1 then (some (0, 3)) else (if 0 ≤ a1 then (if a1 < (l0_0.length : Int) then ((bound_after.f (wrap64 (a2 - 1)) ((rd_T41 l0_0 a1).f6)).bind fun bt133 => (some (bt133.1, bt133.2))) else (none)) else (none))))) else (some (0, 1)))
set_option maxHeartbeats 8000000 in
set_option maxRecDepth 100000 in
theorem bound_Many.calls (A0_0 : Option Addr) (c0_0 : Nat) (l0_0 : List (S41)) (A0_1 : Option Addr) (c0_1 : Nat) (l0_1 : List (S46)) (a0_2 : Int) (a0_3 : Int) (a1 : Int) (a2 : Int) (r1 : Int) (r2 : Int) (w : World) (hr0_0 : Kd.C k41 w A0_0 l0_0.length l0_0) (hc0_0 : l0_0.length ≤ c0_0) (hr0_1 : Kd.C k46 w A0_1 l0_1.length l0_1) (hc0_1 : l0_1.length ≤ c0_1) (h : bound_Many.f l0_0 l0_1 a0_2 a0_3 a1 a2 = some (r1, r2)) :
  Calls Tryz.prog 9 #[.agg #[.slice A0_0 l0_0.length c0_0, .slice A0_1 l0_1.length c0_1, .int .i64 a0_2, .int .i64 a0_3], .int .i64 a1, .int .i64 a2] w fun e w' => e = .returned (.tuple #[.int .i64 r1, .int .i64 r2]) ∧ Below w.heap.size w w' := by
 have hu25 := Tryz.underlying25
 have HR0_0 := aA hr0_0
 have HC0_0 := aA hc0_0
 clear hr0_0 hc0_0
 have HR0_1 := aA hr0_1
 have HC0_1 := aA hc0_1
 clear hr0_1 hc0_1
 have HB := aA (Below.refl w.heap.size w)
 have H : ((config_Right.f l0_0 l0_1 a0_2 a0_3).bind fun t131 => (if t131 = true then (if a1 < 0 then (some (0, 3)) else (if a1 ≥ (l0_0.length : Int) then (some (0, 3)) else (if a2 < 1 then (some (0, 3)) else (if 0 ≤ a1 then (if a1 < (l0_0.length : Int) then ((bound_after.f (wrap64 (a2 - 1)) ((rd_T41 l0_0 a1).f6)).bind fun bt133 => (some (bt133.1, bt133.2))) else (none)) else (none))))) else (some (0, 1)))) = some (r1, r2) := h
 clear h
 replace H := Option.bind_eq_some_iff.mp H
 obtain ⟨t131, A40, H⟩ := H
 replace H : (if t131 = true then (if a1 < 0 then (some (0, 3)) else (if a1 ≥ (l0_0.length : Int) then (some (0, 3)) else (if a2 < 1 then (some (0, 3)) else (if 0 ≤ a1 then (if a1 < (l0_0.length : Int) then ((bound_after.f (wrap64 (a2 - 1)) ((rd_T41 l0_0 a1).f6)).bind fun bt133 => (some (bt133.1, bt133.2))) else (none)) else (none))))) else (some (0, 1))) = some (r1, r2) := H
 have A4 := aA A40
 clear A40
 by_cases c5 : t131 = true
 ·subst c5
  have H1 : (if a1 < 0 then (some (0, 3)) else (if a1 ≥ (l0_0.length : Int) then (some (0, 3)) else (if a2 < 1 then (some (0, 3)) else (if 0 ≤ a1 then (if a1 < (l0_0.length : Int) then ((bound_after.f (wrap64 (a2 - 1)) ((rd_T41 l0_0 a1).f6)).bind fun bt133 => (some (bt133.1, bt133.2))) else (none)) else (none))))) = some (r1, r2) := by rw [if_pos rfl] at H; exact H
  clear H
  have H := H1
  clear H1
  by_cases c6 : a1 < 0
  ·rw [if_pos c6] at H
   have c6b0 : decide (a1 < 0) = true := decide_eq_true c6
   clear c6
   simp only [Option.some.injEq, Prod.mk.injEq] at H
   obtain ⟨rfl, rfl⟩ := H
   go_enter Tryz.func9, Tryz.ntmps9
   go_wp2_with (first | ((with_reducible refine gate_dst (N := 3) rfl ?_); (try (refine gate_guard (by rfl) ?_; dsimp only)); refine box_event ?hg (N := 3) ?hd (cs := #[.slice A0_0 l0_0.length c0_0, .slice A0_1 l0_1.length c0_1, .int .i64 a0_2, .int .i64 a0_3]) (t := 25) ?hr ?_; (case hd => rfl); (case hg => rfl); (case hr => first | (go_simp; done) | (go_simp; rfl)); intro gb130 hg w7 hbox hb; have n0_ := aA (below_step mB hb); have n1_ := aA (hbox); have n2_ := aA ((bZ hg mB)); have n3_ := aA ((bZ hg mB)); clear HB; have HB := n0_; have BK130 := n1_; have GW130 := n2_; have GE130 := n3_; clear n0_ n1_ n2_ n3_ hb hbox hg; obtain ⟨hcz8_0, hcz8_1, hcz8_2, hcz8_3⟩ := bC4 BK130.out; obtain ⟨hfz8_0, hfz8_1, hfz8_2, hfz8_3⟩ := bF4 BK130.out) | ((with_reducible refine gate_callee (f := 20) rfl ?_); refine goesL_ (some 10) rfl rfl Tryz.func20 (by kernel_rfl) rfl #[.agg #[.slice A0_0 l0_0.length c0_0, .slice A0_1 l0_1.length c0_1, .int .i64 a0_2, .int .i64 a0_3]] rfl mS ?_; (with_reducible refine (config_Right.calls _ _ l0_0 _ _ l0_1 a0_2 a0_3 true _ ?side1 ?side2 ?side3 ?side4 A4.out).mono ?_); (case side1 => exact mC ((Kd.C_below HR0_0.out HB.out))); (case side2 => exact HC0_0.out); (case side3 => exact mC ((Kd.C_below HR0_1.out HB.out))); (case side4 => exact HC0_1.out); rintro e w9 ⟨rfl, hb⟩; refine ⟨_, rfl, ?_⟩; have n0_ := aA (bB BK130.out hb); have n1_ := aA (below_step (mD1 GE130.out) hb); clear BK130 HB; have BK130 := n0_; have HB := n1_; clear n0_ n1_; (try clear hb); (try clear hb2); (try clear hk); (try clear hi)))
   go_ret2
   exact ⟨by first | rfl | (simp [errW_none, errW_some] <;> rfl) | (simp [*, errW_none, errW_some] <;> rfl), by repeat (first | (with_reducible first | exact HB.out | apply below_alloc | apply pw_below_drewN | apply below_drew1 | refine below_set ?_ GE130.out) | exact HB.out)⟩
  ·rw [if_neg c6] at H
   have c6b0 : decide (a1 < 0) = false := decide_eq_false c6
   clear c6
   by_cases c10 : a1 ≥ (l0_0.length : Int)
   ·rw [if_pos c10] at H
    have c10b0 : decide ((l0_0.length : Int) ≤ a1) = true := decide_eq_true c10
    clear c10
    simp only [Option.some.injEq, Prod.mk.injEq] at H
    obtain ⟨rfl, rfl⟩ := H
    go_enter Tryz.func9, Tryz.ntmps9
    go_wp2_with (first | ((with_reducible refine gate_dst (N := 3) rfl ?_); (try (refine gate_guard (by rfl) ?_; dsimp only)); refine box_event ?hg (N := 3) ?hd (cs := #[.slice A0_0 l0_0.length c0_0, .slice A0_1 l0_1.length c0_1, .int .i64 a0_2, .int .i64 a0_3]) (t := 25) ?hr ?_; (case hd => rfl); (case hg => rfl); (case hr => first | (go_simp; done) | (go_simp; rfl)); intro gb130 hg w11 hbox hb; have n0_ := aA (below_step mB hb); have n1_ := aA (hbox); have n2_ := aA ((bZ hg mB)); have n3_ := aA ((bZ hg mB)); clear HB; have HB := n0_; have BK130 := n1_; have GW130 := n2_; have GE130 := n3_; clear n0_ n1_ n2_ n3_ hb hbox hg; obtain ⟨hcz12_0, hcz12_1, hcz12_2, hcz12_3⟩ := bC4 BK130.out; obtain ⟨hfz12_0, hfz12_1, hfz12_2, hfz12_3⟩ := bF4 BK130.out) | ((with_reducible refine gate_callee (f := 20) rfl ?_); refine goesL_ (some 10) rfl rfl Tryz.func20 (by kernel_rfl) rfl #[.agg #[.slice A0_0 l0_0.length c0_0, .slice A0_1 l0_1.length c0_1, .int .i64 a0_2, .int .i64 a0_3]] rfl mS ?_; (with_reducible refine (config_Right.calls _ _ l0_0 _ _ l0_1 a0_2 a0_3 true _ ?side1 ?side2 ?side3 ?side4 A4.out).mono ?_); (case side1 => exact mC ((Kd.C_below HR0_0.out HB.out))); (case side2 => exact HC0_0.out); (case side3 => exact mC ((Kd.C_below HR0_1.out HB.out))); (case side4 => exact HC0_1.out); rintro e w13 ⟨rfl, hb⟩; refine ⟨_, rfl, ?_⟩; have n0_ := aA (bB BK130.out hb); have n1_ := aA (below_step (mD1 GE130.out) hb); clear BK130 HB; have BK130 := n0_; have HB := n1_; clear n0_ n1_; (try clear hb); (try clear hb2); (try clear hk); (try clear hi); obtain ⟨hcz14_0, hcz14_1, hcz14_2, hcz14_3⟩ := bC4 BK130.out; obtain ⟨hfz14_0, hfz14_1, hfz14_2, hfz14_3⟩ := bF4 BK130.out))
    go_ret2
    exact ⟨by first | rfl | (simp [errW_none, errW_some] <;> rfl) | (simp [*, errW_none, errW_some] <;> rfl), by repeat (first | (with_reducible first | exact HB.out | apply below_alloc | apply pw_below_drewN | apply below_drew1 | refine below_set ?_ GE130.out) | exact HB.out)⟩
   ·rw [if_neg c10] at H
    have c10b0 : decide ((l0_0.length : Int) ≤ a1) = false := decide_eq_false c10
    clear c10
    by_cases c15 : a2 < 1
    ·rw [if_pos c15] at H
     have c15b0 : decide (a2 < 1) = true := decide_eq_true c15
     clear c15
     simp only [Option.some.injEq, Prod.mk.injEq] at H
     obtain ⟨rfl, rfl⟩ := H
     go_enter Tryz.func9, Tryz.ntmps9
     go_wp2_with (first | ((with_reducible refine gate_dst (N := 3) rfl ?_); (try (refine gate_guard (by rfl) ?_; dsimp only)); refine box_event ?hg (N := 3) ?hd (cs := #[.slice A0_0 l0_0.length c0_0, .slice A0_1 l0_1.length c0_1, .int .i64 a0_2, .int .i64 a0_3]) (t := 25) ?hr ?_; (case hd => rfl); (case hg => rfl); (case hr => first | (go_simp; done) | (go_simp; rfl)); intro gb130 hg w16 hbox hb; have n0_ := aA (below_step mB hb); have n1_ := aA (hbox); have n2_ := aA ((bZ hg mB)); have n3_ := aA ((bZ hg mB)); clear HB; have HB := n0_; have BK130 := n1_; have GW130 := n2_; have GE130 := n3_; clear n0_ n1_ n2_ n3_ hb hbox hg; obtain ⟨hcz17_0, hcz17_1, hcz17_2, hcz17_3⟩ := bC4 BK130.out; obtain ⟨hfz17_0, hfz17_1, hfz17_2, hfz17_3⟩ := bF4 BK130.out) | ((with_reducible refine gate_callee (f := 20) rfl ?_); refine goesL_ (some 10) rfl rfl Tryz.func20 (by kernel_rfl) rfl #[.agg #[.slice A0_0 l0_0.length c0_0, .slice A0_1 l0_1.length c0_1, .int .i64 a0_2, .int .i64 a0_3]] rfl mS ?_; (with_reducible refine (config_Right.calls _ _ l0_0 _ _ l0_1 a0_2 a0_3 true _ ?side1 ?side2 ?side3 ?side4 A4.out).mono ?_); (case side1 => exact mC ((Kd.C_below HR0_0.out HB.out))); (case side2 => exact HC0_0.out); (case side3 => exact mC ((Kd.C_below HR0_1.out HB.out))); (case side4 => exact HC0_1.out); rintro e w18 ⟨rfl, hb⟩; refine ⟨_, rfl, ?_⟩; have n0_ := aA (bB BK130.out hb); have n1_ := aA (below_step (mD1 GE130.out) hb); clear BK130 HB; have BK130 := n0_; have HB := n1_; clear n0_ n1_; (try clear hb); (try clear hb2); (try clear hk); (try clear hi); obtain ⟨hcz19_0, hcz19_1, hcz19_2, hcz19_3⟩ := bC4 BK130.out; obtain ⟨hfz19_0, hfz19_1, hfz19_2, hfz19_3⟩ := bF4 BK130.out))
     go_ret2
     exact ⟨by first | rfl | (simp [errW_none, errW_some] <;> rfl) | (simp [*, errW_none, errW_some] <;> rfl), by repeat (first | (with_reducible first | exact HB.out | apply below_alloc | apply pw_below_drewN | apply below_drew1 | refine below_set ?_ GE130.out) | exact HB.out)⟩
    ·rw [if_neg c15] at H
     have c15b0 : decide (a2 < 1) = false := decide_eq_false c15
     clear c15
     by_cases c20 : 0 ≤ a1
     ·rw [if_pos c20] at H
      have c20b0 : decide (0 ≤ a1) = true := decide_eq_true c20
      clear c20
      by_cases c21 : a1 < (l0_0.length : Int)
      ·rw [if_pos c21] at H
       have c21b0 : decide (a1 < (l0_0.length : Int)) = true := decide_eq_true c21
       clear c21
       replace H := Option.bind_eq_some_iff.mp H
       obtain ⟨⟨t133, t134⟩, A220, H⟩ := H
       replace H : (some (t133, t134)) = some (r1, r2) := H
       have A22 := aA A220
       clear A220
       simp only [Option.some.injEq, Prod.mk.injEq] at H
       obtain ⟨rfl, rfl⟩ := H
       go_enter Tryz.func9, Tryz.ntmps9
       go_wp2_with (first | ((with_reducible refine gate_dst (N := 3) rfl ?_); (try (refine gate_guard (by rfl) ?_; dsimp only)); refine box_event ?hg (N := 3) ?hd (cs := #[.slice A0_0 l0_0.length c0_0, .slice A0_1 l0_1.length c0_1, .int .i64 a0_2, .int .i64 a0_3]) (t := 25) ?hr ?_; (case hd => rfl); (case hg => rfl); (case hr => first | (go_simp; done) | (go_simp; rfl)); intro gb130 hg w23 hbox hb; have n0_ := aA (below_step mB hb); have n1_ := aA (hbox); have n2_ := aA ((bZ hg mB)); have n3_ := aA ((bZ hg mB)); clear HB; have HB := n0_; have BK130 := n1_; have GW130 := n2_; have GE130 := n3_; clear n0_ n1_ n2_ n3_ hb hbox hg; obtain ⟨hcz24_0, hcz24_1, hcz24_2, hcz24_3⟩ := bC4 BK130.out; obtain ⟨hfz24_0, hfz24_1, hfz24_2, hfz24_3⟩ := bF4 BK130.out) | ((with_reducible refine gate_callee (f := 20) rfl ?_); refine goesL_ (some 10) rfl rfl Tryz.func20 (by kernel_rfl) rfl #[.agg #[.slice A0_0 l0_0.length c0_0, .slice A0_1 l0_1.length c0_1, .int .i64 a0_2, .int .i64 a0_3]] rfl mS ?_; (with_reducible refine (config_Right.calls _ _ l0_0 _ _ l0_1 a0_2 a0_3 true _ ?side1 ?side2 ?side3 ?side4 A4.out).mono ?_); (case side1 => exact mC ((Kd.C_below HR0_0.out HB.out))); (case side2 => exact HC0_0.out); (case side3 => exact mC ((Kd.C_below HR0_1.out HB.out))); (case side4 => exact HC0_1.out); rintro e w25 ⟨rfl, hb⟩; refine ⟨_, rfl, ?_⟩; have n0_ := aA (bB BK130.out hb); have n1_ := aA (below_step (mD1 GE130.out) hb); clear BK130 HB; have BK130 := n0_; have HB := n1_; clear n0_ n1_; (try clear hb); (try clear hb2); (try clear hk); (try clear hi); obtain ⟨hcz26_0, hcz26_1, hcz26_2, hcz26_3⟩ := bC4 BK130.out; obtain ⟨hfz26_0, hfz26_1, hfz26_2, hfz26_3⟩ := bF4 BK130.out; have p132 : 0 ≤ (a1 : Int) := of_decide_eq_true (by first | (with_reducible assumption) | assumption); have q132 : a1 < (l0_0.length : Int) := of_decide_eq_true (by first | (with_reducible assumption) | assumption); obtain ⟨ad132, e132, hx132_0, hx132_1, hx132_2, hx132_3, hx132_4, hx132_5, hx132_6, hx132_7, hx132_8⟩ := at_T41 HR0_0.out a1 p132 q132; cases e132; replace hx132_0 := (HB.out.cell (World.block_lt_of_cell? w _ hx132_0)).trans hx132_0; replace hx132_1 := (HB.out.cell (World.block_lt_of_cell? w _ hx132_1)).trans hx132_1; replace hx132_2 := (HB.out.cell (World.block_lt_of_cell? w _ hx132_2)).trans hx132_2; replace hx132_3 := (HB.out.cell (World.block_lt_of_cell? w _ hx132_3)).trans hx132_3; replace hx132_4 := (HB.out.cell (World.block_lt_of_cell? w _ hx132_4)).trans hx132_4; replace hx132_5 := (HB.out.cell (World.block_lt_of_cell? w _ hx132_5)).trans hx132_5; replace hx132_6 := (HB.out.cell (World.block_lt_of_cell? w _ hx132_6)).trans hx132_6; replace hx132_7 := (HB.out.cell (World.block_lt_of_cell? w _ hx132_7)).trans hx132_7; replace hx132_8 := (HB.out.cell (World.block_lt_of_cell? w _ hx132_8)).trans hx132_8; replace p132 := eq_true p132; replace q132 := eq_true q132) | ((with_reducible refine gate_callee (f := 24) rfl ?_); refine goesL_ (some 34) rfl rfl Tryz.func24 (by kernel_rfl) rfl #[.int .i64 (wrap64 (a2 - 1)), .int .i64 ((rd_T41 l0_0 a1).f6)] rfl mS ?_; (with_reducible refine (bound_after.calls (wrap64 (a2 - 1)) ((rd_T41 l0_0 a1).f6) t133 t134 _ A22.out).mono ?_); rintro e w27 ⟨rfl, hb⟩; refine ⟨_, rfl, ?_⟩; have n0_ := aA (bB BK130.out hb); have n1_ := aA (below_step (mD1 GE130.out) hb); clear BK130 HB; have BK130 := n0_; have HB := n1_; clear n0_ n1_; (try clear hb); (try clear hb2); (try clear hk); (try clear hi)))
       go_ret2
       exact ⟨by first | rfl | (simp [errW_none, errW_some] <;> rfl) | (simp [*, errW_none, errW_some] <;> rfl), by repeat (first | (with_reducible first | exact HB.out | apply below_alloc | apply pw_below_drewN | apply below_drew1 | refine below_set ?_ GE130.out) | exact HB.out)⟩
      ·rw [if_neg c21] at H
       exact absurd H (by simp)
     ·rw [if_neg c20] at H
      exact absurd H (by simp)
 ·replace c5 := Bool.eq_false_iff.mpr c5
  subst c5
  have H1 : (some (0, 1)) = some (r1, r2) := by rw [if_neg (show ¬ (false = true) by decide)] at H; exact H
  clear H
  have H := H1
  clear H1
  simp only [Option.some.injEq, Prod.mk.injEq] at H
  obtain ⟨rfl, rfl⟩ := H
  go_enter Tryz.func9, Tryz.ntmps9
  go_wp2_with (first | ((with_reducible refine gate_dst (N := 3) rfl ?_); (try (refine gate_guard (by rfl) ?_; dsimp only)); refine box_event ?hg (N := 3) ?hd (cs := #[.slice A0_0 l0_0.length c0_0, .slice A0_1 l0_1.length c0_1, .int .i64 a0_2, .int .i64 a0_3]) (t := 25) ?hr ?_; (case hd => rfl); (case hg => rfl); (case hr => first | (go_simp; done) | (go_simp; rfl)); intro gb130 hg w28 hbox hb; have n0_ := aA (below_step mB hb); have n1_ := aA (hbox); have n2_ := aA ((bZ hg mB)); have n3_ := aA ((bZ hg mB)); clear HB; have HB := n0_; have BK130 := n1_; have GW130 := n2_; have GE130 := n3_; clear n0_ n1_ n2_ n3_ hb hbox hg; obtain ⟨hcz29_0, hcz29_1, hcz29_2, hcz29_3⟩ := bC4 BK130.out; obtain ⟨hfz29_0, hfz29_1, hfz29_2, hfz29_3⟩ := bF4 BK130.out) | ((with_reducible refine gate_callee (f := 20) rfl ?_); refine goesL_ (some 10) rfl rfl Tryz.func20 (by kernel_rfl) rfl #[.agg #[.slice A0_0 l0_0.length c0_0, .slice A0_1 l0_1.length c0_1, .int .i64 a0_2, .int .i64 a0_3]] rfl mS ?_; (with_reducible refine (config_Right.calls _ _ l0_0 _ _ l0_1 a0_2 a0_3 false _ ?side1 ?side2 ?side3 ?side4 A4.out).mono ?_); (case side1 => exact mC ((Kd.C_below HR0_0.out HB.out))); (case side2 => exact HC0_0.out); (case side3 => exact mC ((Kd.C_below HR0_1.out HB.out))); (case side4 => exact HC0_1.out); rintro e w30 ⟨rfl, hb⟩; refine ⟨_, rfl, ?_⟩; have n0_ := aA (bB BK130.out hb); have n1_ := aA (below_step (mD1 GE130.out) hb); clear BK130 HB; have BK130 := n0_; have HB := n1_; clear n0_ n1_; (try clear hb); (try clear hb2); (try clear hk); (try clear hi)))
  go_ret2
  exact ⟨by first | rfl | (simp [errW_none, errW_some] <;> rfl) | (simp [*, errW_none, errW_some] <;> rfl), by repeat (first | (with_reducible first | exact HB.out | apply below_alloc | apply pw_below_drewN | apply below_drew1 | refine below_set ?_ GE130.out) | exact HB.out)⟩
end Go.Proofs.YtejdpjmfnpbadaaGreatDoorQ.P
namespace Go.Proofs.YtejdpjmfnpbadaaGreatDoorQ.P
open Go.RowKit Go.Proofs.YtejdpjmfnpbadaaGreatDoorW.PrintWords Go.Proofs.YtejdpjmfnpbadaaGreatDoorW.PrintLast Go.Proofs.YtejdpjmfnpbadaaGreatDoorW.PrintMore
attribute [local go_sem] max2_int min2_int max_two min_two max_three min_three max_four min_four
def bound_Life.f (l0_0 : List (S41)) (l0_1 : List (S46)) (a0_2 : Int) (a0_3 : Int) (a1 : Int) : Option (Int × Int) := (config_Right.f l0_0 l0_1 a0_2 a0_3).bind fun t136 => (if t136 = true then (if a1 < 0 then (some (0, 3)) else ((tick_Add.f a0_3 (mn a1 1099511627776)).bind fun bt137 => (some (bt137.1, bt137.2)))) else (some (0, 1)))
set_option maxHeartbeats 8000000 in
set_option maxRecDepth 100000 in
theorem bound_Life.calls (A0_0 : Option Addr) (c0_0 : Nat) (l0_0 : List (S41)) (A0_1 : Option Addr) (c0_1 : Nat) (l0_1 : List (S46)) (a0_2 : Int) (a0_3 : Int) (a1 : Int) (r1 : Int) (r2 : Int) (w : World) (hr0_0 : Kd.C k41 w A0_0 l0_0.length l0_0) (hc0_0 : l0_0.length ≤ c0_0) (hr0_1 : Kd.C k46 w A0_1 l0_1.length l0_1) (hc0_1 : l0_1.length ≤ c0_1) (h : bound_Life.f l0_0 l0_1 a0_2 a0_3 a1 = some (r1, r2)) :
  Calls Tryz.prog 10 #[.agg #[.slice A0_0 l0_0.length c0_0, .slice A0_1 l0_1.length c0_1, .int .i64 a0_2, .int .i64 a0_3], .int .i64 a1] w fun e w' => e = .returned (.tuple #[.int .i64 r1, .int .i64 r2]) ∧ Below w.heap.size w w' := by
 have hu25 := Tryz.underlying25
 have HR0_0 := aA hr0_0
 have HC0_0 := aA hc0_0
 clear hr0_0 hc0_0
 have HR0_1 := aA hr0_1
 have HC0_1 := aA hc0_1
 clear hr0_1 hc0_1
 have HB := aA (Below.refl w.heap.size w)
 have H : ((config_Right.f l0_0 l0_1 a0_2 a0_3).bind fun t136 => (if t136 = true then (if a1 < 0 then (some (0, 3)) else ((tick_Add.f a0_3 (mn a1 1099511627776)).bind fun bt137 => (some (bt137.1, bt137.2)))) else (some (0, 1)))) = some (r1, r2) := h
 clear h
 replace H := Option.bind_eq_some_iff.mp H
 obtain ⟨t136, A30, H⟩ := H
 replace H : (if t136 = true then (if a1 < 0 then (some (0, 3)) else ((tick_Add.f a0_3 (mn a1 1099511627776)).bind fun bt137 => (some (bt137.1, bt137.2)))) else (some (0, 1))) = some (r1, r2) := H
 have A3 := aA A30
 clear A30
 by_cases c4 : t136 = true
 ·subst c4
  have H1 : (if a1 < 0 then (some (0, 3)) else ((tick_Add.f a0_3 (mn a1 1099511627776)).bind fun bt137 => (some (bt137.1, bt137.2)))) = some (r1, r2) := by rw [if_pos rfl] at H; exact H
  clear H
  have H := H1
  clear H1
  by_cases c5 : a1 < 0
  ·rw [if_pos c5] at H
   have c5b0 : decide (a1 < 0) = true := decide_eq_true c5
   clear c5
   simp only [Option.some.injEq, Prod.mk.injEq] at H
   obtain ⟨rfl, rfl⟩ := H
   go_enter Tryz.func10, Tryz.ntmps10
   go_wp2_with (first | ((with_reducible refine gate_dst (N := 2) rfl ?_); refine box_event ?hg (N := 2) ?hd (cs := #[.slice A0_0 l0_0.length c0_0, .slice A0_1 l0_1.length c0_1, .int .i64 a0_2, .int .i64 a0_3]) (t := 25) ?hr ?_; (case hd => rfl); (case hg => rfl); (case hr => first | (go_simp; done) | (go_simp; rfl)); intro gb135 hg w6 hbox hb; have n0_ := aA (below_step mB hb); have n1_ := aA (hbox); have n2_ := aA ((bZ hg mB)); have n3_ := aA ((bZ hg mB)); clear HB; have HB := n0_; have BK135 := n1_; have GW135 := n2_; have GE135 := n3_; clear n0_ n1_ n2_ n3_ hb hbox hg; obtain ⟨hcz7_0, hcz7_1, hcz7_2, hcz7_3⟩ := bC4 BK135.out; obtain ⟨hfz7_0, hfz7_1, hfz7_2, hfz7_3⟩ := bF4 BK135.out) | ((with_reducible refine gate_callee (f := 20) rfl ?_); refine goesL_ (some 8) rfl rfl Tryz.func20 (by kernel_rfl) rfl #[.agg #[.slice A0_0 l0_0.length c0_0, .slice A0_1 l0_1.length c0_1, .int .i64 a0_2, .int .i64 a0_3]] rfl mS ?_; (with_reducible refine (config_Right.calls _ _ l0_0 _ _ l0_1 a0_2 a0_3 true _ ?side1 ?side2 ?side3 ?side4 A3.out).mono ?_); (case side1 => exact mC ((Kd.C_below HR0_0.out HB.out))); (case side2 => exact HC0_0.out); (case side3 => exact mC ((Kd.C_below HR0_1.out HB.out))); (case side4 => exact HC0_1.out); rintro e w8 ⟨rfl, hb⟩; refine ⟨_, rfl, ?_⟩; have n0_ := aA (bB BK135.out hb); have n1_ := aA (below_step (mD1 GE135.out) hb); clear BK135 HB; have BK135 := n0_; have HB := n1_; clear n0_ n1_; (try clear hb); (try clear hb2); (try clear hk); (try clear hi)))
   go_ret2
   exact ⟨by first | rfl | (simp [errW_none, errW_some] <;> rfl) | (simp [*, errW_none, errW_some] <;> rfl), by repeat (first | (with_reducible first | exact HB.out | apply below_alloc | apply pw_below_drewN | apply below_drew1 | refine below_set ?_ GE135.out) | exact HB.out)⟩
  ·rw [if_neg c5] at H
   have c5b0 : decide (a1 < 0) = false := decide_eq_false c5
   clear c5
   obtain ⟨ji9, hji9⟩ : ∃ j_ : Int, (mn a1 1099511627776) = j_ := ⟨_, rfl⟩
   replace H : ((tick_Add.f a0_3 (ji9)).bind fun bt137 => (some (bt137.1, bt137.2))) = some (r1, r2) := by first | (rw [hji9] at H; exact H) | (simp only [hji9] at H ⊢; exact H)
   (try rw [hji9] at A3)
   (try (have hji9h : ji9 ≤ 1099511627776 := by (rw [← hji9]; unfold mn; (repeat' split) <;> omega)))
   (try (have hji9g : ji9 ≤ 64 := by omega))
   have hji9_ : (if 1099511627776 < a1 then 1099511627776 else a1) = ji9 := hji9
   replace H := Option.bind_eq_some_iff.mp H
   obtain ⟨⟨t137, t138⟩, A100, H⟩ := H
   replace H : (some (t137, t138)) = some (r1, r2) := H
   have A10 := aA A100
   clear A100
   simp only [Option.some.injEq, Prod.mk.injEq] at H
   obtain ⟨rfl, rfl⟩ := H
   go_enter Tryz.func10, Tryz.ntmps10
   go_wp2_with (first | ((with_reducible refine gate_dst (N := 2) rfl ?_); refine box_event ?hg (N := 2) ?hd (cs := #[.slice A0_0 l0_0.length c0_0, .slice A0_1 l0_1.length c0_1, .int .i64 a0_2, .int .i64 a0_3]) (t := 25) ?hr ?_; (case hd => rfl); (case hg => rfl); (case hr => first | (go_simp; done) | (go_simp; rfl)); intro gb135 hg w11 hbox hb; have n0_ := aA (below_step mB hb); have n1_ := aA (hbox); have n2_ := aA ((bZ hg mB)); have n3_ := aA ((bZ hg mB)); clear HB; have HB := n0_; have BK135 := n1_; have GW135 := n2_; have GE135 := n3_; clear n0_ n1_ n2_ n3_ hb hbox hg; obtain ⟨hcz12_0, hcz12_1, hcz12_2, hcz12_3⟩ := bC4 BK135.out; obtain ⟨hfz12_0, hfz12_1, hfz12_2, hfz12_3⟩ := bF4 BK135.out) | ((with_reducible refine gate_callee (f := 20) rfl ?_); refine goesL_ (some 8) rfl rfl Tryz.func20 (by kernel_rfl) rfl #[.agg #[.slice A0_0 l0_0.length c0_0, .slice A0_1 l0_1.length c0_1, .int .i64 a0_2, .int .i64 a0_3]] rfl mS ?_; (with_reducible refine (config_Right.calls _ _ l0_0 _ _ l0_1 a0_2 a0_3 true _ ?side1 ?side2 ?side3 ?side4 A3.out).mono ?_); (case side1 => exact mC ((Kd.C_below HR0_0.out HB.out))); (case side2 => exact HC0_0.out); (case side3 => exact mC ((Kd.C_below HR0_1.out HB.out))); (case side4 => exact HC0_1.out); rintro e w13 ⟨rfl, hb⟩; refine ⟨_, rfl, ?_⟩; have n0_ := aA (bB BK135.out hb); have n1_ := aA (below_step (mD1 GE135.out) hb); clear BK135 HB; have BK135 := n0_; have HB := n1_; clear n0_ n1_; (try clear hb); (try clear hb2); (try clear hk); (try clear hi); obtain ⟨hcz14_0, hcz14_1, hcz14_2, hcz14_3⟩ := bC4 BK135.out; obtain ⟨hfz14_0, hfz14_1, hfz14_2, hfz14_3⟩ := bF4 BK135.out) | ((with_reducible refine gate_callee (f := 25) rfl ?_); refine goesL_ (some 17) rfl rfl Tryz.func25 (by kernel_rfl) rfl #[.int .i64 a0_3, .int .i64 ji9] rfl (by (try simp only [List.map_toArray, List.map_cons, List.map_nil]); first | done | (simp only [hji9]; rfl) | rfl | (simp only [List.length_drop, List.length_take]; rfl)) ?_; (with_reducible refine (tick_Add.calls a0_3 ji9 t137 t138 _ A10.out).mono ?_); rintro e w15 ⟨rfl, hb⟩; refine ⟨_, rfl, ?_⟩; have n0_ := aA (bB BK135.out hb); have n1_ := aA (below_step (mD1 GE135.out) hb); clear BK135 HB; have BK135 := n0_; have HB := n1_; clear n0_ n1_; (try clear hb); (try clear hb2); (try clear hk); (try clear hi)))
   go_ret2
   exact ⟨by first | rfl | (simp [errW_none, errW_some] <;> rfl) | (simp only [← hji9]; first | rfl | (simp [errW_none, errW_some] <;> rfl)) | (simp [*, errW_none, errW_some] <;> rfl), by repeat (first | (with_reducible first | exact HB.out | apply below_alloc | apply pw_below_drewN | apply below_drew1 | refine below_set ?_ GE135.out) | exact HB.out)⟩
 ·replace c4 := Bool.eq_false_iff.mpr c4
  subst c4
  have H1 : (some (0, 1)) = some (r1, r2) := by rw [if_neg (show ¬ (false = true) by decide)] at H; exact H
  clear H
  have H := H1
  clear H1
  simp only [Option.some.injEq, Prod.mk.injEq] at H
  obtain ⟨rfl, rfl⟩ := H
  go_enter Tryz.func10, Tryz.ntmps10
  go_wp2_with (first | ((with_reducible refine gate_dst (N := 2) rfl ?_); refine box_event ?hg (N := 2) ?hd (cs := #[.slice A0_0 l0_0.length c0_0, .slice A0_1 l0_1.length c0_1, .int .i64 a0_2, .int .i64 a0_3]) (t := 25) ?hr ?_; (case hd => rfl); (case hg => rfl); (case hr => first | (go_simp; done) | (go_simp; rfl)); intro gb135 hg w16 hbox hb; have n0_ := aA (below_step mB hb); have n1_ := aA (hbox); have n2_ := aA ((bZ hg mB)); have n3_ := aA ((bZ hg mB)); clear HB; have HB := n0_; have BK135 := n1_; have GW135 := n2_; have GE135 := n3_; clear n0_ n1_ n2_ n3_ hb hbox hg; obtain ⟨hcz17_0, hcz17_1, hcz17_2, hcz17_3⟩ := bC4 BK135.out; obtain ⟨hfz17_0, hfz17_1, hfz17_2, hfz17_3⟩ := bF4 BK135.out) | ((with_reducible refine gate_callee (f := 20) rfl ?_); refine goesL_ (some 8) rfl rfl Tryz.func20 (by kernel_rfl) rfl #[.agg #[.slice A0_0 l0_0.length c0_0, .slice A0_1 l0_1.length c0_1, .int .i64 a0_2, .int .i64 a0_3]] rfl mS ?_; (with_reducible refine (config_Right.calls _ _ l0_0 _ _ l0_1 a0_2 a0_3 false _ ?side1 ?side2 ?side3 ?side4 A3.out).mono ?_); (case side1 => exact mC ((Kd.C_below HR0_0.out HB.out))); (case side2 => exact HC0_0.out); (case side3 => exact mC ((Kd.C_below HR0_1.out HB.out))); (case side4 => exact HC0_1.out); rintro e w18 ⟨rfl, hb⟩; refine ⟨_, rfl, ?_⟩; have n0_ := aA (bB BK135.out hb); have n1_ := aA (below_step (mD1 GE135.out) hb); clear BK135 HB; have BK135 := n0_; have HB := n1_; clear n0_ n1_; (try clear hb); (try clear hb2); (try clear hk); (try clear hi)))
  go_ret2
  exact ⟨by first | rfl | (simp [errW_none, errW_some] <;> rfl) | (simp [*, errW_none, errW_some] <;> rfl), by repeat (first | (with_reducible first | exact HB.out | apply below_alloc | apply pw_below_drewN | apply below_drew1 | refine below_set ?_ GE135.out) | exact HB.out)⟩
end Go.Proofs.YtejdpjmfnpbadaaGreatDoorQ.P
namespace Go.Proofs.YtejdpjmfnpbadaaGreatDoor
open Go.RowKit
def numsP : List ByteArray → Option (List Int)
  | [] => some []
  | w :: r => if atoiB w.data.toList = true then (numsP r).map (atoiV w.data.toList :: ·) else none
def rcvOf (n : ByteArray) (l : List Int) : Rcv := ⟨n, l.getD 0 0, l.getD 1 0, l.getD 2 0, l.getD 3 0, l.getD 4 0, l.getD 5 0, l.getD 6 0, l.getD 7 0⟩
def rcvN (rs : List Rcv) (nm : ByteArray) : Option (List Int) → List Rcv × Int
  | none => (rs, 13)
  | some l => if rcvB (rcvOf nm l) = true then (rs ++ [rcvOf nm l], 0) else (rs, 3)
def rcvS (rs : List Rcv) (ws : List ByteArray) : List Rcv × Int :=
  if rs.length = 4 then (rs, 2) else if ws.length ≠ 10 then (rs, 12) else if 0 ≤ placeL rs (ws.getD 1 ⟨#[]⟩) then (rs, 11) else rcvN rs (ws.getD 1 ⟨#[]⟩) (numsP (ws.drop 2))
def isIf (w : ByteArray) : Bool := w.data.toList == ifT
def placesP (rs : List Rcv) : List ByteArray → Option (List Int)
  | [] => some []
  | w :: r => if 0 ≤ placeL rs w then (placesP rs r).map (placeL rs w :: ·) else none
def asksP : List ByteArray → Option (List Mat)
  | [] => some []
  | w :: r => match askP w.data.toList with | none => none | some m => (asksP r).map (m :: ·)
def rteA (rs : List Rcv) (ts : List Rte) (c : List Int) : Option (List Mat) → List Rte × Int
  | none => (ts, 13)
  | some a => if rteB ⟨c, a⟩ rs.length = true then (ts ++ [⟨c, a⟩], 0) else (ts, 3)
def rteC (rs : List Rcv) (ts : List Rte) (a : Option (List Mat)) : Option (List Int) → List Rte × Int
  | none => (ts, 4)
  | some c => rteA rs ts c a
def rteS (rs : List Rcv) (ts : List Rte) (ws : List ByteArray) : List Rte × Int :=
  if ts.length = 4 then (ts, 2) else if idxOf isIf (ws.drop 1) < 0 then (ts, 12) else
  rteC rs ts (asksP (ws.drop (2 + (idxOf isIf (ws.drop 1)).toNat))) (placesP rs ((ws.drop 1).take (idxOf isIf (ws.drop 1)).toNat))
def timeS (old : Int) (ws : List ByteArray) : Int × Int :=
  if ws.length ≠ 2 then (old, 12) else if atoiB (ws.getD 1 ⟨#[]⟩).data.toList = false then (old, 13) else
  if oftenB (atoiV (ws.getD 1 ⟨#[]⟩).data.toList) = true then (atoiV (ws.getD 1 ⟨#[]⟩).data.toList, 0) else (old, 3)
def rcvT : List UInt8 := [114, 101, 99, 101, 105, 118, 101, 114]
def rteT : List UInt8 := [114, 111, 117, 116, 101]
def repT : List UInt8 := [114, 101, 112, 101, 97, 116]
def beatT : List UInt8 := [98, 101, 97, 116]
def mayB (first ahead : List UInt8) : Bool :=
  if first = rcvT then decide (ahead = []) || decide (ahead = rcvT) else if first = rteT then decide (ahead = rcvT) || decide (ahead = rteT) else
  if first = repT then decide (ahead = rteT) else if first = beatT then decide (ahead = repT) else false
def lineS (c : Cfg) (ahead : List UInt8) (ws : List ByteArray) : Cfg × List UInt8 × Int :=
  if mayB (ws.getD 0 ⟨#[]⟩).data.toList ahead = false then (c, ahead, 10) else
  if (ws.getD 0 ⟨#[]⟩).data.toList = rcvT then ({ c with rs := (rcvS c.rs ws).1 }, rcvT, (rcvS c.rs ws).2) else
  if (ws.getD 0 ⟨#[]⟩).data.toList = rteT then ({ c with ts := (rteS c.rs c.ts ws).1 }, rteT, (rteS c.rs c.ts ws).2) else
  if (ws.getD 0 ⟨#[]⟩).data.toList = repT then ({ c with rep := (timeS c.rep ws).1 }, repT, (timeS c.rep ws).2) else
  ({ c with beat := (timeS c.beat ws).1 }, beatT, (timeS c.beat ws).2)
def linesS (c : Cfg) (ahead : List UInt8) (i : Int) : List ByteArray → Cfg × Int × Int
  | [] => if ahead = beatT then (c, 0, 0) else (Cfg.zero, i, 12)
  | s :: r => if (lineS c ahead ((splitL 32 s.data.toList).map tx)).2.2 = 0 then linesS (lineS c ahead ((splitL 32 s.data.toList).map tx)).1 (lineS c ahead ((splitL 32 s.data.toList).map tx)).2.1 (i + 1) r else (Cfg.zero, i, (lineS c ahead ((splitL 32 s.data.toList).map tx)).2.2)
def linesT (l : List UInt8) : List ByteArray := if l = [] then [] else (splitL 10 (if l.getLast? = some 10 then l.dropLast else l)).map tx
def cfgP (l : List UInt8) : Cfg × Int × Int := linesS Cfg.zero [] 0 (linesT l)
end Go.Proofs.YtejdpjmfnpbadaaGreatDoor
namespace Go.Proofs.YtejdpjmfnpbadaaGreatDoor
open Go.RowKit Go.Proofs.YtejdpjmfnpbadaaGreatDoorQ Go.Proofs.YtejdpjmfnpbadaaGreatDoorQ.P Go.Proofs.YtejdpjmfnpbadaaGreatDoorW.PrintWords
attribute [local go_sem high] ext_size ext_cell ext_frozen alloc_cell alloc_frozen
attribute [local go_sem] lt_more lt_suc drew_size drew_cell
theorem infoRcv : (Tryz.prog.info? 41).map (fun i => (i.zero, i.size, i.bytes)) = some (some (.agg #[.string ⟨#[]⟩, .int .i64 0, .int .i64 0, .int .i64 0, .int .i64 0, .int .i64 0, .int .i64 0, .int .i64 0, .int .i64 0]), 9, 80) := by kernel_rfl
theorem infoInt : (Tryz.prog.info? 3).map (fun i => (i.zero, i.size, i.bytes)) = some (some (.int .i64 0), 1, 8) := by kernel_rfl
theorem infoMat : (Tryz.prog.info? 173).map (fun i => (i.zero, i.size, i.bytes)) = some (some (.agg #[(.int .i64 0), (.string ⟨#[]⟩), (.string ⟨#[]⟩)]), 3, 40) := by kernel_rfl
theorem infoStr : (Tryz.prog.info? 9).map (fun i => (i.zero, i.size, i.bytes)) = some (some (.string ⟨#[]⟩), 1, 16) := by kernel_rfl
structure RdA (w : World) (g : Nat) (rv tv wv : Value) (c : Cfg) (ahead : ByteArray) : Prop where
  blk : w.heap[g]? = some (.cells #[rv, tv, .int .i64 c.rep, .int .i64 c.beat, wv, .string ahead] 127 (0, 0))
  rs : Kd.R k41 41 w g (fun _ => True) rv (c.rs.map ofRcv)
  ts : Kd.S k46 46 w g (fun _ => True) tv (c.ts.map ofRte)
  rl : c.rs.length ≤ 4
  tl : c.ts.length ≤ 4
theorem RdA.stay {w W : World} {g : Nat} {rv tv wv : Value} {c : Cfg} {a : ByteArray} (h : RdA w g rv tv wv c a) (hb : Below w.heap.size w W) : RdA W g rv tv wv c a :=
  ⟨blk_call hb h.blk, Kd.R_below h.rs hb, Kd.S_below h.ts hb, h.rl, h.tl⟩
theorem bel_low {w W : World} {g : Nat} (hg : g ≤ w.heap.size) (h : Below w.heap.size w W) : Below g w W := ⟨h.os, h.tape, h.output, h.size, fun i hi => h.block i (by omega)⟩
theorem bel_to {w W : World} {g B : Nat} (hg : g ≤ B) (h : Below B w W) : Below g w W := ⟨h.os, h.tape, h.output, h.size, fun i hi => h.block i (by omega)⟩
theorem RdA.lt {w : World} {g : Nat} {rv tv wv : Value} {c : Cfg} {a : ByteArray} (h : RdA w g rv tv wv c a) : g < w.heap.size := blk_lt h.blk
theorem RdA.put {w : World} {g : Nat} {rv tv wv : Value} {c : Cfg} {a : ByteArray} (h : RdA w g rv tv wv c a) (j : Nat) (u : Value) {rv' tv' wv' : Value} {c' : Cfg} {a' : ByteArray}
    (hc : (#[rv, tv, .int .i64 c.rep, .int .i64 c.beat, wv, .string a] : Array Value).setIfInBounds j u = #[rv', tv', .int .i64 c'.rep, .int .i64 c'.beat, wv', .string a'])
    (hr : rv' = rv) (ht : tv' = tv) (hrs : c'.rs = c.rs) (hts : c'.ts = c.ts) : RdA (w.setCell ⟨g, j, none⟩ u) g rv' tv' wv' c' a' := by
  subst hr ht
  refine ⟨?_, ?_, ?_, by rw [hrs]; exact h.rl, by rw [hts]; exact h.tl⟩
  · rw [← hc]
    exact blk_set h.blk j u
  · rw [hrs]
    exact Kd.R_set h.rs h.blk (by decide) j u
  · rw [hts]
    exact Kd.S_set h.ts h.blk (by decide) j u
def timeC (o : Nat) (c : Cfg) (v : Int) : Cfg := if o = 2 then { c with rep := v } else { c with beat := v }
theorem set_low (w : World) (g j : Nat) (u : Value) : Below g w (w.setCell ⟨g, j, none⟩ u) := bset (p := ⟨g, j, none⟩) (Below.refl _ _) (Nat.le_refl _) u
set_option maxHeartbeats 4000000 in
theorem rtime_any (g : Nat) (rv tv wv : Value) (c : Cfg) (ahead : ByteArray) (ws : List ByteArray) (o : Nat) (old : Int) (w : World) (h : RdA w g rv tv wv c ahead) (hS : SlAt w wv 1 ws.length (strs ws)) (hG : GOK w) (hw : ∀ x ∈ ws, x.size ≤ 100000) (ho : (o = 2 ∧ old = c.rep) ∨ (o = 3 ∧ old = c.beat)) :
    Calls Tryz.prog 174 #[.pointer (some ⟨g, 0, none⟩), .pointer (some ⟨g, o, none⟩)] w fun e w' => e = .returned (.int .i64 (timeS old ws).2) ∧ Below g w w' ∧
      RdA w' g rv tv wv (timeC o c (timeS old ws).1) ahead := by
  have HH := Lib.hid h
  have HG := Lib.hid hG
  have hgl := h.lt
  obtain ⟨a0, c0, rfl, _, hm0⟩ := hS.form
  have HS := Lib.hid hS
  have k4 : w.cell? ⟨g, 4, none⟩ = some (.slice a0 ws.length c0) := blk_cell h.blk rfl
  have hoc : timeC o c old = c := by
    rcases ho with ⟨rfl, rfl⟩ | ⟨rfl, rfl⟩
    · exact if_pos rfl
    · exact if_neg (by decide)
  have HOC := Lib.hid hoc
  have HP := Lib.hid (show ∀ (W : World) (v : Int), RdA W g rv tv (.slice a0 ws.length c0) c ahead → RdA (W.setCell ⟨g, o, none⟩ (.int .i64 v)) g rv tv (.slice a0 ws.length c0) (timeC o c v) ahead from fun W v hW => by
    rcases ho with ⟨rfl, _⟩ | ⟨rfl, _⟩
    · exact hW.put 2 _ rfl rfl rfl rfl rfl
    · exact hW.put 3 _ rfl rfl rfl rfl rfl)
  have kO : ∃ u, w.cell? ⟨g, o, none⟩ = some u := by
    rcases ho with ⟨rfl, _⟩ | ⟨rfl, _⟩
    · exact ⟨_, blk_cell h.blk rfl⟩
    · exact ⟨_, blk_cell h.blk rfl⟩
  obtain ⟨uO, kO⟩ := kO
  have fO : w.frozen? ⟨g, o, none⟩ = false := blk_free h.blk o
  unfold maxLen at hm0
  unfold timeS
  clear h hG hS hoc ho
  by_cases h2 : ws.length = 2
  · rw [if_neg (by omega)]
    obtain ⟨w0, w1, rfl⟩ : ∃ w0 w1, ws = [w0, w1] := by
      match ws, h2 with
      | [a, b], _ => exact ⟨a, b, rfl⟩
    simp only [List.getD_cons_succ, List.getD_cons_zero]
    obtain ⟨b, oo, rfl, hbl, hcell⟩ := HS.out.at (by simp)
    have k1 : w.cell? ⟨b, oo + 1, none⟩ = some (.string w1) := hcell 1 _ rfl
    have HN := Lib.hid fun W (hW : GOK W) => number_any w1 W hW (Nat.le_trans (hw w1 (by simp)) (by omega))
    have HO := Lib.hid fun W => often_any (atoiV w1.data.toList) W
    generalize atoiV w1.data.toList = v at *
    generalize atoiB w1.data.toList = vb at *
    generalize oftenB v = ob at *
    clear hw hcell
    have hlen : ([w0, w1] : List ByteArray).length = 2 := rfl
    rw [hlen] at *
    cases vb
    · go_enter Tryz.func174, Tryz.ntmps174
      go_wp2_with fail
      refine (HN.out _ (gok_below HG.out (by repeat (first | exact Below.refl _ _ | apply bal | apply bext | apply bdr | apply bdrN | (refine bst ?_ _ (by simp only [ext_size, size_alloc, size_set]; omega)))))).mono ?_
      rintro e w' ⟨rfl, hb⟩
      obtain ⟨y1, rfl⟩ := ext_of hb
      clear hb
      go_wp2_with fail
      go_ret
      refine ⟨rfl, bel_low (by omega) (by repeat (first | exact Below.refl _ _ | apply bal | apply bext | apply bdr | apply bdrN | (refine bst ?_ _ (by simp only [ext_size, size_alloc, size_set]; omega)))), ?_⟩
      rw [HOC.out]
      exact HH.out.stay (by repeat (first | exact Below.refl _ _ | apply bal | apply bext | apply bdr | apply bdrN | (refine bst ?_ _ (by simp only [ext_size, size_alloc, size_set]; omega))))
    · cases ob
      · go_enter Tryz.func174, Tryz.ntmps174
        go_wp2_with fail
        refine (HN.out _ (gok_below HG.out (by repeat (first | exact Below.refl _ _ | apply bal | apply bext | apply bdr | apply bdrN | (refine bst ?_ _ (by simp only [ext_size, size_alloc, size_set]; omega)))))).mono ?_
        rintro e w' ⟨rfl, hb⟩
        obtain ⟨y1, rfl⟩ := ext_of hb
        clear hb
        go_wp2_with fail
        refine (HO.out _).mono ?_
        rintro e w' ⟨rfl, hb⟩
        obtain ⟨y2, rfl⟩ := ext_of hb
        clear hb
        go_wp2_with fail
        go_ret
        refine ⟨rfl, bel_low (by omega) (by repeat (first | exact Below.refl _ _ | apply bal | apply bext | apply bdr | apply bdrN | (refine bst ?_ _ (by simp only [ext_size, size_alloc, size_set]; omega)))), ?_⟩
        rw [HOC.out]
        exact HH.out.stay (by repeat (first | exact Below.refl _ _ | apply bal | apply bext | apply bdr | apply bdrN | (refine bst ?_ _ (by simp only [ext_size, size_alloc, size_set]; omega))))
      · go_enter Tryz.func174, Tryz.ntmps174
        go_wp2_with fail
        refine (HN.out _ (gok_below HG.out (by repeat (first | exact Below.refl _ _ | apply bal | apply bext | apply bdr | apply bdrN | (refine bst ?_ _ (by simp only [ext_size, size_alloc, size_set]; omega)))))).mono ?_
        rintro e w' ⟨rfl, hb⟩
        obtain ⟨y1, rfl⟩ := ext_of hb
        clear hb
        go_wp2_with fail
        refine (HO.out _).mono ?_
        rintro e w' ⟨rfl, hb⟩
        obtain ⟨y2, rfl⟩ := ext_of hb
        clear hb
        go_wp2_with fail
        go_ret
        refine ⟨rfl, (bel_low (by omega) (by repeat (first | exact Below.refl _ _ | apply bal | apply bext | apply bdr | apply bdrN | (refine bst ?_ _ (by simp only [ext_size, size_alloc, size_set]; omega))))).trans (set_low _ _ _ _), ?_⟩
        exact HP.out _ _ (HH.out.stay (by repeat (first | exact Below.refl _ _ | apply bal | apply bext | apply bdr | apply bdrN | (refine bst ?_ _ (by simp only [ext_size, size_alloc, size_set]; omega)))))
  · rw [if_pos h2]
    have h2' : ¬ ((ws.length : Int) = 2) := by omega
    go_enter Tryz.func174, Tryz.ntmps174
    go_wp2_with fail
    go_ret
    refine ⟨rfl, Below.refl _ _, ?_⟩
    rw [HOC.out]
    exact HH.out
end Go.Proofs.YtejdpjmfnpbadaaGreatDoor
