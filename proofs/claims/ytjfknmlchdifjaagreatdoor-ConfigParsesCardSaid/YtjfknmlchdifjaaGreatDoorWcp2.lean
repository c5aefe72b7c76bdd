/- Part 2 of a proof: contracts and plain laws of what the statement reaches. No condition. -/
import Derived.ProofKit
import Derived.OpenShut
import Derived.SliceStrings
import Derived.Shelf.SlSortCmp.SmallK
import Derived.Shelf.Strings.Builder1
import Derived.Shelf.Strings.Builder2
import Derived.Shelf.Strings.OnBuilder
import Derived.Shelf.Small.Utf8
import Derived.Shelf.Small.Bits
import Derived.Shelf.Small.Strs
import Derived.Shelf.Strings.BuilderF
import Derived.Shelf.Strings.BuilderK
import Derived.Shelf.Utf8.RuneCount
import Derived.Shelf.Strings.Builder2Cap
import Derived.Shelf.Strconv.Atoi
import Derived.Shelf.Strconv.Itoa0
import Derived.Shelf.Strconv.Itoa1
import Derived.Shelf.LaysM
import Derived.Shelf.Strconv.Itoa2
import Derived.Shelf.Strconv.Itoa3
import Derived.Shelf.Strconv.AtoiErrFast
import Derived.Shelf.Strconv.ParseIntEmpty
import Derived.Shelf.Strconv.AtoiFail
import Derived.Shelf.Strconv.Clone
import Derived.Shelf.Strconv.SyntaxError
import Derived.Shelf.LaysC
import Derived.Shelf.Strconv.ToError
import Derived.Shelf.Strconv.AtoiErr
import Derived.Shelf.Strconv.ErrVar
import Derived.Shelf.Strconv.Lower
import Derived.Shelf.Strconv.ParseUint10
import Derived.Shelf.Strconv.ParseUint10Empty
import Derived.Shelf.Strconv.ParseUint10Any
import Derived.Shelf.Strconv.ParseInt10
import Derived.Shelf.Strconv.AtoiLong
import Derived.Shelf.Strconv.AtoiInnerAll
import Derived.Shelf.Strconv.RangeError
import Derived.Shelf.Strconv.ToErrorRange
import Derived.Shelf.Strconv.AtoiAll
import Derived.Shelf.Strconv.ErrVarAll
import Derived.Shelf.Strconv.ParseUintEmpty
import Derived.Shelf.Strconv.ParseUint10b64
import Derived.Shelf.Strconv.ParseUint10b32
import Derived.Shelf.Strconv.ParseUint10b16
import Derived.Shelf.Strconv.ParseUint10b8
import Derived.Shelf.Strconv.ParseUint10At
import Derived.Shelf.Strconv.ParseInt10At64
import Derived.Shelf.Strconv.ParseInt10At32
import Derived.Shelf.Strconv.ParseInt10At16
import Derived.Shelf.Strconv.ParseInt10At8
import Derived.Shelf.Strings.Search1
import Derived.Shelf.Strings.Search2
import Derived.Shelf.Strings.Search3
import Derived.Shelf.Strings.Cut
import Derived.Shelf.Strings.Count
import Derived.Shelf.Strings.Shaped
import Derived.Shelf.Strings.Prefix
import Derived.Shelf.Strings.Split
import Derived.Shelf.Strings.SplitShaped
import Derived.Shelf.Strings.Runes
import Derived.Shelf.Strings.IndexAny
import Derived.Shelf.Strings.AsciiSet
import Derived.Shelf.Strings.IndexAnyAll
import Derived.Shelf.Unicode.DecodeSlow
import Derived.Shelf.Slices.Turned
import Derived.Test.YtjfknmlchdifjaaGreatDoorProg
import Derived.Shelf.SlGeneric
import Derived.Shelf.SlicesE.Clone
import Derived.Ground.SlsfProg
import Derived.Ground.SlgnProg
import Derived.Ground.NamesProg
import Derived.Shelf.SlSortFuncK.HeapSortK
import Derived.Shelf.Abstract
import Derived.Maps.OwnOps
import Derived.Carry
import Derived.Lib.AtoiErrMem
import Derived.LoopTactic
import Derived.Outline
import Derived.Laws.RangeAny
import Derived.Laws.Runes
import Derived.WalkMore
import Derived.LoopN
import Derived.Deep.DeepCutAuto
import Derived.Test.YtjfknmlchdifjaaGreatDoorWcp1
set_option linter.unusedVariables false
set_option linter.unusedSimpArgs false
namespace Go.Proofs.YtjfknmlchdifjaaGreatDoorQ.P
open Go.RowKit Go.Proofs.YtjfknmlchdifjaaGreatDoorW.PrintWords Go.Proofs.YtjfknmlchdifjaaGreatDoorW.PrintLast Go.Proofs.YtjfknmlchdifjaaGreatDoorW.PrintMore
attribute [local go_sem] max2_int min2_int max_two min_two max_three min_three max_four min_four
def backoff_Right.f (a0_0 : Int) (a0_1 : Int) (a0_2 : Int) : Option (Bool) := (backoff_in.f a0_0 1 1048576).bind fun t321 => (if t321 = true then ((backoff_in.f a0_1 a0_0 1073741824).bind fun t322 => (if t322 = true then ((backoff_in.f a0_2 0 1048576).bind fun t323 => (some t323)) else (some false))) else (some false))
set_option maxHeartbeats 8000000 in
set_option maxRecDepth 100000 in
theorem backoff_Right.calls (a0_0 : Int) (a0_1 : Int) (a0_2 : Int) (r : Bool) (w : World) (h : backoff_Right.f a0_0 a0_1 a0_2 = some r) :
  Calls Tryz.prog 108 #[.agg #[.int .i64 a0_0, .int .i64 a0_1, .int .i64 a0_2]] w fun e w' => e = .returned (.bool r) ∧ Below w.heap.size w w' := by
 have hu88 := Tryz.underlying88
 have HB := aA (Below.refl w.heap.size w)
 have H : ((backoff_in.f a0_0 1 1048576).bind fun t321 => (if t321 = true then ((backoff_in.f a0_1 a0_0 1073741824).bind fun t322 => (if t322 = true then ((backoff_in.f a0_2 0 1048576).bind fun t323 => (some t323)) else (some false))) else (some false))) = some r := h
 clear h
 replace H := Option.bind_eq_some_iff.mp H
 obtain ⟨t321, A20, H⟩ := H
 have A2 := aA A20
 clear A20
 by_cases c3 : t321 = true
 ·subst c3
  have H1 : ((backoff_in.f a0_1 a0_0 1073741824).bind fun t322 => (if t322 = true then ((backoff_in.f a0_2 0 1048576).bind fun t323 => (some t323)) else (some false))) = some r := by rw [if_pos rfl] at H; exact H
  clear H
  have H := H1
  clear H1
  replace H := Option.bind_eq_some_iff.mp H
  obtain ⟨t322, A40, H⟩ := H
  have A4 := aA A40
  clear A40
  by_cases c5 : t322 = true
  ·subst c5
   have H1 : ((backoff_in.f a0_2 0 1048576).bind fun t323 => (some t323)) = some r := by rw [if_pos rfl] at H; exact H
   clear H
   have H := H1
   clear H1
   replace H := Option.bind_eq_some_iff.mp H
   obtain ⟨t323, A60, H⟩ := H
   have A6 := aA A60
   clear A60
   obtain rfl := Option.some.inj H
   go_enter Tryz.func108, Tryz.ntmps108
   go_wp2_with (first | ((with_reducible refine gate_dst (N := 1) rfl ?_); refine box_event ?hg (N := 1) ?hd (cs := #[.int .i64 a0_0, .int .i64 a0_1, .int .i64 a0_2]) (t := 88) ?hr ?_; (case hd => rfl); (case hg => rfl); (case hr => first | (go_simp; done) | (go_simp; rfl)); intro gb320 hg w7 hbox hb; have n0_ := aA (below_step mB hb); have n1_ := aA (hbox); have n2_ := aA ((bZ hg mB)); have n3_ := aA ((bZ hg mB)); clear HB; have HB := n0_; have BK320 := n1_; have GW320 := n2_; have GE320 := n3_; clear n0_ n1_ n2_ n3_ hb hbox hg; obtain ⟨hcz8_0, hcz8_1, hcz8_2⟩ := bC3 BK320.out; obtain ⟨hfz8_0, hfz8_1, hfz8_2⟩ := bF3 BK320.out) | ((with_reducible refine gate_callee (f := 142) rfl ?_); refine goesL_ (some 5) rfl rfl Tryz.func142 (by kernel_rfl) rfl #[.int .i64 a0_0, .int .i64 1, .int .i64 1048576] rfl mS ?_; (with_reducible refine (backoff_in.calls a0_0 1 1048576 true _ A2.out).mono ?_); rintro e w' ⟨rfl, ⟨nd, rfl⟩⟩; refine ⟨_, rfl, ?_⟩) | (go_at_call 142; (with_reducible refine (backoff_in.calls a0_1 a0_0 1073741824 true _ A4.out).mono ?_); rintro e w' ⟨rfl, ⟨nd, rfl⟩⟩) | (go_at_call 142; (with_reducible refine (backoff_in.calls a0_2 0 1048576 t323 _ A6.out).mono ?_); rintro e w' ⟨rfl, ⟨nd, rfl⟩⟩))
   go_ret
   exact ⟨by first | rfl | (simp [errW_none, errW_some] <;> rfl) | (simp [*, errW_none, errW_some] <;> rfl), by repeat (first | (with_reducible first | exact HB.out | apply below_alloc | apply pw_below_drewN | apply below_drew1 | refine below_set ?_ GE320.out) | exact HB.out)⟩
  ·replace c5 := Bool.eq_false_iff.mpr c5
   subst c5
   have H1 : (some false) = some r := by rw [if_neg (show ¬ (false = true) by decide)] at H; exact H
   clear H
   have H := H1
   clear H1
   obtain rfl := Option.some.inj H
   go_enter Tryz.func108, Tryz.ntmps108
   go_wp2_with (first | ((with_reducible refine gate_dst (N := 1) rfl ?_); refine box_event ?hg (N := 1) ?hd (cs := #[.int .i64 a0_0, .int .i64 a0_1, .int .i64 a0_2]) (t := 88) ?hr ?_; (case hd => rfl); (case hg => rfl); (case hr => first | (go_simp; done) | (go_simp; rfl)); intro gb320 hg w9 hbox hb; have n0_ := aA (below_step mB hb); have n1_ := aA (hbox); have n2_ := aA ((bZ hg mB)); have n3_ := aA ((bZ hg mB)); clear HB; have HB := n0_; have BK320 := n1_; have GW320 := n2_; have GE320 := n3_; clear n0_ n1_ n2_ n3_ hb hbox hg; obtain ⟨hcz10_0, hcz10_1, hcz10_2⟩ := bC3 BK320.out; obtain ⟨hfz10_0, hfz10_1, hfz10_2⟩ := bF3 BK320.out) | ((with_reducible refine gate_callee (f := 142) rfl ?_); refine goesL_ (some 5) rfl rfl Tryz.func142 (by kernel_rfl) rfl #[.int .i64 a0_0, .int .i64 1, .int .i64 1048576] rfl mS ?_; (with_reducible refine (backoff_in.calls a0_0 1 1048576 true _ A2.out).mono ?_); rintro e w' ⟨rfl, ⟨nd, rfl⟩⟩; refine ⟨_, rfl, ?_⟩) | (go_at_call 142; (with_reducible refine (backoff_in.calls a0_1 a0_0 1073741824 false _ A4.out).mono ?_); rintro e w' ⟨rfl, ⟨nd, rfl⟩⟩))
   go_ret
   exact ⟨by first | rfl | (simp [errW_none, errW_some] <;> rfl) | (simp [*, errW_none, errW_some] <;> rfl), by repeat (first | (with_reducible first | exact HB.out | apply below_alloc | apply pw_below_drewN | apply below_drew1 | refine below_set ?_ GE320.out) | exact HB.out)⟩
 ·replace c3 := Bool.eq_false_iff.mpr c3
  subst c3
  have H1 : (some false) = some r := by rw [if_neg (show ¬ (false = true) by decide)] at H; exact H
  clear H
  have H := H1
  clear H1
  obtain rfl := Option.some.inj H
  go_enter Tryz.func108, Tryz.ntmps108
  go_wp2_with (first | ((with_reducible refine gate_dst (N := 1) rfl ?_); refine box_event ?hg (N := 1) ?hd (cs := #[.int .i64 a0_0, .int .i64 a0_1, .int .i64 a0_2]) (t := 88) ?hr ?_; (case hd => rfl); (case hg => rfl); (case hr => first | (go_simp; done) | (go_simp; rfl)); intro gb320 hg w11 hbox hb; have n0_ := aA (below_step mB hb); have n1_ := aA (hbox); have n2_ := aA ((bZ hg mB)); have n3_ := aA ((bZ hg mB)); clear HB; have HB := n0_; have BK320 := n1_; have GW320 := n2_; have GE320 := n3_; clear n0_ n1_ n2_ n3_ hb hbox hg; obtain ⟨hcz12_0, hcz12_1, hcz12_2⟩ := bC3 BK320.out; obtain ⟨hfz12_0, hfz12_1, hfz12_2⟩ := bF3 BK320.out) | ((with_reducible refine gate_callee (f := 142) rfl ?_); refine goesL_ (some 5) rfl rfl Tryz.func142 (by kernel_rfl) rfl #[.int .i64 a0_0, .int .i64 1, .int .i64 1048576] rfl mS ?_; (with_reducible refine (backoff_in.calls a0_0 1 1048576 false _ A2.out).mono ?_); rintro e w' ⟨rfl, ⟨nd, rfl⟩⟩; refine ⟨_, rfl, ?_⟩))
  go_ret
  exact ⟨by first | rfl | (simp [errW_none, errW_some] <;> rfl) | (simp [*, errW_none, errW_some] <;> rfl), by repeat (first | (with_reducible first | exact HB.out | apply below_alloc | apply pw_below_drewN | apply below_drew1 | refine below_set ?_ GE320.out) | exact HB.out)⟩
end Go.Proofs.YtjfknmlchdifjaaGreatDoorQ.P
namespace Go.Proofs.YtjfknmlchdifjaaGreatDoor
open Go.RowKit Go.ChangeShapes Go.WideShapes Go.ChangeAt
theorem add_off (b o j : Nat) : (⟨b, o, none⟩ : Addr).add j = ⟨b, o + j, none⟩ := by unfold Addr.add; split <;> simp_all
section
variable {H : Type} {enc : TypeId × Value → H} {P : Program} {W : World} {r : Reach} {base bb : Nat} {spare : Nat → Bool} {held : Bool} {t e : TypeId} {v : Value} {d : DataW H} {p : List MemPlace}
theorem cell_spot {a : Addr} {u : Value} (h : W.cell? a = some u) : a.spot = none := by
  unfold World.cell? at h
  split at h
  · split at h
    · cases h
    · rename_i hs
      cases hsp : a.spot with
      | none => rfl
      | some x => simp [hsp] at hs
  · cases h
end
end Go.Proofs.YtjfknmlchdifjaaGreatDoor
namespace Go.Proofs.YtjfknmlchdifjaaGreatDoor
open Go.RowKit Go.Proofs.YtjfknmlchdifjaaGreatDoorW.PrintWords
theorem flat_get? {α : Type} {en : α → List Value} {sz : Nat} (hsz : ∀ x, (en x).length = sz) (h0 : 0 < sz) (xs : List α) (t : Nat) (u : Value) (hu : (xs.flatMap en)[t]? = some u) :
    ∃ h : t / sz < xs.length, (en xs[t / sz])[t % sz]? = some u := by
  have hl : t < (xs.flatMap en).length := (List.getElem?_eq_some_iff.1 hu).1
  rw [flat_len hsz] at hl
  have h1 : t / sz < xs.length := (Nat.div_lt_iff_lt_mul h0).2 hl
  refine ⟨h1, ?_⟩
  have := flat_get hsz xs (t / sz) (t % sz) h1 (Nat.mod_lt _ h0)
  rw [Nat.div_add_mod'] at this
  rw [← this, hu]
section
variable {α β : Type} {d : Kd α} {en : β → List Value} {f : α → β} {w W : World} {A : Option Addr} {c g cap n sz B : Nat} {e : TypeId} {xs : List α} {cells : List Value} {v : Value}
theorem slat_of_C (hK : ∀ {w : World} {x : α} {cs : List Value}, d.K w x cs → cs = en (f x)) (hsz : ∀ y, (en y).length = d.sz) (h0 : 0 < d.sz) (h : d.C w A xs.length xs) (hc : xs.length ≤ c) :
    SlAt w (.slice A xs.length c) d.sz xs.length ((xs.map f).flatMap en) := by
  obtain ⟨_, hm, hr⟩ := h
  refine ⟨by rw [flat_len hsz, List.length_map], A, c, rfl, hc, by unfold maxLen; omega, ?_⟩
  rcases Nat.eq_zero_or_pos xs.length with hz | hz
  · exact .inl hz
  · right
    obtain ⟨ad, rfl, hcell⟩ := hr hz
    have hget : ∀ t u, ((xs.map f).flatMap en)[t]? = some u → w.cell? (ad.add t) = some u := by
      intro t u hu
      obtain ⟨h1, h2⟩ := flat_get? hsz h0 _ t u hu
      rw [List.length_map] at h1
      obtain ⟨cs, _, hk, hcs⟩ := hcell (t / d.sz) xs[t / d.sz] (List.getElem?_eq_getElem h1)
      have := hcs (t % d.sz) u (by rw [hK hk]; simpa using h2)
      rwa [Nat.div_add_mod'] at this
    have hfl : 0 < ((xs.map f).flatMap en).length := by rw [flat_len hsz, List.length_map]; exact Nat.mul_pos hz h0
    have h1 := hget 0 _ (List.getElem?_eq_getElem hfl)
    have ha0 : ad.add 0 = ad := by simp [Addr.add]
    rw [ha0] at h1
    have hsp := cell_spot h1
    obtain ⟨b, o, s⟩ := ad
    simp only at hsp
    subst hsp
    refine ⟨b, o, rfl, World.block_lt_of_cell? _ _ h1, fun j u hu => ?_⟩
    have := hget j u hu
    rwa [add_off] at this
theorem R_of_own {g : β → α} (hM : ∀ (w : World) (b : Nat) (ok : Nat → Prop) (y : β), d.M w b ok (g y) (en y)) (hsz : ∀ y, (en y).length = d.sz) {ys : List β} (h : w.ownsRow B e d.sz v ys.length (ys.flatMap en)) :
    d.R e w B (fun _ => True) v (ys.map g) := by
  refine ⟨fun _ _ => trivial, ys.flatMap en, by rw [List.length_map]; exact h, by rw [flat_len hsz, List.length_map], fun j p hj => ?_⟩
  rw [List.getElem?_map] at hj
  obtain ⟨y, hy, rfl⟩ := Option.map_eq_some_iff.1 hj
  obtain ⟨hj1, hj2⟩ := List.getElem?_eq_some_iff.1 hy
  have : ((ys.flatMap en).drop (j * d.sz)).take d.sz = en y := by
    apply List.ext_getElem?
    intro i
    rw [List.getElem?_take]
    split
    · rename_i hi
      rw [List.getElem?_drop, flat_get hsz ys j i hj1 hi, hj2]
    · rename_i hi
      rw [List.getElem?_eq_none (by rw [hsz]; omega)]
  rw [this]
  exact hM _ _ _ _
end
end Go.Proofs.YtjfknmlchdifjaaGreatDoor
namespace Go.Proofs.YtjfknmlchdifjaaGreatDoorQ.P
open Go.RowKit Go.Proofs.YtjfknmlchdifjaaGreatDoorW.PrintWords Go.Proofs.YtjfknmlchdifjaaGreatDoor
theorem if_some {α : Type} {b : Bool} {x y : α} (h : (if b = true then some x else none) = some y) : b = true ∧ x = y := by
  split at h
  · exact ⟨‹_›, Option.some.inj h⟩
  · cases h
end Go.Proofs.YtjfknmlchdifjaaGreatDoorQ.P
namespace Go.Proofs
open Go.Shelf
def Tryz.lays137_ren : Go.Shelf.Ren := ⟨fun | 137 => 123 | 217 => 151 | 266 => 178 | n => n, fun | 9 => 9 | 5 => 5 | 3 => 3 | n => n, fun | n => n⟩
theorem Tryz.lays137 : Go.Proofs.Lays.n137 Tryz.prog Tryz.lays137_ren := {
  mixed := by kernel_rfl
  f137 := Tryz.func123.trans (congrArg some (by kernel_rfl))
  f217 := Tryz.func151.trans (congrArg some (by kernel_rfl))
  f266 := Tryz.func178.trans (congrArg some (by kernel_rfl))
  t3 := Tryz.underlying3
  a3 := Tryz.isAgg3
  z3 := Tryz.sizeOf3
  v3 := Tryz.zeroValue3
  t5 := Tryz.underlying5
  a5 := Tryz.isAgg5
  z5 := Tryz.sizeOf5
  v5 := Tryz.zeroValue5
  t9 := Tryz.underlying9
  a9 := Tryz.isAgg9
  z9 := Tryz.sizeOf9
  v9 := Tryz.zeroValue9 }
open Go.RowKit in
theorem Tryz.strings_IndexByte (s : ByteArray) (c : Int) (w : World) :
    Calls Tryz.prog 123 #[.string s, .int .u8 c] w fun e w' => e = .returned (.int .i64 (Lib.indexByte s.data.toList c.toNat.toUInt8)) ∧ w' = w := Any.strings_IndexByte Tryz.lays137 s c w
def Tryz.laysM171_ren : Go.Shelf.Ren := ⟨fun | 171 => 45 | 243 => 86 | 246 => 127 | 283 => 152 | 284 => 153 | 285 => 154 | 286 => 155 | 129 => 172 | 317 => 179 | 318 => 180 | 319 => 181 | 320 => 182 | 337 => 192 | 338 => 193 | n => n, fun | 3 => 3 | 9 => 9 | 2 => 2 | 4 => 4 | 171 => 181 | 0 => 0 | 53 => 182 | 37 => 96 | 5 => 5 | 173 => 185 | 212 => 205 | 51 => 197 | 20 => 20 | 213 => 206 | 46 => 160 | 232 => 231 | 233 => 232 | n => n, fun | 17 => 1 | 18 => 6 | 19 => 7 | n => n⟩
theorem Tryz.laysM171 : Go.Proofs.LaysM.n171 Tryz.prog Tryz.laysM171_ren := {
  mixed := by kernel_rfl
  f129 := Tryz.func172.trans (congrArg some (by kernel_rfl))
  f171 := Tryz.func45.trans (congrArg some (by kernel_rfl))
  f243 := Tryz.func86.trans (congrArg some (by kernel_rfl))
  f246 := Tryz.func127.trans (congrArg some (by kernel_rfl))
  f283 := Tryz.func152.trans (congrArg some (by kernel_rfl))
  f284 := Tryz.func153.trans (congrArg some (by kernel_rfl))
  f285 := Tryz.func154.trans (congrArg some (by kernel_rfl))
  f286 := Tryz.func155.trans (congrArg some (by kernel_rfl))
  f317 := Tryz.func179.trans (congrArg some (by kernel_rfl))
  f318 := Tryz.func180.trans (congrArg some (by kernel_rfl))
  f319 := Tryz.func181.trans (congrArg some (by kernel_rfl))
  f320 := Tryz.func182.trans (congrArg some (by kernel_rfl))
  f337 := Tryz.func192.trans (congrArg some (by kernel_rfl))
  f338 := Tryz.func193.trans (congrArg some (by kernel_rfl))
  t0 := Tryz.underlying0
  a0 := Tryz.isAgg0
  z0 := Tryz.sizeOf0
  v0 := Tryz.zeroValue0
  t2 := Tryz.underlying2
  a2 := Tryz.isAgg2
  z2 := Tryz.sizeOf2
  v2 := Tryz.zeroValue2
  t3 := Tryz.underlying3
  a3 := Tryz.isAgg3
  z3 := Tryz.sizeOf3
  v3 := Tryz.zeroValue3
  t4 := Tryz.underlying4
  a4 := Tryz.isAgg4
  z4 := Tryz.sizeOf4
  v4 := Tryz.zeroValue4
  t5 := Tryz.underlying5
  a5 := Tryz.isAgg5
  z5 := Tryz.sizeOf5
  v5 := Tryz.zeroValue5
  t9 := Tryz.underlying9
  a9 := Tryz.isAgg9
  z9 := Tryz.sizeOf9
  v9 := Tryz.zeroValue9
  t20 := Tryz.underlying20
  a20 := Tryz.isAgg20
  z20 := Tryz.sizeOf20
  v20 := Tryz.zeroValue20
  t37 := Tryz.underlying96
  a37 := Tryz.isAgg96
  z37 := Tryz.sizeOf96
  v37 := Tryz.zeroValue96
  t46 := Tryz.underlying160
  a46 := Tryz.isAgg160
  z46 := Tryz.sizeOf160
  v46 := Tryz.zeroValue160
  t51 := Tryz.underlying197
  a51 := Tryz.isAgg197
  z51 := Tryz.sizeOf197
  v51 := Tryz.zeroValue197
  t53 := Tryz.underlying182
  a53 := Tryz.isAgg182
  z53 := Tryz.sizeOf182
  v53 := Tryz.zeroValue182
  t171 := Tryz.underlying181
  a171 := Tryz.isAgg181
  z171 := Tryz.sizeOf181
  v171 := Tryz.zeroValue181
  t173 := Tryz.underlying185
  a173 := Tryz.isAgg185
  z173 := Tryz.sizeOf185
  v173 := Tryz.zeroValue185
  t212 := Tryz.underlying205
  a212 := Tryz.isAgg205
  z212 := Tryz.sizeOf205
  v212 := Tryz.zeroValue205
  t213 := Tryz.underlying206
  a213 := Tryz.isAgg206
  z213 := Tryz.sizeOf206
  t232 := Tryz.underlying231
  a232 := Tryz.isAgg231
  z232 := Tryz.sizeOf231
  v232 := Tryz.zeroValue231
  t233 := Tryz.underlying232
  a233 := Tryz.isAgg232
  z233 := Tryz.sizeOf232
  v233 := Tryz.zeroValue232
  g17 := by kernel_rfl
  g18 := by kernel_rfl
  g19 := by kernel_rfl
  i0 := by kernel_rfl
  i2 := by kernel_rfl
  i3 := by kernel_rfl
  i4 := by kernel_rfl
  i5 := by kernel_rfl
  i9 := by kernel_rfl
  i20 := by kernel_rfl
  i37 := by kernel_rfl
  i46 := by kernel_rfl
  i51 := by kernel_rfl
  i53 := by kernel_rfl
  i171 := by kernel_rfl
  i173 := by kernel_rfl
  i212 := by kernel_rfl
  i232 := by kernel_rfl
  i233 := by kernel_rfl
  m17 := by kernel_rfl
  m18 := by kernel_rfl
  m19 := by kernel_rfl }
open Go.RowKit Go.Sort Go.Lib in
theorem Tryz.strconv_Itoa (n : Int) (h0 : -9223372036854775808 ≤ n) (h1 : n ≤ 9223372036854775807) (w : World) (htab : Lib.TabIs Tryz.prog w "internal/strconv.uint64pow10" .u64 Lib.pow10Tab) :
    Calls Tryz.prog 45 #[.int .i64 n] w fun e w' => e = .returned (.string ⟨(Lib.itoa n).toArray⟩) ∧ ∃ k os, w' = grow (w.drewN k) os := Any.strconv_Itoa Tryz.laysM171 n h0 h1 w htab
def Tryz.laysC172_ren : Go.Shelf.Ren := ⟨fun | 172 => 122 | 244 => 149 | 245 => 150 | 247 => 173 | 279 => 174 | 280 => 175 | 281 => 176 | 282 => 177 | 287 => 189 | 316 => 190 | 171 => 45 | 205 => 191 | 321 => 195 | 322 => 196 | 243 => 86 | 246 => 127 | 283 => 152 | 284 => 153 | 285 => 154 | 286 => 155 | 129 => 172 | 317 => 179 | 318 => 180 | 319 => 181 | 320 => 182 | 337 => 192 | 338 => 193 | n => n, fun | 9 => 9 | 3 => 3 | 75 => 100 | 76 => 101 | 4 => 4 | 5 => 5 | 167 => 198 | 37 => 96 | 0 => 0 | 85 => 199 | 2 => 2 | 168 => 201 | 53 => 182 | 175 => 218 | 46 => 160 | 210 => 222 | 127 => 139 | 145 => 230 | 143 => 228 | 21 => 21 | 171 => 181 | 173 => 185 | 212 => 205 | 51 => 197 | 20 => 20 | 213 => 206 | 232 => 231 | 233 => 232 | 80 => 104 | n => n, fun | 15 => 4 | 16 => 5 | 17 => 1 | 18 => 6 | 19 => 7 | n => n⟩
theorem Tryz.laysC172 : Go.Proofs.LaysC.n172 Tryz.prog Tryz.laysC172_ren := {
  mixed := by kernel_rfl
  f129 := Tryz.func172.trans (congrArg some (by kernel_rfl))
  f171 := Tryz.func45.trans (congrArg some (by kernel_rfl))
  f172 := Tryz.func122.trans (congrArg some (by kernel_rfl))
  f205 := Tryz.func191.trans (congrArg some (by kernel_rfl))
  f243 := Tryz.func86.trans (congrArg some (by kernel_rfl))
  f244 := Tryz.func149.trans (congrArg some (by kernel_rfl))
  f245 := Tryz.func150.trans (congrArg some (by kernel_rfl))
  f246 := Tryz.func127.trans (congrArg some (by kernel_rfl))
  f247 := Tryz.func173.trans (congrArg some (by kernel_rfl))
  f279 := Tryz.func174.trans (congrArg some (by kernel_rfl))
  f280 := Tryz.func175.trans (congrArg some (by kernel_rfl))
  f281 := Tryz.func176.trans (congrArg some (by kernel_rfl))
  f282 := Tryz.func177.trans (congrArg some (by kernel_rfl))
  f283 := Tryz.func152.trans (congrArg some (by kernel_rfl))
  f284 := Tryz.func153.trans (congrArg some (by kernel_rfl))
  f285 := Tryz.func154.trans (congrArg some (by kernel_rfl))
  f286 := Tryz.func155.trans (congrArg some (by kernel_rfl))
  f287 := Tryz.func189.trans (congrArg some (by kernel_rfl))
  f316 := Tryz.func190.trans (congrArg some (by kernel_rfl))
  f317 := Tryz.func179.trans (congrArg some (by kernel_rfl))
  f318 := Tryz.func180.trans (congrArg some (by kernel_rfl))
  f319 := Tryz.func181.trans (congrArg some (by kernel_rfl))
  f320 := Tryz.func182.trans (congrArg some (by kernel_rfl))
  f321 := Tryz.func195.trans (congrArg some (by kernel_rfl))
  f322 := Tryz.func196.trans (congrArg some (by kernel_rfl))
  f337 := Tryz.func192.trans (congrArg some (by kernel_rfl))
  f338 := Tryz.func193.trans (congrArg some (by kernel_rfl))
  t0 := Tryz.underlying0
  a0 := Tryz.isAgg0
  z0 := Tryz.sizeOf0
  v0 := Tryz.zeroValue0
  t2 := Tryz.underlying2
  a2 := Tryz.isAgg2
  z2 := Tryz.sizeOf2
  v2 := Tryz.zeroValue2
  t3 := Tryz.underlying3
  a3 := Tryz.isAgg3
  z3 := Tryz.sizeOf3
  v3 := Tryz.zeroValue3
  t4 := Tryz.underlying4
  a4 := Tryz.isAgg4
  z4 := Tryz.sizeOf4
  v4 := Tryz.zeroValue4
  t5 := Tryz.underlying5
  a5 := Tryz.isAgg5
  z5 := Tryz.sizeOf5
  v5 := Tryz.zeroValue5
  t9 := Tryz.underlying9
  a9 := Tryz.isAgg9
  z9 := Tryz.sizeOf9
  v9 := Tryz.zeroValue9
  t20 := Tryz.underlying20
  a20 := Tryz.isAgg20
  z20 := Tryz.sizeOf20
  v20 := Tryz.zeroValue20
  t21 := Tryz.underlying21
  a21 := Tryz.isAgg21
  z21 := Tryz.sizeOf21
  v21 := Tryz.zeroValue21
  t37 := Tryz.underlying96
  a37 := Tryz.isAgg96
  z37 := Tryz.sizeOf96
  v37 := Tryz.zeroValue96
  t46 := Tryz.underlying160
  a46 := Tryz.isAgg160
  z46 := Tryz.sizeOf160
  v46 := Tryz.zeroValue160
  t51 := Tryz.underlying197
  a51 := Tryz.isAgg197
  z51 := Tryz.sizeOf197
  v51 := Tryz.zeroValue197
  t53 := Tryz.underlying182
  a53 := Tryz.isAgg182
  z53 := Tryz.sizeOf182
  v53 := Tryz.zeroValue182
  t75 := Tryz.underlying100
  a75 := Tryz.isAgg100
  z75 := Tryz.sizeOf100
  v75 := Tryz.zeroValue100
  t76 := Tryz.underlying101
  a76 := Tryz.isAgg101
  z76 := Tryz.sizeOf101
  v76 := Tryz.zeroValue101
  t85 := Tryz.underlying199
  a85 := Tryz.isAgg199
  z85 := Tryz.sizeOf199
  v85 := Tryz.zeroValue199
  t127 := Tryz.underlying139
  a127 := Tryz.isAgg139
  z127 := Tryz.sizeOf139
  v127 := Tryz.zeroValue139
  t143 := Tryz.underlying228
  a143 := Tryz.isAgg228
  z143 := Tryz.sizeOf228
  v143 := Tryz.zeroValue228
  t145 := Tryz.underlying230
  a145 := Tryz.isAgg230
  z145 := Tryz.sizeOf230
  v145 := Tryz.zeroValue230
  t167 := Tryz.underlying198
  a167 := Tryz.isAgg198
  z167 := Tryz.sizeOf198
  v167 := Tryz.zeroValue198
  t168 := Tryz.underlying201
  a168 := Tryz.isAgg201
  z168 := Tryz.sizeOf201
  v168 := Tryz.zeroValue201
  t171 := Tryz.underlying181
  a171 := Tryz.isAgg181
  z171 := Tryz.sizeOf181
  v171 := Tryz.zeroValue181
  t173 := Tryz.underlying185
  a173 := Tryz.isAgg185
  z173 := Tryz.sizeOf185
  v173 := Tryz.zeroValue185
  t175 := Tryz.underlying218
  a175 := Tryz.isAgg218
  z175 := Tryz.sizeOf218
  v175 := Tryz.zeroValue218
  t210 := Tryz.underlying222
  a210 := Tryz.isAgg222
  z210 := Tryz.sizeOf222
  v210 := Tryz.zeroValue222
  t212 := Tryz.underlying205
  a212 := Tryz.isAgg205
  z212 := Tryz.sizeOf205
  v212 := Tryz.zeroValue205
  t213 := Tryz.underlying206
  a213 := Tryz.isAgg206
  z213 := Tryz.sizeOf206
  t232 := Tryz.underlying231
  a232 := Tryz.isAgg231
  z232 := Tryz.sizeOf231
  v232 := Tryz.zeroValue231
  t233 := Tryz.underlying232
  a233 := Tryz.isAgg232
  z233 := Tryz.sizeOf232
  v233 := Tryz.zeroValue232
  g15 := by kernel_rfl
  g16 := by kernel_rfl
  g17 := by kernel_rfl
  g18 := by kernel_rfl
  g19 := by kernel_rfl
  t80 := Tryz.underlying104
  a80 := Tryz.isAgg104
  z80 := Tryz.sizeOf104
  v80 := Tryz.zeroValue104
  i0 := by kernel_rfl
  i2 := by kernel_rfl
  i3 := by kernel_rfl
  i4 := by kernel_rfl
  i5 := by kernel_rfl
  i9 := by kernel_rfl
  i20 := by kernel_rfl
  i21 := by kernel_rfl
  i37 := by kernel_rfl
  i46 := by kernel_rfl
  i51 := by kernel_rfl
  i53 := by kernel_rfl
  i75 := by kernel_rfl
  i76 := by kernel_rfl
  i80 := by kernel_rfl
  i85 := by kernel_rfl
  i127 := by kernel_rfl
  i143 := by kernel_rfl
  i145 := by kernel_rfl
  i167 := by kernel_rfl
  i168 := by kernel_rfl
  i171 := by kernel_rfl
  i173 := by kernel_rfl
  i175 := by kernel_rfl
  i210 := by kernel_rfl
  i212 := by kernel_rfl
  i232 := by kernel_rfl
  i233 := by kernel_rfl
  m15 := by kernel_rfl
  m16 := by kernel_rfl
  m17 := by kernel_rfl
  m18 := by kernel_rfl
  m19 := by kernel_rfl
  c0 := by kernel_rfl
  c2 := by kernel_rfl
  c3 := by kernel_rfl
  c4 := by kernel_rfl
  c5 := by kernel_rfl
  c9 := by kernel_rfl
  c20 := by kernel_rfl
  c21 := by kernel_rfl
  c37 := by kernel_rfl
  c46 := by kernel_rfl
  c51 := by kernel_rfl
  c53 := by kernel_rfl
  c75 := by kernel_rfl
  c76 := by kernel_rfl
  c80 := by kernel_rfl
  c85 := by kernel_rfl
  c127 := by kernel_rfl
  c143 := by kernel_rfl
  c145 := by kernel_rfl
  c167 := by kernel_rfl
  c168 := by kernel_rfl
  c171 := by kernel_rfl
  c173 := by kernel_rfl
  c175 := by kernel_rfl
  c210 := by kernel_rfl
  c212 := by kernel_rfl
  c213 := by kernel_rfl
  c232 := by kernel_rfl
  c233 := by kernel_rfl }
open Go.RowKit in
theorem Tryz.strconv_Atoi_ok (s : ByteArray) (hmax : s.size ≤ 9223372036854775806) (v : Int) (h : Lib.atoiAll s.data.toList = .ok v) (w : World) :
    Calls Tryz.prog 122 #[.string s] w fun e w' => e = .returned (.tuple #[.int .i64 v, .nilIface]) ∧ (w' = w ∨ ∃ t, w' = Lib.bytesWorld w 5 t) := Any.strconv_Atoi_ok Tryz.laysC172 s hmax v h w
open Go.RowKit in
theorem Tryz.strconv_Atoi_range (s : ByteArray) (hlim : s.size ≤ 281474976710656) (h : Lib.atoiAll s.data.toList = .range) (ev : Value) (w : World) (hv : w.cell? ⟨5, 0, none⟩ = some ev) (hev : ev = .nilIface ∨ ∃ te pe, ev = .iface te pe) :
    Calls Tryz.prog 122 #[.string s] w fun e w' => ∃ N, e = .returned (.tuple #[.int .i64 (Lib.atoiSat s.data.toList), .iface 201 (.pointer (some ⟨N, 0, none⟩))]) ∧ w.heap.size ≤ N ∧ w'.heap[N]? = some (.cells #[.string ⟨#[65, 116, 111, 105]⟩, .string s, ev] 222 (0, 0)) ∧ Below w.heap.size w w' := Any.strconv_Atoi_range Tryz.laysC172 s hlim h ev w hv hev
def Tryz.lays102_ren : Go.Shelf.Ren := ⟨fun | 102 => 54 | 209 => 96 | 207 => 134 | n => n, fun | 9 => 9 | 4 => 4 | 3 => 3 | n => n, fun | n => n⟩
theorem Tryz.lays102 : Go.Proofs.Lays.n102 Tryz.prog Tryz.lays102_ren := {
  mixed := by kernel_rfl
  f102 := Tryz.func54.trans (congrArg some (by kernel_rfl))
  f207 := Tryz.func134.trans (congrArg some (by kernel_rfl))
  f209 := Tryz.func96.trans (congrArg some (by kernel_rfl))
  t3 := Tryz.underlying3
  a3 := Tryz.isAgg3
  z3 := Tryz.sizeOf3
  v3 := Tryz.zeroValue3
  t4 := Tryz.underlying4
  a4 := Tryz.isAgg4
  z4 := Tryz.sizeOf4
  v4 := Tryz.zeroValue4
  t9 := Tryz.underlying9
  a9 := Tryz.isAgg9
  z9 := Tryz.sizeOf9
  v9 := Tryz.zeroValue9 }
open Go.RowKit Go.Lib in
theorem Tryz.strings_TrimSuffix (s p : ByteArray) (w : World) (hs : s.size ≤ 9223372036854775807) :
    Calls Tryz.prog 54 #[.string s, .string p] w fun e w' => e = .returned (.string ⟨(Lib.trimSuffix s.data.toList p.data.toList).toArray⟩) ∧ w' = w := Any.strings_TrimSuffix Tryz.lays102 s p w hs
def Tryz.lays146_ren : Go.Shelf.Ren := ⟨fun | 146 => 34 | 221 => 73 | 268 => 116 | 138 => 117 | 143 => 118 | 195 => 143 | 197 => 144 | 218 => 145 | 219 => 146 | 260 => 161 | 217 => 151 | 225 => 126 | 224 => 125 | 267 => 162 | 266 => 178 | 314 => 183 | n => n, fun | 9 => 9 | 31 => 67 | 3 => 3 | 4 => 4 | 0 => 0 | 105 => 176 | 21 => 21 | 5 => 5 | 46 => 160 | 119 => 207 | 139 => 210 | 138 => 209 | 146 => 211 | 51 => 197 | n => n, fun | 1 => 0 | 3 => 2 | 4 => 3 | n => n⟩
theorem Tryz.lays146 : Go.Proofs.Lays.n146 Tryz.prog Tryz.lays146_ren := {
  mixed := by kernel_rfl
  f138 := Tryz.func117.trans (congrArg some (by kernel_rfl))
  f143 := Tryz.func118.trans (congrArg some (by kernel_rfl))
  f146 := Tryz.func34.trans (congrArg some (by kernel_rfl))
  f195 := Tryz.func143.trans (congrArg some (by kernel_rfl))
  f197 := Tryz.func144.trans (congrArg some (by kernel_rfl))
  f217 := Tryz.func151.trans (congrArg some (by kernel_rfl))
  f218 := Tryz.func145.trans (congrArg some (by kernel_rfl))
  f219 := Tryz.func146.trans (congrArg some (by kernel_rfl))
  f221 := Tryz.func73.trans (congrArg some (by kernel_rfl))
  f224 := Tryz.func125.trans (congrArg some (by kernel_rfl))
  f225 := Tryz.func126.trans (congrArg some (by kernel_rfl))
  f260 := Tryz.func161.trans (congrArg some (by kernel_rfl))
  f266 := Tryz.func178.trans (congrArg some (by kernel_rfl))
  f267 := Tryz.func162.trans (congrArg some (by kernel_rfl))
  f268 := Tryz.func116.trans (congrArg some (by kernel_rfl))
  f314 := Tryz.func183.trans (congrArg some (by kernel_rfl))
  t0 := Tryz.underlying0
  a0 := Tryz.isAgg0
  z0 := Tryz.sizeOf0
  v0 := Tryz.zeroValue0
  t3 := Tryz.underlying3
  a3 := Tryz.isAgg3
  z3 := Tryz.sizeOf3
  v3 := Tryz.zeroValue3
  t4 := Tryz.underlying4
  a4 := Tryz.isAgg4
  z4 := Tryz.sizeOf4
  v4 := Tryz.zeroValue4
  t5 := Tryz.underlying5
  a5 := Tryz.isAgg5
  z5 := Tryz.sizeOf5
  v5 := Tryz.zeroValue5
  t9 := Tryz.underlying9
  a9 := Tryz.isAgg9
  z9 := Tryz.sizeOf9
  v9 := Tryz.zeroValue9
  t21 := Tryz.underlying21
  a21 := Tryz.isAgg21
  z21 := Tryz.sizeOf21
  v21 := Tryz.zeroValue21
  t31 := Tryz.underlying67
  a31 := Tryz.isAgg67
  z31 := Tryz.sizeOf67
  v31 := Tryz.zeroValue67
  t46 := Tryz.underlying160
  a46 := Tryz.isAgg160
  z46 := Tryz.sizeOf160
  v46 := Tryz.zeroValue160
  t51 := Tryz.underlying197
  a51 := Tryz.isAgg197
  z51 := Tryz.sizeOf197
  v51 := Tryz.zeroValue197
  t105 := Tryz.underlying176
  a105 := Tryz.isAgg176
  z105 := Tryz.sizeOf176
  v105 := Tryz.zeroValue176
  t119 := Tryz.underlying207
  a119 := Tryz.isAgg207
  z119 := Tryz.sizeOf207
  t138 := Tryz.underlying209
  a138 := Tryz.isAgg209
  z138 := Tryz.sizeOf209
  v138 := Tryz.zeroValue209
  t139 := Tryz.underlying210
  a139 := Tryz.isAgg210
  z139 := Tryz.sizeOf210
  v139 := Tryz.zeroValue210
  t146 := Tryz.underlying211
  a146 := Tryz.isAgg211
  z146 := Tryz.sizeOf211
  v146 := Tryz.zeroValue211
  g1 := by kernel_rfl
  g3 := by kernel_rfl
  g4 := by kernel_rfl }
open Go.RowKit Go.Lib in
theorem Tryz.strings_Split (s sep : ByteArray) (m : Int) (w : World) (hs : s.size < 4294967281) (hm : w.cell? ⟨0, 0, none⟩ = some (.int .i64 m)) (h1 : 1 ≤ sep.size) :
    Calls Tryz.prog 34 #[.string s, .string sep] w fun e w' =>
      e = .returned (.slice (some ⟨w.heap.size, 0, none⟩) (Lib.countB s sep + 1) (Lib.countB s sep + 1)) ∧ w' = w.alloc (.cells ((Lib.splitB sep 0 (Lib.countB s sep) s).map Value.string).toArray 9) := Any.strings_Split Tryz.lays146 (by kernel_rfl) s sep m w hs hm h1
def Tryz.lays152_ren : Go.Shelf.Ren := ⟨fun | 152 => 80 | 137 => 123 | 119 => 124 | 224 => 125 | 225 => 126 | 217 => 151 | 266 => 178 | n => n, fun | 9 => 9 | 21 => 21 | 3 => 3 | 4 => 4 | 5 => 5 | 0 => 0 | 46 => 160 | n => n, fun | n => n⟩
theorem Tryz.lays152 : Go.Proofs.Lays.n152 Tryz.prog Tryz.lays152_ren := {
  mixed := by kernel_rfl
  f119 := Tryz.func124.trans (congrArg some (by kernel_rfl))
  f137 := Tryz.func123.trans (congrArg some (by kernel_rfl))
  f152 := Tryz.func80.trans (congrArg some (by kernel_rfl))
  f217 := Tryz.func151.trans (congrArg some (by kernel_rfl))
  f224 := Tryz.func125.trans (congrArg some (by kernel_rfl))
  f225 := Tryz.func126.trans (congrArg some (by kernel_rfl))
  f266 := Tryz.func178.trans (congrArg some (by kernel_rfl))
  t0 := Tryz.underlying0
  a0 := Tryz.isAgg0
  z0 := Tryz.sizeOf0
  v0 := Tryz.zeroValue0
  t3 := Tryz.underlying3
  a3 := Tryz.isAgg3
  z3 := Tryz.sizeOf3
  v3 := Tryz.zeroValue3
  t4 := Tryz.underlying4
  a4 := Tryz.isAgg4
  z4 := Tryz.sizeOf4
  v4 := Tryz.zeroValue4
  t5 := Tryz.underlying5
  a5 := Tryz.isAgg5
  z5 := Tryz.sizeOf5
  v5 := Tryz.zeroValue5
  t9 := Tryz.underlying9
  a9 := Tryz.isAgg9
  z9 := Tryz.sizeOf9
  v9 := Tryz.zeroValue9
  t21 := Tryz.underlying21
  a21 := Tryz.isAgg21
  z21 := Tryz.sizeOf21
  v21 := Tryz.zeroValue21
  t46 := Tryz.underlying160
  a46 := Tryz.isAgg160
  z46 := Tryz.sizeOf160
  v46 := Tryz.zeroValue160 }
open Go.RowKit Go.Lib in
theorem Tryz.strings_IndexRune_ascii (s : ByteArray) (r : Int) (w : World) (h0 : 0 ≤ r) (h1 : r < 128) :
    Calls Tryz.prog 80 #[.string s, .int .i32 r] w fun e w' => e = .returned (.int .i64 (Lib.indexByte s.data.toList r.toNat.toUInt8)) ∧ w' = w := Any.strings_IndexRune_ascii Tryz.lays152 s r w h0 h1
def Tryz.lays226_ren : Go.Shelf.Ren := ⟨fun | 226 => 81 | n => n, fun | 3 => 3 | 4 => 4 | n => n, fun | n => n⟩
theorem Tryz.lays226 : Go.Proofs.Lays.n226 Tryz.prog Tryz.lays226_ren := {
  mixed := by kernel_rfl
  f226 := Tryz.func81.trans (congrArg some (by kernel_rfl))
  t3 := Tryz.underlying3
  a3 := Tryz.isAgg3
  z3 := Tryz.sizeOf3
  v3 := Tryz.zeroValue3
  t4 := Tryz.underlying4
  a4 := Tryz.isAgg4
  z4 := Tryz.sizeOf4
  v4 := Tryz.zeroValue4 }
open Go.RowKit Go.Lib in
theorem Tryz.strings_shouldUseASCIISet (n : Int) (w : World) :
    Calls Tryz.prog 81 #[.int .i64 n] w fun e w' => e = .returned (.bool (decide (8 < n))) ∧ w' = w := Any.strings_shouldUseASCIISet Tryz.lays226 n w
def Tryz.lays153_ren : Go.Shelf.Ren := ⟨fun | 153 => 40 | 152 => 80 | 226 => 81 | 227 => 82 | 228 => 83 | 137 => 123 | 119 => 124 | 224 => 125 | 225 => 126 | 217 => 151 | 266 => 178 | n => n, fun | 9 => 9 | 3 => 3 | 4 => 4 | 5 => 5 | 21 => 21 | 117 => 124 | 116 => 123 | 0 => 0 | 46 => 160 | 124 => 161 | n => n, fun | n => n⟩
theorem Tryz.lays153 : Go.Proofs.Lays.n153 Tryz.prog Tryz.lays153_ren := {
  mixed := by kernel_rfl
  f119 := Tryz.func124.trans (congrArg some (by kernel_rfl))
  f137 := Tryz.func123.trans (congrArg some (by kernel_rfl))
  f152 := Tryz.func80.trans (congrArg some (by kernel_rfl))
  f153 := Tryz.func40.trans (congrArg some (by kernel_rfl))
  f217 := Tryz.func151.trans (congrArg some (by kernel_rfl))
  f224 := Tryz.func125.trans (congrArg some (by kernel_rfl))
  f225 := Tryz.func126.trans (congrArg some (by kernel_rfl))
  f226 := Tryz.func81.trans (congrArg some (by kernel_rfl))
  f227 := Tryz.func82.trans (congrArg some (by kernel_rfl))
  f228 := Tryz.func83.trans (congrArg some (by kernel_rfl))
  f266 := Tryz.func178.trans (congrArg some (by kernel_rfl))
  t0 := Tryz.underlying0
  a0 := Tryz.isAgg0
  z0 := Tryz.sizeOf0
  v0 := Tryz.zeroValue0
  t3 := Tryz.underlying3
  a3 := Tryz.isAgg3
  z3 := Tryz.sizeOf3
  v3 := Tryz.zeroValue3
  t4 := Tryz.underlying4
  a4 := Tryz.isAgg4
  z4 := Tryz.sizeOf4
  v4 := Tryz.zeroValue4
  t5 := Tryz.underlying5
  a5 := Tryz.isAgg5
  z5 := Tryz.sizeOf5
  v5 := Tryz.zeroValue5
  t9 := Tryz.underlying9
  a9 := Tryz.isAgg9
  z9 := Tryz.sizeOf9
  v9 := Tryz.zeroValue9
  t21 := Tryz.underlying21
  a21 := Tryz.isAgg21
  z21 := Tryz.sizeOf21
  v21 := Tryz.zeroValue21
  t46 := Tryz.underlying160
  a46 := Tryz.isAgg160
  z46 := Tryz.sizeOf160
  v46 := Tryz.zeroValue160
  t116 := Tryz.underlying123
  a116 := Tryz.isAgg123
  z116 := Tryz.sizeOf123
  t117 := Tryz.underlying124
  a117 := Tryz.isAgg124
  z117 := Tryz.sizeOf124
  v117 := Tryz.zeroValue124
  t124 := Tryz.underlying161
  a124 := Tryz.isAgg161
  z124 := Tryz.sizeOf161
  v124 := Tryz.zeroValue161 }
open Go.RowKit Go.Lib in
theorem Tryz.strings_IndexAny_long (hv116 : ∀ w, (zeroValue 123).run Tryz.prog w = .ok (.agg (Array.replicate 256 (.bool false))) w) (s chars : ByteArray) (w : World) (h2 : 2 ≤ chars.size) (h8 : 8 < s.size) (hs : s.size < 4294967281) (hcs : chars.size < 4294967281) (hascii : ∀ (j : Nat) b, chars.data.toList[j]? = some b → b.toNat < 128) :
    Calls Tryz.prog 40 #[.string s, .string chars] w fun e w' => e = .returned (.int .i64 (Lib.indexAny s.data.toList chars.data.toList)) ∧ w' = ((w.alloc (.cells (Lib.setCells chars.data.toList) 123)).alloc (.cells (Lib.setCells chars.data.toList) 123)) := Any.strings_IndexAny_long Tryz.lays153 hv116 (by kernel_rfl) s chars w h2 h8 hs hcs hascii
open Go.RowKit Go.Lib in
theorem Tryz.strings_IndexAny (hv116 : ∀ w, (zeroValue 123).run Tryz.prog w = .ok (.agg (Array.replicate 256 (.bool false))) w) (s chars : ByteArray) (w : World) (hs : s.size < 4294967281) (hcs : chars.size < 4294967281) (has : ∀ (j : Nat) b, s.data.toList[j]? = some b → b.toNat < 128) (hac : ∀ (j : Nat) b, chars.data.toList[j]? = some b → b.toNat < 128) :
    Calls Tryz.prog 40 #[.string s, .string chars] w fun e w' => e = .returned (.int .i64 (Lib.indexAny s.data.toList chars.data.toList)) ∧ Below w.heap.size w w' := Any.strings_IndexAny Tryz.lays153 hv116 (by kernel_rfl) s chars w hs hcs has hac
def Tryz.lays109_ren : Go.Shelf.Ren := ⟨fun | 109 => 136 | n => n, fun | 31 => 67 | 9 => 9 | 3 => 3 | 0 => 0 | 4 => 4 | n => n, fun | n => n⟩
theorem Tryz.lays109 : Go.Proofs.Lays.n109 Tryz.prog Tryz.lays109_ren := {
  mixed := by kernel_rfl
  f109 := Tryz.func136.trans (congrArg some (by kernel_rfl))
  t0 := Tryz.underlying0
  a0 := Tryz.isAgg0
  z0 := Tryz.sizeOf0
  v0 := Tryz.zeroValue0
  t3 := Tryz.underlying3
  a3 := Tryz.isAgg3
  z3 := Tryz.sizeOf3
  v3 := Tryz.zeroValue3
  t4 := Tryz.underlying4
  a4 := Tryz.isAgg4
  z4 := Tryz.sizeOf4
  v4 := Tryz.zeroValue4
  t9 := Tryz.underlying9
  a9 := Tryz.isAgg9
  z9 := Tryz.sizeOf9
  v9 := Tryz.zeroValue9
  t31 := Tryz.underlying67
  a31 := Tryz.isAgg67
  z31 := Tryz.sizeOf67
  v31 := Tryz.zeroValue67 }
open Go.Lib in
theorem Tryz.slices_Index_string (b off n c : Nat) (zs : List ByteArray) (x : ByteArray) (w : World) (hz : n ≤ zs.length) (hbig : n ≤ 9223372036854775807) (hc : ∀ j, j < zs.length → w.cell? ⟨b, off + j, none⟩ = some (.string (zs.getD j ByteArray.empty))) :
    Calls Tryz.prog 136 #[.slice (some ⟨b, off, none⟩) n c, .string x] w fun e w' => e = .returned (.int .i64 (Lib.idxOfS (zs.take n) x)) ∧ w' = w := Any.slices_Index_string Tryz.lays109 b off n c zs x w hz hbig hc
open Go.Lib in
theorem Tryz.slices_Index_string_empty (a : Option Addr) (c : Nat) (x : ByteArray) (w : World) :
    Calls Tryz.prog 136 #[.slice a 0 c, .string x] w fun e w' => e = .returned (.int .i64 (Lib.idxOfS [] x)) ∧ w' = w := Any.slices_Index_string_empty Tryz.lays109 a c x w
def Tryz.lays110_ren : Go.Shelf.Ren := ⟨fun | 110 => 101 | 109 => 136 | n => n, fun | 31 => 67 | 9 => 9 | 4 => 4 | 3 => 3 | 0 => 0 | n => n, fun | n => n⟩
theorem Tryz.lays110 : Go.Proofs.Lays.n110 Tryz.prog Tryz.lays110_ren := {
  mixed := by kernel_rfl
  f109 := Tryz.func136.trans (congrArg some (by kernel_rfl))
  f110 := Tryz.func101.trans (congrArg some (by kernel_rfl))
  t0 := Tryz.underlying0
  a0 := Tryz.isAgg0
  z0 := Tryz.sizeOf0
  v0 := Tryz.zeroValue0
  t3 := Tryz.underlying3
  a3 := Tryz.isAgg3
  z3 := Tryz.sizeOf3
  v3 := Tryz.zeroValue3
  t4 := Tryz.underlying4
  a4 := Tryz.isAgg4
  z4 := Tryz.sizeOf4
  v4 := Tryz.zeroValue4
  t9 := Tryz.underlying9
  a9 := Tryz.isAgg9
  z9 := Tryz.sizeOf9
  v9 := Tryz.zeroValue9
  t31 := Tryz.underlying67
  a31 := Tryz.isAgg67
  z31 := Tryz.sizeOf67
  v31 := Tryz.zeroValue67 }
open Go.Lib in
theorem Tryz.slices_Contains_string (b off n c : Nat) (zs : List ByteArray) (x : ByteArray) (w : World) (hz : n ≤ zs.length) (hbig : n ≤ 9223372036854775807) (hc : ∀ j, j < zs.length → w.cell? ⟨b, off + j, none⟩ = some (.string (zs.getD j ByteArray.empty))) :
    Calls Tryz.prog 101 #[.slice (some ⟨b, off, none⟩) n c, .string x] w fun e w' => e = .returned (.bool (Lib.containsS (zs.take n) x)) ∧ w' = w := Any.slices_Contains_string Tryz.lays110 b off n c zs x w hz hbig hc
open Go.Lib in
theorem Tryz.slices_Contains_string_empty (a : Option Addr) (c : Nat) (x : ByteArray) (w : World) :
    Calls Tryz.prog 101 #[.slice a 0 c, .string x] w fun e w' => e = .returned (.bool false) ∧ w' = w := Any.slices_Contains_string_empty Tryz.lays110 a c x w
end Go.Proofs
namespace Go.Proofs.YtjfknmlchdifjaaGreatDoor
open Go.RowKit Go.Sort Go.Lib
attribute [local go_sem high] ext_size ext_cell ext_frozen alloc_cell alloc_frozen
instance : Inhabited Lab := ⟨⟨⟨#[]⟩, ⟨#[]⟩⟩⟩
end Go.Proofs.YtjfknmlchdifjaaGreatDoor
namespace Go.Proofs.YtjfknmlchdifjaaGreatDoor
open Go.RowKit
attribute [local go_sem high] ext_size ext_cell ext_frozen alloc_cell alloc_frozen
def LabsRes (w : World) (xs : List Lab) (k : Int) (e : Ending) (w' : World) : Prop := ∃ v, e = .returned (.tuple #[v, .int .i64 k]) ∧ SlAt w' v 2 xs.length (labsC xs) ∧ FreshV w.heap.size v ∧ Below w.heap.size w w'
def LabsOwn (w : World) (xs : List Lab) (k : Int) (e : Ending) (w' : World) : Prop := ∃ v, e = .returned (.tuple #[v, .int .i64 k]) ∧ w'.ownsRow w.heap.size 52 2 v xs.length (labsC xs) ∧ xs.length ≤ maxLen ∧ Below w.heap.size w w'
theorem LabsOwn.res {w : World} {xs : List Lab} {k : Int} {e : Ending} {w' : World} (h : LabsOwn w xs k e w') : LabsRes w xs k e w' := by
  obtain ⟨v, he, ho, hm, hb⟩ := h
  exact ⟨v, he, SlAt.of_own ho hm, FreshV.of_own ho, hb⟩
end Go.Proofs.YtjfknmlchdifjaaGreatDoor
namespace Go.Proofs.YtjfknmlchdifjaaGreatDoorQ.P
open Go.RowKit Go.Proofs.YtjfknmlchdifjaaGreatDoorW.PrintWords Go.Proofs.YtjfknmlchdifjaaGreatDoor
def toMat (x : S32) : Mat := ⟨x.f0, x.f1, x.f2⟩
def ofMat (x : Mat) : S32 := ⟨x.kind, x.name, x.value⟩
theorem mats_c {w : World} {A : Option Addr} {c : Nat} {xs : List S32} (h : Kd.C k32 w A xs.length xs) (hc : xs.length ≤ c) : SlAt w (.slice A xs.length c) 3 (xs.map toMat).length (matsC (xs.map toMat)) := by
  rw [List.length_map]
  exact slat_of_C (f := toMat) (en := matC) (fun h => k32_open h) (fun _ => rfl) (by decide) h hc
def matOkB (x : S32) : Bool := decide (x.f1.size ≤ maxLen) && decide (x.f2.size ≤ maxLen)
def matsOkB (xs : List S32) : Bool := xs.all matOkB
theorem mats_ok {xs : List S32} (h : matsOkB xs = true) : MatsOk (xs.map toMat) := by
  intro x hx
  obtain ⟨y, hy, rfl⟩ := List.mem_map.1 hx
  have := List.all_eq_true.1 h y hy
  simp only [matOkB, Bool.and_eq_true, decide_eq_true_eq] at this
  exact this
def label_Matcher.f (a0_0 : Int) (a0_1 : ByteArray) (a0_2 : ByteArray) : Option (Bool) := if matOkB ⟨a0_0, a0_1, a0_2⟩ = true then some (matB ⟨a0_0, a0_1, a0_2⟩) else none
theorem label_Matcher.calls (a0_0 : Int) (a0_1 : ByteArray) (a0_2 : ByteArray) (r : Bool) (w : World) (h : label_Matcher.f a0_0 a0_1 a0_2 = some r) :
    Calls Tryz.prog 41 #[.agg #[.int .i64 a0_0, .string a0_1, .string a0_2]] w fun e w' => e = .returned (.bool r) ∧ Below w.heap.size w w' := by
  obtain ⟨h1, rfl⟩ := if_some h
  simp only [matOkB, Bool.and_eq_true, decide_eq_true_eq] at h1
  exact matcher_any ⟨a0_0, a0_1, a0_2⟩ w h1.1 h1.2
end Go.Proofs.YtjfknmlchdifjaaGreatDoorQ.P
namespace Go.Proofs.YtjfknmlchdifjaaGreatDoorQ.P
open Go.RowKit Go.Proofs.YtjfknmlchdifjaaGreatDoorW.PrintWords Go.Proofs.YtjfknmlchdifjaaGreatDoorW.PrintLast Go.Proofs.YtjfknmlchdifjaaGreatDoorW.PrintMore
attribute [local go_sem] max2_int min2_int max_two min_two max_three min_three max_four min_four
def config_isReceiver.f (k : Nat) (a0_0 : ByteArray) (a0_1 : Int) (a0_2 : Int) (a0_3 : Int) (a0_4 : Int) (a0_5 : Int) (a0_6 : Int) (a0_7 : Int) (a0_8 : Int) : Option (Bool) := (breaker_New.f k a0_5 a0_6).bind fun bt325 => ((bucket_New.f a0_7 a0_8 0 0).bind fun bt332 => ((label_Matcher.f 3 a0_0 (⟨#[]⟩ : ByteArray)).bind fun t338 => (if t338 = true then (if a0_0.toList = ([105, 102] : List UInt8) then (some false) else ((backoff_Right.f a0_1 a0_2 a0_3).bind fun t339 => (if t339 = true then (if a0_4 ≥ 1 then (if a0_4 ≤ 100 then (if bt325.2.2.2.2.2 = 0 then (some (bt332.2.2.2.2 == 0)) else (some false)) else (some false)) else (some false)) else (some false)))) else (some false))))
set_option maxHeartbeats 8000000 in
set_option maxRecDepth 100000 in
theorem config_isReceiver.calls (k : Nat) (a0_0 : ByteArray) (a0_1 : Int) (a0_2 : Int) (a0_3 : Int) (a0_4 : Int) (a0_5 : Int) (a0_6 : Int) (a0_7 : Int) (a0_8 : Int) (r : Bool) (w : World) (h : config_isReceiver.f k a0_0 a0_1 a0_2 a0_3 a0_4 a0_5 a0_6 a0_7 a0_8 = some r) :
  Calls Tryz.prog 62 #[.agg #[.string a0_0, .int .i64 a0_1, .int .i64 a0_2, .int .i64 a0_3, .int .i64 a0_4, .int .i64 a0_5, .int .i64 a0_6, .int .i64 a0_7, .int .i64 a0_8]] w fun e w' => e = .returned (.bool r) ∧ Below w.heap.size w w' := by
 have hu90 := Tryz.underlying90
 have hu141 := Tryz.underlying141
 have hu145 := Tryz.underlying145
 have hu32 := Tryz.underlying32
 have hu88 := Tryz.underlying88
 have HB := aA (Below.refl w.heap.size w)
 have H : ((breaker_New.f k a0_5 a0_6).bind fun bt325 => ((bucket_New.f a0_7 a0_8 0 0).bind fun bt332 => ((label_Matcher.f 3 a0_0 (⟨#[]⟩ : ByteArray)).bind fun t338 => (if t338 = true then (if a0_0.toList = ([105, 102] : List UInt8) then (some false) else ((backoff_Right.f a0_1 a0_2 a0_3).bind fun t339 => (if t339 = true then (if a0_4 ≥ 1 then (if a0_4 ≤ 100 then (if bt325.2.2.2.2.2 = 0 then (some (bt332.2.2.2.2 == 0)) else (some false)) else (some false)) else (some false)) else (some false)))) else (some false))))) = some r := h
 clear h
 replace H := Option.bind_eq_some_iff.mp H
 obtain ⟨⟨t325, t326, t327, t328, t329, t330⟩, A20, H⟩ := H
 have A2 := aA A20
 clear A20
 replace H := Option.bind_eq_some_iff.mp H
 obtain ⟨⟨t332, t333, t334, t335, t336⟩, A30, H⟩ := H
 have A3 := aA A30
 clear A30
 replace H := Option.bind_eq_some_iff.mp H
 obtain ⟨t338, A40, H⟩ := H
 have A4 := aA A40
 clear A40
 by_cases c5 : t338 = true
 ·subst c5
  have H1 : (if a0_0.toList = ([105, 102] : List UInt8) then (some false) else ((backoff_Right.f a0_1 a0_2 a0_3).bind fun t339 => (if t339 = true then (if a0_4 ≥ 1 then (if a0_4 ≤ 100 then (if t330 = 0 then (some (t336 == 0)) else (some false)) else (some false)) else (some false)) else (some false)))) = some r := by rw [if_pos rfl] at H; exact H
  clear H
  have H := H1
  clear H1
  by_cases c6 : a0_0.toList = ([105, 102] : List UInt8)
  ·rw [if_pos c6] at H
   have c6b0 : (a0_0.toList == ([105, 102] : List UInt8)) = true := beq_iff_eq.mpr c6
   have c6b1 : (a0_0.toList != ([105, 102] : List UInt8)) = false := bne_eq_false_iff_eq.mpr c6
   clear c6
   obtain rfl := Option.some.inj H
   go_enter Tryz.func62, Tryz.ntmps62
   go_wp2_with (first | ((with_reducible refine gate_dst (N := 1) rfl ?_); refine box_event ?hg (N := 1) ?hd (cs := #[.string a0_0, .int .i64 a0_1, .int .i64 a0_2, .int .i64 a0_3, .int .i64 a0_4, .int .i64 a0_5, .int .i64 a0_6, .int .i64 a0_7, .int .i64 a0_8]) (t := 90) ?hr ?_; (case hd => rfl); (case hg => rfl); (case hr => first | (go_simp; done) | (go_simp; rfl)); intro gb324 hg w7 hbox hb; have n0_ := aA (below_step mB hb); have n1_ := aA (hbox); have n2_ := aA ((bZ hg mB)); have n3_ := aA ((bZ hg mB)); clear HB; have HB := n0_; have BK324 := n1_; have GW324 := n2_; have GE324 := n3_; clear n0_ n1_ n2_ n3_ hb hbox hg; obtain ⟨hcz8_0, hcz8_1, hcz8_2, hcz8_3, hcz8_4, hcz8_5, hcz8_6, hcz8_7, hcz8_8⟩ := bC9 BK324.out; obtain ⟨hfz8_0, hfz8_1, hfz8_2, hfz8_3, hfz8_4, hfz8_5, hfz8_6, hfz8_7, hfz8_8⟩ := bF9 BK324.out) | ((with_reducible refine gate_callee (f := 106) rfl ?_); refine goesL_ (some 13) rfl rfl Tryz.func106 (by kernel_rfl) rfl #[.int .i64 a0_5, .int .i64 a0_6] rfl mS ?_; (with_reducible refine (breaker_New.calls k a0_5 a0_6 t325 t326 t327 t328 t329 t330 _ A2.out).mono ?_); rintro e w9 ⟨rfl, hb⟩; refine ⟨_, rfl, ?_⟩; have n0_ := aA (bB BK324.out hb); have n1_ := aA (below_step (mD1 GE324.out) hb); clear BK324 HB; have BK324 := n0_; have HB := n1_; clear n0_ n1_; (try clear hb); (try clear hb2); (try clear hk); (try clear hi)) | ((with_reducible refine gate_dst (N := 3) rfl ?_); refine box_event ?hg (N := 3) ?hd (cs := #[.int .i64 0, .int .i64 0, .int .i64 0, .int .i64 0, .int .i64 0]) (t := 141) ?hr ?_; (case hd => rfl); (case hg => rfl); (case hr => first | (go_simp; done) | (go_simp; rfl)); intro gb331 hg w10 hbox hb; have n0_ := aA (bB BK324.out hb); have n1_ := aA (below_step (mD1 GE324.out) hb); have n2_ := aA (hbox); have n3_ := aA ((bZ hg (mD1 GE324.out))); have n4_ := aA ((bZ hg (mD1 GE324.out))); have n5_ := aA ((bL hg BK324.out)); have n6_ := aA ((bG hg BK324.out)); clear BK324 HB; have BK324 := n0_; have HB := n1_; have BK331 := n2_; have GW331 := n3_; have GE331 := n4_; have NB324_331 := n5_; have NB331_324 := n6_; clear n0_ n1_ n2_ n3_ n4_ n5_ n6_ hb hbox hg; have hnb11 := NB331_324.out; have hnc11 := NB324_331.out; obtain ⟨hcz12_0, hcz12_1, hcz12_2, hcz12_3, hcz12_4⟩ := bC5 BK331.out; obtain ⟨hfz12_0, hfz12_1, hfz12_2, hfz12_3, hfz12_4⟩ := bF5 BK331.out; obtain ⟨hcz13_0, hcz13_1, hcz13_2, hcz13_3, hcz13_4, hcz13_5, hcz13_6, hcz13_7, hcz13_8⟩ := bC9 BK324.out; obtain ⟨hfz13_0, hfz13_1, hfz13_2, hfz13_3, hfz13_4, hfz13_5, hfz13_6, hfz13_7, hfz13_8⟩ := bF9 BK324.out) | ((with_reducible refine gate_callee (f := 107) rfl ?_); refine goesL_ (some 21) rfl rfl Tryz.func107 (by kernel_rfl) rfl #[.int .i64 a0_7, .int .i64 a0_8, .int .i64 0, .int .i64 0] rfl mS ?_; (with_reducible refine (bucket_New.calls a0_7 a0_8 0 0 t332 t333 t334 t335 t336 _ A3.out).mono ?_); rintro e w14 ⟨rfl, hb⟩; refine ⟨_, rfl, ?_⟩; have n0_ := aA (blk_below (g := gb324) (o := .cells #[.string a0_0, .int .i64 a0_1, .int .i64 a0_2, .int .i64 a0_3, .int .i64 a0_4, .int .i64 a0_5, .int .i64 a0_6, .int .i64 a0_7, .int .i64 a0_8] 90 (0, 0)) (by (with_reducible repeat (first | refine blk_drewN ?_ _ | refine blk_drew ?_ | refine blk_alloc ?_ _)); refine blk_far ?_ NB324_331.out _; (with_reducible repeat (first | refine blk_drewN ?_ _ | refine blk_drew ?_ | refine blk_alloc ?_ _)); refine blk_far ?_ NB324_331.out _; (with_reducible repeat (first | refine blk_drewN ?_ _ | refine blk_drew ?_ | refine blk_alloc ?_ _)); refine blk_far ?_ NB324_331.out _; (with_reducible repeat (first | refine blk_drewN ?_ _ | refine blk_drew ?_ | refine blk_alloc ?_ _)); refine blk_far ?_ NB324_331.out _; (with_reducible repeat (first | refine blk_drewN ?_ _ | refine blk_drew ?_ | refine blk_alloc ?_ _)); refine blk_far ?_ NB324_331.out _; (with_reducible repeat (first | refine blk_drewN ?_ _ | refine blk_drew ?_ | refine blk_alloc ?_ _)); exact BK324.out) hb); have n1_ := aA (blk_below (g := gb331) (o := .cells #[.int .i64 t325, .int .i64 t326, .int .i64 t327, .int .i64 t328, .int .i64 t329] 141 (0, 0)) (by (with_reducible repeat (first | refine blk_drewN ?_ _ | refine blk_drew ?_ | refine blk_alloc ?_ _)); have h_ := BK331.out; exact pK 4 (pK 3 (pK 2 (pK 1 (pK 0 (h_)))))) hb); have n2_ := aA (below_step (mD2 GE324.out GE331.out) hb); clear BK324 BK331 HB; have BK324 := n0_; have BK331 := n1_; have HB := n2_; clear n0_ n1_ n2_; (try clear hb); (try clear hb2); (try clear hk); (try clear hi)) | ((with_reducible refine gate_dst (N := 5) rfl ?_); refine box_event ?hg (N := 5) ?hd (cs := #[.int .i64 0, .int .i64 0, .int .i64 0, .int .i64 0]) (t := 145) ?hr ?_; (case hd => rfl); (case hg => rfl); (case hr => first | (go_simp; done) | (go_simp; rfl)); intro gb337 hg w15 hbox hb; have n0_ := aA (bB BK324.out hb); have n1_ := aA (bB BK331.out hb); have n2_ := aA (below_step (mD2 GE324.out GE331.out) hb); have n3_ := aA (hbox); have n4_ := aA ((bZ hg (mD2 GE324.out GE331.out))); have n5_ := aA ((bZ hg (mD2 GE324.out GE331.out))); have n6_ := aA ((bL hg BK324.out)); have n7_ := aA ((bG hg BK324.out)); have n8_ := aA ((bL hg BK331.out)); have n9_ := aA ((bG hg BK331.out)); clear BK324 BK331 HB; have BK324 := n0_; have BK331 := n1_; have HB := n2_; have BK337 := n3_; have GW337 := n4_; have GE337 := n5_; have NB324_337 := n6_; have NB337_324 := n7_; have NB331_337 := n8_; have NB337_331 := n9_; clear n0_ n1_ n2_ n3_ n4_ n5_ n6_ n7_ n8_ n9_ hb hbox hg; have hnb16 := NB337_324.out; have hnc16 := NB324_337.out; have hnb17 := NB337_331.out; have hnc17 := NB331_337.out; obtain ⟨hcz18_0, hcz18_1, hcz18_2, hcz18_3⟩ := bC4 BK337.out; obtain ⟨hfz18_0, hfz18_1, hfz18_2, hfz18_3⟩ := bF4 BK337.out; obtain ⟨hcz19_0, hcz19_1, hcz19_2, hcz19_3, hcz19_4, hcz19_5, hcz19_6, hcz19_7, hcz19_8⟩ := bC9 BK324.out; obtain ⟨hfz19_0, hfz19_1, hfz19_2, hfz19_3, hfz19_4, hfz19_5, hfz19_6, hfz19_7, hfz19_8⟩ := bF9 BK324.out) | ((with_reducible refine gate_callee (f := 41) rfl ?_); refine goesL_ (some 27) rfl rfl Tryz.func41 (by kernel_rfl) rfl #[.agg #[.int .i64 3, .string a0_0, .string (⟨#[]⟩ : ByteArray)]] rfl mS ?_; (with_reducible refine (label_Matcher.calls 3 a0_0 (⟨#[]⟩ : ByteArray) true _ A4.out).mono ?_); rintro e w20 ⟨rfl, hb⟩; refine ⟨_, rfl, ?_⟩; have n0_ := aA (blk_below (g := gb324) (o := .cells #[.string a0_0, .int .i64 a0_1, .int .i64 a0_2, .int .i64 a0_3, .int .i64 a0_4, .int .i64 a0_5, .int .i64 a0_6, .int .i64 a0_7, .int .i64 a0_8] 90 (0, 0)) (by (with_reducible repeat (first | refine blk_drewN ?_ _ | refine blk_drew ?_ | refine blk_alloc ?_ _)); refine blk_far ?_ NB324_337.out _; (with_reducible repeat (first | refine blk_drewN ?_ _ | refine blk_drew ?_ | refine blk_alloc ?_ _)); refine blk_far ?_ NB324_337.out _; (with_reducible repeat (first | refine blk_drewN ?_ _ | refine blk_drew ?_ | refine blk_alloc ?_ _)); refine blk_far ?_ NB324_337.out _; (with_reducible repeat (first | refine blk_drewN ?_ _ | refine blk_drew ?_ | refine blk_alloc ?_ _)); refine blk_far ?_ NB324_337.out _; (with_reducible repeat (first | refine blk_drewN ?_ _ | refine blk_drew ?_ | refine blk_alloc ?_ _)); exact BK324.out) hb); have n1_ := aA (blk_below (g := gb331) (o := .cells #[.int .i64 t325, .int .i64 t326, .int .i64 t327, .int .i64 t328, .int .i64 t329] 141 (0, 0)) (by (with_reducible repeat (first | refine blk_drewN ?_ _ | refine blk_drew ?_ | refine blk_alloc ?_ _)); refine blk_far ?_ NB331_337.out _; (with_reducible repeat (first | refine blk_drewN ?_ _ | refine blk_drew ?_ | refine blk_alloc ?_ _)); refine blk_far ?_ NB331_337.out _; (with_reducible repeat (first | refine blk_drewN ?_ _ | refine blk_drew ?_ | refine blk_alloc ?_ _)); refine blk_far ?_ NB331_337.out _; (with_reducible repeat (first | refine blk_drewN ?_ _ | refine blk_drew ?_ | refine blk_alloc ?_ _)); refine blk_far ?_ NB331_337.out _; (with_reducible repeat (first | refine blk_drewN ?_ _ | refine blk_drew ?_ | refine blk_alloc ?_ _)); exact BK331.out) hb); have n2_ := aA (blk_below (g := gb337) (o := .cells #[.int .i64 t332, .int .i64 t333, .int .i64 t334, .int .i64 t335] 145 (0, 0)) (by (with_reducible repeat (first | refine blk_drewN ?_ _ | refine blk_drew ?_ | refine blk_alloc ?_ _)); have h_ := BK337.out; exact pK 3 (pK 2 (pK 1 (pK 0 (h_))))) hb); have n3_ := aA (below_step (mD3 GE324.out GE331.out GE337.out) hb); clear BK324 BK331 BK337 HB; have BK324 := n0_; have BK331 := n1_; have BK337 := n2_; have HB := n3_; clear n0_ n1_ n2_ n3_; (try clear hb); (try clear hb2); (try clear hk); (try clear hi); obtain ⟨hcz21_0, hcz21_1, hcz21_2, hcz21_3, hcz21_4, hcz21_5, hcz21_6, hcz21_7, hcz21_8⟩ := bC9 BK324.out; obtain ⟨hfz21_0, hfz21_1, hfz21_2, hfz21_3, hfz21_4, hfz21_5, hfz21_6, hfz21_7, hfz21_8⟩ := bF9 BK324.out))
   go_ret
   exact ⟨by first | rfl | (simp [errW_none, errW_some] <;> rfl) | (simp [*, errW_none, errW_some] <;> rfl), by repeat (first | (with_reducible first | exact HB.out | apply below_alloc | apply pw_below_drewN | apply below_drew1 | refine below_set ?_ GE324.out | refine below_set ?_ GE331.out | refine below_set ?_ GE337.out) | exact HB.out)⟩
  ·rw [if_neg c6] at H
   have c6b0 : (a0_0.toList == ([105, 102] : List UInt8)) = false := beq_eq_false_iff_ne.mpr c6
   have c6b1 : (a0_0.toList != ([105, 102] : List UInt8)) = true := bne_iff_ne.mpr c6
   replace H := Option.bind_eq_some_iff.mp H
   obtain ⟨t339, A220, H⟩ := H
   have A22 := aA A220
   clear A220
   by_cases c23 : t339 = true
   ·subst c23
    have H1 : (if a0_4 ≥ 1 then (if a0_4 ≤ 100 then (if t330 = 0 then (some (t336 == 0)) else (some false)) else (some false)) else (some false)) = some r := by rw [if_pos rfl] at H; exact H
    clear H
    have H := H1
    clear H1
    by_cases c24 : a0_4 ≥ 1
    ·rw [if_pos c24] at H
     have c24b0 : decide (1 ≤ a0_4) = true := decide_eq_true c24
     clear c24
     by_cases c25 : a0_4 ≤ 100
     ·rw [if_pos c25] at H
      have c25b0 : decide (a0_4 ≤ 100) = true := decide_eq_true c25
      clear c25
      by_cases c26 : t330 = 0
      ·rw [if_pos c26] at H
       have c26b0 : (t330 == 0) = true := beq_iff_eq.mpr c26
       have c26b1 : (t330 != 0) = false := bne_eq_false_iff_eq.mpr c26
       clear c26
       obtain rfl := Option.some.inj H
       go_enter Tryz.func62, Tryz.ntmps62
       go_wp2_with (first | ((with_reducible refine gate_dst (N := 1) rfl ?_); refine box_event ?hg (N := 1) ?hd (cs := #[.string a0_0, .int .i64 a0_1, .int .i64 a0_2, .int .i64 a0_3, .int .i64 a0_4, .int .i64 a0_5, .int .i64 a0_6, .int .i64 a0_7, .int .i64 a0_8]) (t := 90) ?hr ?_; (case hd => rfl); (case hg => rfl); (case hr => first | (go_simp; done) | (go_simp; rfl)); intro gb324 hg w27 hbox hb; have n0_ := aA (below_step mB hb); have n1_ := aA (hbox); have n2_ := aA ((bZ hg mB)); have n3_ := aA ((bZ hg mB)); clear HB; have HB := n0_; have BK324 := n1_; have GW324 := n2_; have GE324 := n3_; clear n0_ n1_ n2_ n3_ hb hbox hg; obtain ⟨hcz28_0, hcz28_1, hcz28_2, hcz28_3, hcz28_4, hcz28_5, hcz28_6, hcz28_7, hcz28_8⟩ := bC9 BK324.out; obtain ⟨hfz28_0, hfz28_1, hfz28_2, hfz28_3, hfz28_4, hfz28_5, hfz28_6, hfz28_7, hfz28_8⟩ := bF9 BK324.out) | ((with_reducible refine gate_callee (f := 106) rfl ?_); refine goesL_ (some 13) rfl rfl Tryz.func106 (by kernel_rfl) rfl #[.int .i64 a0_5, .int .i64 a0_6] rfl mS ?_; (with_reducible refine (breaker_New.calls k a0_5 a0_6 t325 t326 t327 t328 t329 t330 _ A2.out).mono ?_); rintro e w29 ⟨rfl, hb⟩; refine ⟨_, rfl, ?_⟩; have n0_ := aA (bB BK324.out hb); have n1_ := aA (below_step (mD1 GE324.out) hb); clear BK324 HB; have BK324 := n0_; have HB := n1_; clear n0_ n1_; (try clear hb); (try clear hb2); (try clear hk); (try clear hi)) | ((with_reducible refine gate_dst (N := 3) rfl ?_); refine box_event ?hg (N := 3) ?hd (cs := #[.int .i64 0, .int .i64 0, .int .i64 0, .int .i64 0, .int .i64 0]) (t := 141) ?hr ?_; (case hd => rfl); (case hg => rfl); (case hr => first | (go_simp; done) | (go_simp; rfl)); intro gb331 hg w30 hbox hb; have n0_ := aA (bB BK324.out hb); have n1_ := aA (below_step (mD1 GE324.out) hb); have n2_ := aA (hbox); have n3_ := aA ((bZ hg (mD1 GE324.out))); have n4_ := aA ((bZ hg (mD1 GE324.out))); have n5_ := aA ((bL hg BK324.out)); have n6_ := aA ((bG hg BK324.out)); clear BK324 HB; have BK324 := n0_; have HB := n1_; have BK331 := n2_; have GW331 := n3_; have GE331 := n4_; have NB324_331 := n5_; have NB331_324 := n6_; clear n0_ n1_ n2_ n3_ n4_ n5_ n6_ hb hbox hg; have hnb31 := NB331_324.out; have hnc31 := NB324_331.out; obtain ⟨hcz32_0, hcz32_1, hcz32_2, hcz32_3, hcz32_4⟩ := bC5 BK331.out; obtain ⟨hfz32_0, hfz32_1, hfz32_2, hfz32_3, hfz32_4⟩ := bF5 BK331.out; obtain ⟨hcz33_0, hcz33_1, hcz33_2, hcz33_3, hcz33_4, hcz33_5, hcz33_6, hcz33_7, hcz33_8⟩ := bC9 BK324.out; obtain ⟨hfz33_0, hfz33_1, hfz33_2, hfz33_3, hfz33_4, hfz33_5, hfz33_6, hfz33_7, hfz33_8⟩ := bF9 BK324.out) | ((with_reducible refine gate_callee (f := 107) rfl ?_); refine goesL_ (some 21) rfl rfl Tryz.func107 (by kernel_rfl) rfl #[.int .i64 a0_7, .int .i64 a0_8, .int .i64 0, .int .i64 0] rfl mS ?_; (with_reducible refine (bucket_New.calls a0_7 a0_8 0 0 t332 t333 t334 t335 t336 _ A3.out).mono ?_); rintro e w34 ⟨rfl, hb⟩; refine ⟨_, rfl, ?_⟩; have n0_ := aA (blk_below (g := gb324) (o := .cells #[.string a0_0, .int .i64 a0_1, .int .i64 a0_2, .int .i64 a0_3, .int .i64 a0_4, .int .i64 a0_5, .int .i64 a0_6, .int .i64 a0_7, .int .i64 a0_8] 90 (0, 0)) (by (with_reducible repeat (first | refine blk_drewN ?_ _ | refine blk_drew ?_ | refine blk_alloc ?_ _)); refine blk_far ?_ NB324_331.out _; (with_reducible repeat (first | refine blk_drewN ?_ _ | refine blk_drew ?_ | refine blk_alloc ?_ _)); refine blk_far ?_ NB324_331.out _; (with_reducible repeat (first | refine blk_drewN ?_ _ | refine blk_drew ?_ | refine blk_alloc ?_ _)); refine blk_far ?_ NB324_331.out _; (with_reducible repeat (first | refine blk_drewN ?_ _ | refine blk_drew ?_ | refine blk_alloc ?_ _)); refine blk_far ?_ NB324_331.out _; (with_reducible repeat (first | refine blk_drewN ?_ _ | refine blk_drew ?_ | refine blk_alloc ?_ _)); refine blk_far ?_ NB324_331.out _; (with_reducible repeat (first | refine blk_drewN ?_ _ | refine blk_drew ?_ | refine blk_alloc ?_ _)); exact BK324.out) hb); have n1_ := aA (blk_below (g := gb331) (o := .cells #[.int .i64 t325, .int .i64 t326, .int .i64 t327, .int .i64 t328, .int .i64 t329] 141 (0, 0)) (by (with_reducible repeat (first | refine blk_drewN ?_ _ | refine blk_drew ?_ | refine blk_alloc ?_ _)); have h_ := BK331.out; exact pK 4 (pK 3 (pK 2 (pK 1 (pK 0 (h_)))))) hb); have n2_ := aA (below_step (mD2 GE324.out GE331.out) hb); clear BK324 BK331 HB; have BK324 := n0_; have BK331 := n1_; have HB := n2_; clear n0_ n1_ n2_; (try clear hb); (try clear hb2); (try clear hk); (try clear hi)) | ((with_reducible refine gate_dst (N := 5) rfl ?_); refine box_event ?hg (N := 5) ?hd (cs := #[.int .i64 0, .int .i64 0, .int .i64 0, .int .i64 0]) (t := 145) ?hr ?_; (case hd => rfl); (case hg => rfl); (case hr => first | (go_simp; done) | (go_simp; rfl)); intro gb337 hg w35 hbox hb; have n0_ := aA (bB BK324.out hb); have n1_ := aA (bB BK331.out hb); have n2_ := aA (below_step (mD2 GE324.out GE331.out) hb); have n3_ := aA (hbox); have n4_ := aA ((bZ hg (mD2 GE324.out GE331.out))); have n5_ := aA ((bZ hg (mD2 GE324.out GE331.out))); have n6_ := aA ((bL hg BK324.out)); have n7_ := aA ((bG hg BK324.out)); have n8_ := aA ((bL hg BK331.out)); have n9_ := aA ((bG hg BK331.out)); clear BK324 BK331 HB; have BK324 := n0_; have BK331 := n1_; have HB := n2_; have BK337 := n3_; have GW337 := n4_; have GE337 := n5_; have NB324_337 := n6_; have NB337_324 := n7_; have NB331_337 := n8_; have NB337_331 := n9_; clear n0_ n1_ n2_ n3_ n4_ n5_ n6_ n7_ n8_ n9_ hb hbox hg; have hnb36 := NB337_324.out; have hnc36 := NB324_337.out; have hnb37 := NB337_331.out; have hnc37 := NB331_337.out; obtain ⟨hcz38_0, hcz38_1, hcz38_2, hcz38_3⟩ := bC4 BK337.out; obtain ⟨hfz38_0, hfz38_1, hfz38_2, hfz38_3⟩ := bF4 BK337.out; obtain ⟨hcz39_0, hcz39_1, hcz39_2, hcz39_3, hcz39_4, hcz39_5, hcz39_6, hcz39_7, hcz39_8⟩ := bC9 BK324.out; obtain ⟨hfz39_0, hfz39_1, hfz39_2, hfz39_3, hfz39_4, hfz39_5, hfz39_6, hfz39_7, hfz39_8⟩ := bF9 BK324.out) | ((with_reducible refine gate_callee (f := 41) rfl ?_); refine goesL_ (some 27) rfl rfl Tryz.func41 (by kernel_rfl) rfl #[.agg #[.int .i64 3, .string a0_0, .string (⟨#[]⟩ : ByteArray)]] rfl mS ?_; (with_reducible refine (label_Matcher.calls 3 a0_0 (⟨#[]⟩ : ByteArray) true _ A4.out).mono ?_); rintro e w40 ⟨rfl, hb⟩; refine ⟨_, rfl, ?_⟩; have n0_ := aA (blk_below (g := gb324) (o := .cells #[.string a0_0, .int .i64 a0_1, .int .i64 a0_2, .int .i64 a0_3, .int .i64 a0_4, .int .i64 a0_5, .int .i64 a0_6, .int .i64 a0_7, .int .i64 a0_8] 90 (0, 0)) (by (with_reducible repeat (first | refine blk_drewN ?_ _ | refine blk_drew ?_ | refine blk_alloc ?_ _)); refine blk_far ?_ NB324_337.out _; (with_reducible repeat (first | refine blk_drewN ?_ _ | refine blk_drew ?_ | refine blk_alloc ?_ _)); refine blk_far ?_ NB324_337.out _; (with_reducible repeat (first | refine blk_drewN ?_ _ | refine blk_drew ?_ | refine blk_alloc ?_ _)); refine blk_far ?_ NB324_337.out _; (with_reducible repeat (first | refine blk_drewN ?_ _ | refine blk_drew ?_ | refine blk_alloc ?_ _)); refine blk_far ?_ NB324_337.out _; (with_reducible repeat (first | refine blk_drewN ?_ _ | refine blk_drew ?_ | refine blk_alloc ?_ _)); exact BK324.out) hb); have n1_ := aA (blk_below (g := gb331) (o := .cells #[.int .i64 t325, .int .i64 t326, .int .i64 t327, .int .i64 t328, .int .i64 t329] 141 (0, 0)) (by (with_reducible repeat (first | refine blk_drewN ?_ _ | refine blk_drew ?_ | refine blk_alloc ?_ _)); refine blk_far ?_ NB331_337.out _; (with_reducible repeat (first | refine blk_drewN ?_ _ | refine blk_drew ?_ | refine blk_alloc ?_ _)); refine blk_far ?_ NB331_337.out _; (with_reducible repeat (first | refine blk_drewN ?_ _ | refine blk_drew ?_ | refine blk_alloc ?_ _)); refine blk_far ?_ NB331_337.out _; (with_reducible repeat (first | refine blk_drewN ?_ _ | refine blk_drew ?_ | refine blk_alloc ?_ _)); refine blk_far ?_ NB331_337.out _; (with_reducible repeat (first | refine blk_drewN ?_ _ | refine blk_drew ?_ | refine blk_alloc ?_ _)); exact BK331.out) hb); have n2_ := aA (blk_below (g := gb337) (o := .cells #[.int .i64 t332, .int .i64 t333, .int .i64 t334, .int .i64 t335] 145 (0, 0)) (by (with_reducible repeat (first | refine blk_drewN ?_ _ | refine blk_drew ?_ | refine blk_alloc ?_ _)); have h_ := BK337.out; exact pK 3 (pK 2 (pK 1 (pK 0 (h_))))) hb); have n3_ := aA (below_step (mD3 GE324.out GE331.out GE337.out) hb); clear BK324 BK331 BK337 HB; have BK324 := n0_; have BK331 := n1_; have BK337 := n2_; have HB := n3_; clear n0_ n1_ n2_ n3_; (try clear hb); (try clear hb2); (try clear hk); (try clear hi); obtain ⟨hcz41_0, hcz41_1, hcz41_2, hcz41_3, hcz41_4, hcz41_5, hcz41_6, hcz41_7, hcz41_8⟩ := bC9 BK324.out; obtain ⟨hfz41_0, hfz41_1, hfz41_2, hfz41_3, hfz41_4, hfz41_5, hfz41_6, hfz41_7, hfz41_8⟩ := bF9 BK324.out) | (go_at_call 108; (with_reducible refine (backoff_Right.calls a0_1 a0_2 a0_3 true _ A22.out).mono ?_); rintro e w42 ⟨rfl, hb⟩; have n0_ := aA (bB BK324.out hb); have n1_ := aA (bB BK331.out hb); have n2_ := aA (bB BK337.out hb); have n3_ := aA (below_step (mD3 GE324.out GE331.out GE337.out) hb); clear BK324 BK331 BK337 HB; have BK324 := n0_; have BK331 := n1_; have BK337 := n2_; have HB := n3_; clear n0_ n1_ n2_ n3_; (try clear hb); (try clear hb2); (try clear hk); (try clear hi); obtain ⟨hcz43_0, hcz43_1, hcz43_2, hcz43_3, hcz43_4, hcz43_5, hcz43_6, hcz43_7, hcz43_8⟩ := bC9 BK324.out; obtain ⟨hfz43_0, hfz43_1, hfz43_2, hfz43_3, hfz43_4, hfz43_5, hfz43_6, hfz43_7, hfz43_8⟩ := bF9 BK324.out))
       go_ret
       exact ⟨by first | rfl | (simp [errW_none, errW_some] <;> rfl) | (simp [*, errW_none, errW_some] <;> rfl), by repeat (first | (with_reducible first | exact HB.out | apply below_alloc | apply pw_below_drewN | apply below_drew1 | refine below_set ?_ GE324.out | refine below_set ?_ GE331.out | refine below_set ?_ GE337.out) | exact HB.out)⟩
      ·rw [if_neg c26] at H
       have c26b0 : (t330 == 0) = false := beq_eq_false_iff_ne.mpr c26
       have c26b1 : (t330 != 0) = true := bne_iff_ne.mpr c26
       obtain rfl := Option.some.inj H
       go_enter Tryz.func62, Tryz.ntmps62
       go_wp2_with (first | ((with_reducible refine gate_dst (N := 1) rfl ?_); refine box_event ?hg (N := 1) ?hd (cs := #[.string a0_0, .int .i64 a0_1, .int .i64 a0_2, .int .i64 a0_3, .int .i64 a0_4, .int .i64 a0_5, .int .i64 a0_6, .int .i64 a0_7, .int .i64 a0_8]) (t := 90) ?hr ?_; (case hd => rfl); (case hg => rfl); (case hr => first | (go_simp; done) | (go_simp; rfl)); intro gb324 hg w44 hbox hb; have n0_ := aA (below_step mB hb); have n1_ := aA (hbox); have n2_ := aA ((bZ hg mB)); have n3_ := aA ((bZ hg mB)); clear HB; have HB := n0_; have BK324 := n1_; have GW324 := n2_; have GE324 := n3_; clear n0_ n1_ n2_ n3_ hb hbox hg; obtain ⟨hcz45_0, hcz45_1, hcz45_2, hcz45_3, hcz45_4, hcz45_5, hcz45_6, hcz45_7, hcz45_8⟩ := bC9 BK324.out; obtain ⟨hfz45_0, hfz45_1, hfz45_2, hfz45_3, hfz45_4, hfz45_5, hfz45_6, hfz45_7, hfz45_8⟩ := bF9 BK324.out) | ((with_reducible refine gate_callee (f := 106) rfl ?_); refine goesL_ (some 13) rfl rfl Tryz.func106 (by kernel_rfl) rfl #[.int .i64 a0_5, .int .i64 a0_6] rfl mS ?_; (with_reducible refine (breaker_New.calls k a0_5 a0_6 t325 t326 t327 t328 t329 t330 _ A2.out).mono ?_); rintro e w46 ⟨rfl, hb⟩; refine ⟨_, rfl, ?_⟩; have n0_ := aA (bB BK324.out hb); have n1_ := aA (below_step (mD1 GE324.out) hb); clear BK324 HB; have BK324 := n0_; have HB := n1_; clear n0_ n1_; (try clear hb); (try clear hb2); (try clear hk); (try clear hi)) | ((with_reducible refine gate_dst (N := 3) rfl ?_); refine box_event ?hg (N := 3) ?hd (cs := #[.int .i64 0, .int .i64 0, .int .i64 0, .int .i64 0, .int .i64 0]) (t := 141) ?hr ?_; (case hd => rfl); (case hg => rfl); (case hr => first | (go_simp; done) | (go_simp; rfl)); intro gb331 hg w47 hbox hb; have n0_ := aA (bB BK324.out hb); have n1_ := aA (below_step (mD1 GE324.out) hb); have n2_ := aA (hbox); have n3_ := aA ((bZ hg (mD1 GE324.out))); have n4_ := aA ((bZ hg (mD1 GE324.out))); have n5_ := aA ((bL hg BK324.out)); have n6_ := aA ((bG hg BK324.out)); clear BK324 HB; have BK324 := n0_; have HB := n1_; have BK331 := n2_; have GW331 := n3_; have GE331 := n4_; have NB324_331 := n5_; have NB331_324 := n6_; clear n0_ n1_ n2_ n3_ n4_ n5_ n6_ hb hbox hg; have hnb48 := NB331_324.out; have hnc48 := NB324_331.out; obtain ⟨hcz49_0, hcz49_1, hcz49_2, hcz49_3, hcz49_4⟩ := bC5 BK331.out; obtain ⟨hfz49_0, hfz49_1, hfz49_2, hfz49_3, hfz49_4⟩ := bF5 BK331.out; obtain ⟨hcz50_0, hcz50_1, hcz50_2, hcz50_3, hcz50_4, hcz50_5, hcz50_6, hcz50_7, hcz50_8⟩ := bC9 BK324.out; obtain ⟨hfz50_0, hfz50_1, hfz50_2, hfz50_3, hfz50_4, hfz50_5, hfz50_6, hfz50_7, hfz50_8⟩ := bF9 BK324.out) | ((with_reducible refine gate_callee (f := 107) rfl ?_); refine goesL_ (some 21) rfl rfl Tryz.func107 (by kernel_rfl) rfl #[.int .i64 a0_7, .int .i64 a0_8, .int .i64 0, .int .i64 0] rfl mS ?_; (with_reducible refine (bucket_New.calls a0_7 a0_8 0 0 t332 t333 t334 t335 t336 _ A3.out).mono ?_); rintro e w51 ⟨rfl, hb⟩; refine ⟨_, rfl, ?_⟩; have n0_ := aA (blk_below (g := gb324) (o := .cells #[.string a0_0, .int .i64 a0_1, .int .i64 a0_2, .int .i64 a0_3, .int .i64 a0_4, .int .i64 a0_5, .int .i64 a0_6, .int .i64 a0_7, .int .i64 a0_8] 90 (0, 0)) (by (with_reducible repeat (first | refine blk_drewN ?_ _ | refine blk_drew ?_ | refine blk_alloc ?_ _)); refine blk_far ?_ NB324_331.out _; (with_reducible repeat (first | refine blk_drewN ?_ _ | refine blk_drew ?_ | refine blk_alloc ?_ _)); refine blk_far ?_ NB324_331.out _; (with_reducible repeat (first | refine blk_drewN ?_ _ | refine blk_drew ?_ | refine blk_alloc ?_ _)); refine blk_far ?_ NB324_331.out _; (with_reducible repeat (first | refine blk_drewN ?_ _ | refine blk_drew ?_ | refine blk_alloc ?_ _)); refine blk_far ?_ NB324_331.out _; (with_reducible repeat (first | refine blk_drewN ?_ _ | refine blk_drew ?_ | refine blk_alloc ?_ _)); refine blk_far ?_ NB324_331.out _; (with_reducible repeat (first | refine blk_drewN ?_ _ | refine blk_drew ?_ | refine blk_alloc ?_ _)); exact BK324.out) hb); have n1_ := aA (blk_below (g := gb331) (o := .cells #[.int .i64 t325, .int .i64 t326, .int .i64 t327, .int .i64 t328, .int .i64 t329] 141 (0, 0)) (by (with_reducible repeat (first | refine blk_drewN ?_ _ | refine blk_drew ?_ | refine blk_alloc ?_ _)); have h_ := BK331.out; exact pK 4 (pK 3 (pK 2 (pK 1 (pK 0 (h_)))))) hb); have n2_ := aA (below_step (mD2 GE324.out GE331.out) hb); clear BK324 BK331 HB; have BK324 := n0_; have BK331 := n1_; have HB := n2_; clear n0_ n1_ n2_; (try clear hb); (try clear hb2); (try clear hk); (try clear hi)) | ((with_reducible refine gate_dst (N := 5) rfl ?_); refine box_event ?hg (N := 5) ?hd (cs := #[.int .i64 0, .int .i64 0, .int .i64 0, .int .i64 0]) (t := 145) ?hr ?_; (case hd => rfl); (case hg => rfl); (case hr => first | (go_simp; done) | (go_simp; rfl)); intro gb337 hg w52 hbox hb; have n0_ := aA (bB BK324.out hb); have n1_ := aA (bB BK331.out hb); have n2_ := aA (below_step (mD2 GE324.out GE331.out) hb); have n3_ := aA (hbox); have n4_ := aA ((bZ hg (mD2 GE324.out GE331.out))); have n5_ := aA ((bZ hg (mD2 GE324.out GE331.out))); have n6_ := aA ((bL hg BK324.out)); have n7_ := aA ((bG hg BK324.out)); have n8_ := aA ((bL hg BK331.out)); have n9_ := aA ((bG hg BK331.out)); clear BK324 BK331 HB; have BK324 := n0_; have BK331 := n1_; have HB := n2_; have BK337 := n3_; have GW337 := n4_; have GE337 := n5_; have NB324_337 := n6_; have NB337_324 := n7_; have NB331_337 := n8_; have NB337_331 := n9_; clear n0_ n1_ n2_ n3_ n4_ n5_ n6_ n7_ n8_ n9_ hb hbox hg; have hnb53 := NB337_324.out; have hnc53 := NB324_337.out; have hnb54 := NB337_331.out; have hnc54 := NB331_337.out; obtain ⟨hcz55_0, hcz55_1, hcz55_2, hcz55_3⟩ := bC4 BK337.out; obtain ⟨hfz55_0, hfz55_1, hfz55_2, hfz55_3⟩ := bF4 BK337.out; obtain ⟨hcz56_0, hcz56_1, hcz56_2, hcz56_3, hcz56_4, hcz56_5, hcz56_6, hcz56_7, hcz56_8⟩ := bC9 BK324.out; obtain ⟨hfz56_0, hfz56_1, hfz56_2, hfz56_3, hfz56_4, hfz56_5, hfz56_6, hfz56_7, hfz56_8⟩ := bF9 BK324.out) | ((with_reducible refine gate_callee (f := 41) rfl ?_); refine goesL_ (some 27) rfl rfl Tryz.func41 (by kernel_rfl) rfl #[.agg #[.int .i64 3, .string a0_0, .string (⟨#[]⟩ : ByteArray)]] rfl mS ?_; (with_reducible refine (label_Matcher.calls 3 a0_0 (⟨#[]⟩ : ByteArray) true _ A4.out).mono ?_); rintro e w57 ⟨rfl, hb⟩; refine ⟨_, rfl, ?_⟩; have n0_ := aA (blk_below (g := gb324) (o := .cells #[.string a0_0, .int .i64 a0_1, .int .i64 a0_2, .int .i64 a0_3, .int .i64 a0_4, .int .i64 a0_5, .int .i64 a0_6, .int .i64 a0_7, .int .i64 a0_8] 90 (0, 0)) (by (with_reducible repeat (first | refine blk_drewN ?_ _ | refine blk_drew ?_ | refine blk_alloc ?_ _)); refine blk_far ?_ NB324_337.out _; (with_reducible repeat (first | refine blk_drewN ?_ _ | refine blk_drew ?_ | refine blk_alloc ?_ _)); refine blk_far ?_ NB324_337.out _; (with_reducible repeat (first | refine blk_drewN ?_ _ | refine blk_drew ?_ | refine blk_alloc ?_ _)); refine blk_far ?_ NB324_337.out _; (with_reducible repeat (first | refine blk_drewN ?_ _ | refine blk_drew ?_ | refine blk_alloc ?_ _)); refine blk_far ?_ NB324_337.out _; (with_reducible repeat (first | refine blk_drewN ?_ _ | refine blk_drew ?_ | refine blk_alloc ?_ _)); exact BK324.out) hb); have n1_ := aA (blk_below (g := gb331) (o := .cells #[.int .i64 t325, .int .i64 t326, .int .i64 t327, .int .i64 t328, .int .i64 t329] 141 (0, 0)) (by (with_reducible repeat (first | refine blk_drewN ?_ _ | refine blk_drew ?_ | refine blk_alloc ?_ _)); refine blk_far ?_ NB331_337.out _; (with_reducible repeat (first | refine blk_drewN ?_ _ | refine blk_drew ?_ | refine blk_alloc ?_ _)); refine blk_far ?_ NB331_337.out _; (with_reducible repeat (first | refine blk_drewN ?_ _ | refine blk_drew ?_ | refine blk_alloc ?_ _)); refine blk_far ?_ NB331_337.out _; (with_reducible repeat (first | refine blk_drewN ?_ _ | refine blk_drew ?_ | refine blk_alloc ?_ _)); refine blk_far ?_ NB331_337.out _; (with_reducible repeat (first | refine blk_drewN ?_ _ | refine blk_drew ?_ | refine blk_alloc ?_ _)); exact BK331.out) hb); have n2_ := aA (blk_below (g := gb337) (o := .cells #[.int .i64 t332, .int .i64 t333, .int .i64 t334, .int .i64 t335] 145 (0, 0)) (by (with_reducible repeat (first | refine blk_drewN ?_ _ | refine blk_drew ?_ | refine blk_alloc ?_ _)); have h_ := BK337.out; exact pK 3 (pK 2 (pK 1 (pK 0 (h_))))) hb); have n3_ := aA (below_step (mD3 GE324.out GE331.out GE337.out) hb); clear BK324 BK331 BK337 HB; have BK324 := n0_; have BK331 := n1_; have BK337 := n2_; have HB := n3_; clear n0_ n1_ n2_ n3_; (try clear hb); (try clear hb2); (try clear hk); (try clear hi); obtain ⟨hcz58_0, hcz58_1, hcz58_2, hcz58_3, hcz58_4, hcz58_5, hcz58_6, hcz58_7, hcz58_8⟩ := bC9 BK324.out; obtain ⟨hfz58_0, hfz58_1, hfz58_2, hfz58_3, hfz58_4, hfz58_5, hfz58_6, hfz58_7, hfz58_8⟩ := bF9 BK324.out) | (go_at_call 108; (with_reducible refine (backoff_Right.calls a0_1 a0_2 a0_3 true _ A22.out).mono ?_); rintro e w59 ⟨rfl, hb⟩; have n0_ := aA (bB BK324.out hb); have n1_ := aA (bB BK331.out hb); have n2_ := aA (bB BK337.out hb); have n3_ := aA (below_step (mD3 GE324.out GE331.out GE337.out) hb); clear BK324 BK331 BK337 HB; have BK324 := n0_; have BK331 := n1_; have BK337 := n2_; have HB := n3_; clear n0_ n1_ n2_ n3_; (try clear hb); (try clear hb2); (try clear hk); (try clear hi); obtain ⟨hcz60_0, hcz60_1, hcz60_2, hcz60_3, hcz60_4, hcz60_5, hcz60_6, hcz60_7, hcz60_8⟩ := bC9 BK324.out; obtain ⟨hfz60_0, hfz60_1, hfz60_2, hfz60_3, hfz60_4, hfz60_5, hfz60_6, hfz60_7, hfz60_8⟩ := bF9 BK324.out))
       go_ret
       exact ⟨by first | rfl | (simp [errW_none, errW_some] <;> rfl) | (simp [*, errW_none, errW_some] <;> rfl), by repeat (first | (with_reducible first | exact HB.out | apply below_alloc | apply pw_below_drewN | apply below_drew1 | refine below_set ?_ GE324.out | refine below_set ?_ GE331.out | refine below_set ?_ GE337.out) | exact HB.out)⟩
     ·rw [if_neg c25] at H
      have c25b0 : decide (a0_4 ≤ 100) = false := decide_eq_false c25
      clear c25
      obtain rfl := Option.some.inj H
      go_enter Tryz.func62, Tryz.ntmps62
      go_wp2_with (first | ((with_reducible refine gate_dst (N := 1) rfl ?_); refine box_event ?hg (N := 1) ?hd (cs := #[.string a0_0, .int .i64 a0_1, .int .i64 a0_2, .int .i64 a0_3, .int .i64 a0_4, .int .i64 a0_5, .int .i64 a0_6, .int .i64 a0_7, .int .i64 a0_8]) (t := 90) ?hr ?_; (case hd => rfl); (case hg => rfl); (case hr => first | (go_simp; done) | (go_simp; rfl)); intro gb324 hg w61 hbox hb; have n0_ := aA (below_step mB hb); have n1_ := aA (hbox); have n2_ := aA ((bZ hg mB)); have n3_ := aA ((bZ hg mB)); clear HB; have HB := n0_; have BK324 := n1_; have GW324 := n2_; have GE324 := n3_; clear n0_ n1_ n2_ n3_ hb hbox hg; obtain ⟨hcz62_0, hcz62_1, hcz62_2, hcz62_3, hcz62_4, hcz62_5, hcz62_6, hcz62_7, hcz62_8⟩ := bC9 BK324.out; obtain ⟨hfz62_0, hfz62_1, hfz62_2, hfz62_3, hfz62_4, hfz62_5, hfz62_6, hfz62_7, hfz62_8⟩ := bF9 BK324.out) | ((with_reducible refine gate_callee (f := 106) rfl ?_); refine goesL_ (some 13) rfl rfl Tryz.func106 (by kernel_rfl) rfl #[.int .i64 a0_5, .int .i64 a0_6] rfl mS ?_; (with_reducible refine (breaker_New.calls k a0_5 a0_6 t325 t326 t327 t328 t329 t330 _ A2.out).mono ?_); rintro e w63 ⟨rfl, hb⟩; refine ⟨_, rfl, ?_⟩; have n0_ := aA (bB BK324.out hb); have n1_ := aA (below_step (mD1 GE324.out) hb); clear BK324 HB; have BK324 := n0_; have HB := n1_; clear n0_ n1_; (try clear hb); (try clear hb2); (try clear hk); (try clear hi)) | ((with_reducible refine gate_dst (N := 3) rfl ?_); refine box_event ?hg (N := 3) ?hd (cs := #[.int .i64 0, .int .i64 0, .int .i64 0, .int .i64 0, .int .i64 0]) (t := 141) ?hr ?_; (case hd => rfl); (case hg => rfl); (case hr => first | (go_simp; done) | (go_simp; rfl)); intro gb331 hg w64 hbox hb; have n0_ := aA (bB BK324.out hb); have n1_ := aA (below_step (mD1 GE324.out) hb); have n2_ := aA (hbox); have n3_ := aA ((bZ hg (mD1 GE324.out))); have n4_ := aA ((bZ hg (mD1 GE324.out))); have n5_ := aA ((bL hg BK324.out)); have n6_ := aA ((bG hg BK324.out)); clear BK324 HB; have BK324 := n0_; have HB := n1_; have BK331 := n2_; have GW331 := n3_; have GE331 := n4_; have NB324_331 := n5_; have NB331_324 := n6_; clear n0_ n1_ n2_ n3_ n4_ n5_ n6_ hb hbox hg; have hnb65 := NB331_324.out; have hnc65 := NB324_331.out; obtain ⟨hcz66_0, hcz66_1, hcz66_2, hcz66_3, hcz66_4⟩ := bC5 BK331.out; obtain ⟨hfz66_0, hfz66_1, hfz66_2, hfz66_3, hfz66_4⟩ := bF5 BK331.out; obtain ⟨hcz67_0, hcz67_1, hcz67_2, hcz67_3, hcz67_4, hcz67_5, hcz67_6, hcz67_7, hcz67_8⟩ := bC9 BK324.out; obtain ⟨hfz67_0, hfz67_1, hfz67_2, hfz67_3, hfz67_4, hfz67_5, hfz67_6, hfz67_7, hfz67_8⟩ := bF9 BK324.out) | ((with_reducible refine gate_callee (f := 107) rfl ?_); refine goesL_ (some 21) rfl rfl Tryz.func107 (by kernel_rfl) rfl #[.int .i64 a0_7, .int .i64 a0_8, .int .i64 0, .int .i64 0] rfl mS ?_; (with_reducible refine (bucket_New.calls a0_7 a0_8 0 0 t332 t333 t334 t335 t336 _ A3.out).mono ?_); rintro e w68 ⟨rfl, hb⟩; refine ⟨_, rfl, ?_⟩; have n0_ := aA (blk_below (g := gb324) (o := .cells #[.string a0_0, .int .i64 a0_1, .int .i64 a0_2, .int .i64 a0_3, .int .i64 a0_4, .int .i64 a0_5, .int .i64 a0_6, .int .i64 a0_7, .int .i64 a0_8] 90 (0, 0)) (by (with_reducible repeat (first | refine blk_drewN ?_ _ | refine blk_drew ?_ | refine blk_alloc ?_ _)); refine blk_far ?_ NB324_331.out _; (with_reducible repeat (first | refine blk_drewN ?_ _ | refine blk_drew ?_ | refine blk_alloc ?_ _)); refine blk_far ?_ NB324_331.out _; (with_reducible repeat (first | refine blk_drewN ?_ _ | refine blk_drew ?_ | refine blk_alloc ?_ _)); refine blk_far ?_ NB324_331.out _; (with_reducible repeat (first | refine blk_drewN ?_ _ | refine blk_drew ?_ | refine blk_alloc ?_ _)); refine blk_far ?_ NB324_331.out _; (with_reducible repeat (first | refine blk_drewN ?_ _ | refine blk_drew ?_ | refine blk_alloc ?_ _)); refine blk_far ?_ NB324_331.out _; (with_reducible repeat (first | refine blk_drewN ?_ _ | refine blk_drew ?_ | refine blk_alloc ?_ _)); exact BK324.out) hb); have n1_ := aA (blk_below (g := gb331) (o := .cells #[.int .i64 t325, .int .i64 t326, .int .i64 t327, .int .i64 t328, .int .i64 t329] 141 (0, 0)) (by (with_reducible repeat (first | refine blk_drewN ?_ _ | refine blk_drew ?_ | refine blk_alloc ?_ _)); have h_ := BK331.out; exact pK 4 (pK 3 (pK 2 (pK 1 (pK 0 (h_)))))) hb); have n2_ := aA (below_step (mD2 GE324.out GE331.out) hb); clear BK324 BK331 HB; have BK324 := n0_; have BK331 := n1_; have HB := n2_; clear n0_ n1_ n2_; (try clear hb); (try clear hb2); (try clear hk); (try clear hi)) | ((with_reducible refine gate_dst (N := 5) rfl ?_); refine box_event ?hg (N := 5) ?hd (cs := #[.int .i64 0, .int .i64 0, .int .i64 0, .int .i64 0]) (t := 145) ?hr ?_; (case hd => rfl); (case hg => rfl); (case hr => first | (go_simp; done) | (go_simp; rfl)); intro gb337 hg w69 hbox hb; have n0_ := aA (bB BK324.out hb); have n1_ := aA (bB BK331.out hb); have n2_ := aA (below_step (mD2 GE324.out GE331.out) hb); have n3_ := aA (hbox); have n4_ := aA ((bZ hg (mD2 GE324.out GE331.out))); have n5_ := aA ((bZ hg (mD2 GE324.out GE331.out))); have n6_ := aA ((bL hg BK324.out)); have n7_ := aA ((bG hg BK324.out)); have n8_ := aA ((bL hg BK331.out)); have n9_ := aA ((bG hg BK331.out)); clear BK324 BK331 HB; have BK324 := n0_; have BK331 := n1_; have HB := n2_; have BK337 := n3_; have GW337 := n4_; have GE337 := n5_; have NB324_337 := n6_; have NB337_324 := n7_; have NB331_337 := n8_; have NB337_331 := n9_; clear n0_ n1_ n2_ n3_ n4_ n5_ n6_ n7_ n8_ n9_ hb hbox hg; have hnb70 := NB337_324.out; have hnc70 := NB324_337.out; have hnb71 := NB337_331.out; have hnc71 := NB331_337.out; obtain ⟨hcz72_0, hcz72_1, hcz72_2, hcz72_3⟩ := bC4 BK337.out; obtain ⟨hfz72_0, hfz72_1, hfz72_2, hfz72_3⟩ := bF4 BK337.out; obtain ⟨hcz73_0, hcz73_1, hcz73_2, hcz73_3, hcz73_4, hcz73_5, hcz73_6, hcz73_7, hcz73_8⟩ := bC9 BK324.out; obtain ⟨hfz73_0, hfz73_1, hfz73_2, hfz73_3, hfz73_4, hfz73_5, hfz73_6, hfz73_7, hfz73_8⟩ := bF9 BK324.out) | ((with_reducible refine gate_callee (f := 41) rfl ?_); refine goesL_ (some 27) rfl rfl Tryz.func41 (by kernel_rfl) rfl #[.agg #[.int .i64 3, .string a0_0, .string (⟨#[]⟩ : ByteArray)]] rfl mS ?_; (with_reducible refine (label_Matcher.calls 3 a0_0 (⟨#[]⟩ : ByteArray) true _ A4.out).mono ?_); rintro e w74 ⟨rfl, hb⟩; refine ⟨_, rfl, ?_⟩; have n0_ := aA (blk_below (g := gb324) (o := .cells #[.string a0_0, .int .i64 a0_1, .int .i64 a0_2, .int .i64 a0_3, .int .i64 a0_4, .int .i64 a0_5, .int .i64 a0_6, .int .i64 a0_7, .int .i64 a0_8] 90 (0, 0)) (by (with_reducible repeat (first | refine blk_drewN ?_ _ | refine blk_drew ?_ | refine blk_alloc ?_ _)); refine blk_far ?_ NB324_337.out _; (with_reducible repeat (first | refine blk_drewN ?_ _ | refine blk_drew ?_ | refine blk_alloc ?_ _)); refine blk_far ?_ NB324_337.out _; (with_reducible repeat (first | refine blk_drewN ?_ _ | refine blk_drew ?_ | refine blk_alloc ?_ _)); refine blk_far ?_ NB324_337.out _; (with_reducible repeat (first | refine blk_drewN ?_ _ | refine blk_drew ?_ | refine blk_alloc ?_ _)); refine blk_far ?_ NB324_337.out _; (with_reducible repeat (first | refine blk_drewN ?_ _ | refine blk_drew ?_ | refine blk_alloc ?_ _)); exact BK324.out) hb); have n1_ := aA (blk_below (g := gb331) (o := .cells #[.int .i64 t325, .int .i64 t326, .int .i64 t327, .int .i64 t328, .int .i64 t329] 141 (0, 0)) (by (with_reducible repeat (first | refine blk_drewN ?_ _ | refine blk_drew ?_ | refine blk_alloc ?_ _)); refine blk_far ?_ NB331_337.out _; (with_reducible repeat (first | refine blk_drewN ?_ _ | refine blk_drew ?_ | refine blk_alloc ?_ _)); refine blk_far ?_ NB331_337.out _; (with_reducible repeat (first | refine blk_drewN ?_ _ | refine blk_drew ?_ | refine blk_alloc ?_ _)); refine blk_far ?_ NB331_337.out _; (with_reducible repeat (first | refine blk_drewN ?_ _ | refine blk_drew ?_ | refine blk_alloc ?_ _)); refine blk_far ?_ NB331_337.out _; (with_reducible repeat (first | refine blk_drewN ?_ _ | refine blk_drew ?_ | refine blk_alloc ?_ _)); exact BK331.out) hb); have n2_ := aA (blk_below (g := gb337) (o := .cells #[.int .i64 t332, .int .i64 t333, .int .i64 t334, .int .i64 t335] 145 (0, 0)) (by (with_reducible repeat (first | refine blk_drewN ?_ _ | refine blk_drew ?_ | refine blk_alloc ?_ _)); have h_ := BK337.out; exact pK 3 (pK 2 (pK 1 (pK 0 (h_))))) hb); have n3_ := aA (below_step (mD3 GE324.out GE331.out GE337.out) hb); clear BK324 BK331 BK337 HB; have BK324 := n0_; have BK331 := n1_; have BK337 := n2_; have HB := n3_; clear n0_ n1_ n2_ n3_; (try clear hb); (try clear hb2); (try clear hk); (try clear hi); obtain ⟨hcz75_0, hcz75_1, hcz75_2, hcz75_3, hcz75_4, hcz75_5, hcz75_6, hcz75_7, hcz75_8⟩ := bC9 BK324.out; obtain ⟨hfz75_0, hfz75_1, hfz75_2, hfz75_3, hfz75_4, hfz75_5, hfz75_6, hfz75_7, hfz75_8⟩ := bF9 BK324.out) | (go_at_call 108; (with_reducible refine (backoff_Right.calls a0_1 a0_2 a0_3 true _ A22.out).mono ?_); rintro e w76 ⟨rfl, hb⟩; have n0_ := aA (bB BK324.out hb); have n1_ := aA (bB BK331.out hb); have n2_ := aA (bB BK337.out hb); have n3_ := aA (below_step (mD3 GE324.out GE331.out GE337.out) hb); clear BK324 BK331 BK337 HB; have BK324 := n0_; have BK331 := n1_; have BK337 := n2_; have HB := n3_; clear n0_ n1_ n2_ n3_; (try clear hb); (try clear hb2); (try clear hk); (try clear hi); obtain ⟨hcz77_0, hcz77_1, hcz77_2, hcz77_3, hcz77_4, hcz77_5, hcz77_6, hcz77_7, hcz77_8⟩ := bC9 BK324.out; obtain ⟨hfz77_0, hfz77_1, hfz77_2, hfz77_3, hfz77_4, hfz77_5, hfz77_6, hfz77_7, hfz77_8⟩ := bF9 BK324.out))
      go_ret
      exact ⟨by first | rfl | (simp [errW_none, errW_some] <;> rfl) | (simp [*, errW_none, errW_some] <;> rfl), by repeat (first | (with_reducible first | exact HB.out | apply below_alloc | apply pw_below_drewN | apply below_drew1 | refine below_set ?_ GE324.out | refine below_set ?_ GE331.out | refine below_set ?_ GE337.out) | exact HB.out)⟩
    ·rw [if_neg c24] at H
     have c24b0 : decide (1 ≤ a0_4) = false := decide_eq_false c24
     clear c24
     obtain rfl := Option.some.inj H
     go_enter Tryz.func62, Tryz.ntmps62
     go_wp2_with (first | ((with_reducible refine gate_dst (N := 1) rfl ?_); refine box_event ?hg (N := 1) ?hd (cs := #[.string a0_0, .int .i64 a0_1, .int .i64 a0_2, .int .i64 a0_3, .int .i64 a0_4, .int .i64 a0_5, .int .i64 a0_6, .int .i64 a0_7, .int .i64 a0_8]) (t := 90) ?hr ?_; (case hd => rfl); (case hg => rfl); (case hr => first | (go_simp; done) | (go_simp; rfl)); intro gb324 hg w78 hbox hb; have n0_ := aA (below_step mB hb); have n1_ := aA (hbox); have n2_ := aA ((bZ hg mB)); have n3_ := aA ((bZ hg mB)); clear HB; have HB := n0_; have BK324 := n1_; have GW324 := n2_; have GE324 := n3_; clear n0_ n1_ n2_ n3_ hb hbox hg; obtain ⟨hcz79_0, hcz79_1, hcz79_2, hcz79_3, hcz79_4, hcz79_5, hcz79_6, hcz79_7, hcz79_8⟩ := bC9 BK324.out; obtain ⟨hfz79_0, hfz79_1, hfz79_2, hfz79_3, hfz79_4, hfz79_5, hfz79_6, hfz79_7, hfz79_8⟩ := bF9 BK324.out) | ((with_reducible refine gate_callee (f := 106) rfl ?_); refine goesL_ (some 13) rfl rfl Tryz.func106 (by kernel_rfl) rfl #[.int .i64 a0_5, .int .i64 a0_6] rfl mS ?_; (with_reducible refine (breaker_New.calls k a0_5 a0_6 t325 t326 t327 t328 t329 t330 _ A2.out).mono ?_); rintro e w80 ⟨rfl, hb⟩; refine ⟨_, rfl, ?_⟩; have n0_ := aA (bB BK324.out hb); have n1_ := aA (below_step (mD1 GE324.out) hb); clear BK324 HB; have BK324 := n0_; have HB := n1_; clear n0_ n1_; (try clear hb); (try clear hb2); (try clear hk); (try clear hi)) | ((with_reducible refine gate_dst (N := 3) rfl ?_); refine box_event ?hg (N := 3) ?hd (cs := #[.int .i64 0, .int .i64 0, .int .i64 0, .int .i64 0, .int .i64 0]) (t := 141) ?hr ?_; (case hd => rfl); (case hg => rfl); (case hr => first | (go_simp; done) | (go_simp; rfl)); intro gb331 hg w81 hbox hb; have n0_ := aA (bB BK324.out hb); have n1_ := aA (below_step (mD1 GE324.out) hb); have n2_ := aA (hbox); have n3_ := aA ((bZ hg (mD1 GE324.out))); have n4_ := aA ((bZ hg (mD1 GE324.out))); have n5_ := aA ((bL hg BK324.out)); have n6_ := aA ((bG hg BK324.out)); clear BK324 HB; have BK324 := n0_; have HB := n1_; have BK331 := n2_; have GW331 := n3_; have GE331 := n4_; have NB324_331 := n5_; have NB331_324 := n6_; clear n0_ n1_ n2_ n3_ n4_ n5_ n6_ hb hbox hg; have hnb82 := NB331_324.out; have hnc82 := NB324_331.out; obtain ⟨hcz83_0, hcz83_1, hcz83_2, hcz83_3, hcz83_4⟩ := bC5 BK331.out; obtain ⟨hfz83_0, hfz83_1, hfz83_2, hfz83_3, hfz83_4⟩ := bF5 BK331.out; obtain ⟨hcz84_0, hcz84_1, hcz84_2, hcz84_3, hcz84_4, hcz84_5, hcz84_6, hcz84_7, hcz84_8⟩ := bC9 BK324.out; obtain ⟨hfz84_0, hfz84_1, hfz84_2, hfz84_3, hfz84_4, hfz84_5, hfz84_6, hfz84_7, hfz84_8⟩ := bF9 BK324.out) | ((with_reducible refine gate_callee (f := 107) rfl ?_); refine goesL_ (some 21) rfl rfl Tryz.func107 (by kernel_rfl) rfl #[.int .i64 a0_7, .int .i64 a0_8, .int .i64 0, .int .i64 0] rfl mS ?_; (with_reducible refine (bucket_New.calls a0_7 a0_8 0 0 t332 t333 t334 t335 t336 _ A3.out).mono ?_); rintro e w85 ⟨rfl, hb⟩; refine ⟨_, rfl, ?_⟩; have n0_ := aA (blk_below (g := gb324) (o := .cells #[.string a0_0, .int .i64 a0_1, .int .i64 a0_2, .int .i64 a0_3, .int .i64 a0_4, .int .i64 a0_5, .int .i64 a0_6, .int .i64 a0_7, .int .i64 a0_8] 90 (0, 0)) (by (with_reducible repeat (first | refine blk_drewN ?_ _ | refine blk_drew ?_ | refine blk_alloc ?_ _)); refine blk_far ?_ NB324_331.out _; (with_reducible repeat (first | refine blk_drewN ?_ _ | refine blk_drew ?_ | refine blk_alloc ?_ _)); refine blk_far ?_ NB324_331.out _; (with_reducible repeat (first | refine blk_drewN ?_ _ | refine blk_drew ?_ | refine blk_alloc ?_ _)); refine blk_far ?_ NB324_331.out _; (with_reducible repeat (first | refine blk_drewN ?_ _ | refine blk_drew ?_ | refine blk_alloc ?_ _)); refine blk_far ?_ NB324_331.out _; (with_reducible repeat (first | refine blk_drewN ?_ _ | refine blk_drew ?_ | refine blk_alloc ?_ _)); refine blk_far ?_ NB324_331.out _; (with_reducible repeat (first | refine blk_drewN ?_ _ | refine blk_drew ?_ | refine blk_alloc ?_ _)); exact BK324.out) hb); have n1_ := aA (blk_below (g := gb331) (o := .cells #[.int .i64 t325, .int .i64 t326, .int .i64 t327, .int .i64 t328, .int .i64 t329] 141 (0, 0)) (by (with_reducible repeat (first | refine blk_drewN ?_ _ | refine blk_drew ?_ | refine blk_alloc ?_ _)); have h_ := BK331.out; exact pK 4 (pK 3 (pK 2 (pK 1 (pK 0 (h_)))))) hb); have n2_ := aA (below_step (mD2 GE324.out GE331.out) hb); clear BK324 BK331 HB; have BK324 := n0_; have BK331 := n1_; have HB := n2_; clear n0_ n1_ n2_; (try clear hb); (try clear hb2); (try clear hk); (try clear hi)) | ((with_reducible refine gate_dst (N := 5) rfl ?_); refine box_event ?hg (N := 5) ?hd (cs := #[.int .i64 0, .int .i64 0, .int .i64 0, .int .i64 0]) (t := 145) ?hr ?_; (case hd => rfl); (case hg => rfl); (case hr => first | (go_simp; done) | (go_simp; rfl)); intro gb337 hg w86 hbox hb; have n0_ := aA (bB BK324.out hb); have n1_ := aA (bB BK331.out hb); have n2_ := aA (below_step (mD2 GE324.out GE331.out) hb); have n3_ := aA (hbox); have n4_ := aA ((bZ hg (mD2 GE324.out GE331.out))); have n5_ := aA ((bZ hg (mD2 GE324.out GE331.out))); have n6_ := aA ((bL hg BK324.out)); have n7_ := aA ((bG hg BK324.out)); have n8_ := aA ((bL hg BK331.out)); have n9_ := aA ((bG hg BK331.out)); clear BK324 BK331 HB; have BK324 := n0_; have BK331 := n1_; have HB := n2_; have BK337 := n3_; have GW337 := n4_; have GE337 := n5_; have NB324_337 := n6_; have NB337_324 := n7_; have NB331_337 := n8_; have NB337_331 := n9_; clear n0_ n1_ n2_ n3_ n4_ n5_ n6_ n7_ n8_ n9_ hb hbox hg; have hnb87 := NB337_324.out; have hnc87 := NB324_337.out; have hnb88 := NB337_331.out; have hnc88 := NB331_337.out; obtain ⟨hcz89_0, hcz89_1, hcz89_2, hcz89_3⟩ := bC4 BK337.out; obtain ⟨hfz89_0, hfz89_1, hfz89_2, hfz89_3⟩ := bF4 BK337.out; obtain ⟨hcz90_0, hcz90_1, hcz90_2, hcz90_3, hcz90_4, hcz90_5, hcz90_6, hcz90_7, hcz90_8⟩ := bC9 BK324.out; obtain ⟨hfz90_0, hfz90_1, hfz90_2, hfz90_3, hfz90_4, hfz90_5, hfz90_6, hfz90_7, hfz90_8⟩ := bF9 BK324.out) | ((with_reducible refine gate_callee (f := 41) rfl ?_); refine goesL_ (some 27) rfl rfl Tryz.func41 (by kernel_rfl) rfl #[.agg #[.int .i64 3, .string a0_0, .string (⟨#[]⟩ : ByteArray)]] rfl mS ?_; (with_reducible refine (label_Matcher.calls 3 a0_0 (⟨#[]⟩ : ByteArray) true _ A4.out).mono ?_); rintro e w91 ⟨rfl, hb⟩; refine ⟨_, rfl, ?_⟩; have n0_ := aA (blk_below (g := gb324) (o := .cells #[.string a0_0, .int .i64 a0_1, .int .i64 a0_2, .int .i64 a0_3, .int .i64 a0_4, .int .i64 a0_5, .int .i64 a0_6, .int .i64 a0_7, .int .i64 a0_8] 90 (0, 0)) (by (with_reducible repeat (first | refine blk_drewN ?_ _ | refine blk_drew ?_ | refine blk_alloc ?_ _)); refine blk_far ?_ NB324_337.out _; (with_reducible repeat (first | refine blk_drewN ?_ _ | refine blk_drew ?_ | refine blk_alloc ?_ _)); refine blk_far ?_ NB324_337.out _; (with_reducible repeat (first | refine blk_drewN ?_ _ | refine blk_drew ?_ | refine blk_alloc ?_ _)); refine blk_far ?_ NB324_337.out _; (with_reducible repeat (first | refine blk_drewN ?_ _ | refine blk_drew ?_ | refine blk_alloc ?_ _)); refine blk_far ?_ NB324_337.out _; (with_reducible repeat (first | refine blk_drewN ?_ _ | refine blk_drew ?_ | refine blk_alloc ?_ _)); exact BK324.out) hb); have n1_ := aA (blk_below (g := gb331) (o := .cells #[.int .i64 t325, .int .i64 t326, .int .i64 t327, .int .i64 t328, .int .i64 t329] 141 (0, 0)) (by (with_reducible repeat (first | refine blk_drewN ?_ _ | refine blk_drew ?_ | refine blk_alloc ?_ _)); refine blk_far ?_ NB331_337.out _; (with_reducible repeat (first | refine blk_drewN ?_ _ | refine blk_drew ?_ | refine blk_alloc ?_ _)); refine blk_far ?_ NB331_337.out _; (with_reducible repeat (first | refine blk_drewN ?_ _ | refine blk_drew ?_ | refine blk_alloc ?_ _)); refine blk_far ?_ NB331_337.out _; (with_reducible repeat (first | refine blk_drewN ?_ _ | refine blk_drew ?_ | refine blk_alloc ?_ _)); refine blk_far ?_ NB331_337.out _; (with_reducible repeat (first | refine blk_drewN ?_ _ | refine blk_drew ?_ | refine blk_alloc ?_ _)); exact BK331.out) hb); have n2_ := aA (blk_below (g := gb337) (o := .cells #[.int .i64 t332, .int .i64 t333, .int .i64 t334, .int .i64 t335] 145 (0, 0)) (by (with_reducible repeat (first | refine blk_drewN ?_ _ | refine blk_drew ?_ | refine blk_alloc ?_ _)); have h_ := BK337.out; exact pK 3 (pK 2 (pK 1 (pK 0 (h_))))) hb); have n3_ := aA (below_step (mD3 GE324.out GE331.out GE337.out) hb); clear BK324 BK331 BK337 HB; have BK324 := n0_; have BK331 := n1_; have BK337 := n2_; have HB := n3_; clear n0_ n1_ n2_ n3_; (try clear hb); (try clear hb2); (try clear hk); (try clear hi); obtain ⟨hcz92_0, hcz92_1, hcz92_2, hcz92_3, hcz92_4, hcz92_5, hcz92_6, hcz92_7, hcz92_8⟩ := bC9 BK324.out; obtain ⟨hfz92_0, hfz92_1, hfz92_2, hfz92_3, hfz92_4, hfz92_5, hfz92_6, hfz92_7, hfz92_8⟩ := bF9 BK324.out) | (go_at_call 108; (with_reducible refine (backoff_Right.calls a0_1 a0_2 a0_3 true _ A22.out).mono ?_); rintro e w93 ⟨rfl, hb⟩; have n0_ := aA (bB BK324.out hb); have n1_ := aA (bB BK331.out hb); have n2_ := aA (bB BK337.out hb); have n3_ := aA (below_step (mD3 GE324.out GE331.out GE337.out) hb); clear BK324 BK331 BK337 HB; have BK324 := n0_; have BK331 := n1_; have BK337 := n2_; have HB := n3_; clear n0_ n1_ n2_ n3_; (try clear hb); (try clear hb2); (try clear hk); (try clear hi); obtain ⟨hcz94_0, hcz94_1, hcz94_2, hcz94_3, hcz94_4, hcz94_5, hcz94_6, hcz94_7, hcz94_8⟩ := bC9 BK324.out; obtain ⟨hfz94_0, hfz94_1, hfz94_2, hfz94_3, hfz94_4, hfz94_5, hfz94_6, hfz94_7, hfz94_8⟩ := bF9 BK324.out))
     go_ret
     exact ⟨by first | rfl | (simp [errW_none, errW_some] <;> rfl) | (simp [*, errW_none, errW_some] <;> rfl), by repeat (first | (with_reducible first | exact HB.out | apply below_alloc | apply pw_below_drewN | apply below_drew1 | refine below_set ?_ GE324.out | refine below_set ?_ GE331.out | refine below_set ?_ GE337.out) | exact HB.out)⟩
   ·replace c23 := Bool.eq_false_iff.mpr c23
    subst c23
    have H1 : (some false) = some r := by rw [if_neg (show ¬ (false = true) by decide)] at H; exact H
    clear H
    have H := H1
    clear H1
    obtain rfl := Option.some.inj H
    go_enter Tryz.func62, Tryz.ntmps62
    go_wp2_with (first | ((with_reducible refine gate_dst (N := 1) rfl ?_); refine box_event ?hg (N := 1) ?hd (cs := #[.string a0_0, .int .i64 a0_1, .int .i64 a0_2, .int .i64 a0_3, .int .i64 a0_4, .int .i64 a0_5, .int .i64 a0_6, .int .i64 a0_7, .int .i64 a0_8]) (t := 90) ?hr ?_; (case hd => rfl); (case hg => rfl); (case hr => first | (go_simp; done) | (go_simp; rfl)); intro gb324 hg w95 hbox hb; have n0_ := aA (below_step mB hb); have n1_ := aA (hbox); have n2_ := aA ((bZ hg mB)); have n3_ := aA ((bZ hg mB)); clear HB; have HB := n0_; have BK324 := n1_; have GW324 := n2_; have GE324 := n3_; clear n0_ n1_ n2_ n3_ hb hbox hg; obtain ⟨hcz96_0, hcz96_1, hcz96_2, hcz96_3, hcz96_4, hcz96_5, hcz96_6, hcz96_7, hcz96_8⟩ := bC9 BK324.out; obtain ⟨hfz96_0, hfz96_1, hfz96_2, hfz96_3, hfz96_4, hfz96_5, hfz96_6, hfz96_7, hfz96_8⟩ := bF9 BK324.out) | ((with_reducible refine gate_callee (f := 106) rfl ?_); refine goesL_ (some 13) rfl rfl Tryz.func106 (by kernel_rfl) rfl #[.int .i64 a0_5, .int .i64 a0_6] rfl mS ?_; (with_reducible refine (breaker_New.calls k a0_5 a0_6 t325 t326 t327 t328 t329 t330 _ A2.out).mono ?_); rintro e w97 ⟨rfl, hb⟩; refine ⟨_, rfl, ?_⟩; have n0_ := aA (bB BK324.out hb); have n1_ := aA (below_step (mD1 GE324.out) hb); clear BK324 HB; have BK324 := n0_; have HB := n1_; clear n0_ n1_; (try clear hb); (try clear hb2); (try clear hk); (try clear hi)) | ((with_reducible refine gate_dst (N := 3) rfl ?_); refine box_event ?hg (N := 3) ?hd (cs := #[.int .i64 0, .int .i64 0, .int .i64 0, .int .i64 0, .int .i64 0]) (t := 141) ?hr ?_; (case hd => rfl); (case hg => rfl); (case hr => first | (go_simp; done) | (go_simp; rfl)); intro gb331 hg w98 hbox hb; have n0_ := aA (bB BK324.out hb); have n1_ := aA (below_step (mD1 GE324.out) hb); have n2_ := aA (hbox); have n3_ := aA ((bZ hg (mD1 GE324.out))); have n4_ := aA ((bZ hg (mD1 GE324.out))); have n5_ := aA ((bL hg BK324.out)); have n6_ := aA ((bG hg BK324.out)); clear BK324 HB; have BK324 := n0_; have HB := n1_; have BK331 := n2_; have GW331 := n3_; have GE331 := n4_; have NB324_331 := n5_; have NB331_324 := n6_; clear n0_ n1_ n2_ n3_ n4_ n5_ n6_ hb hbox hg; have hnb99 := NB331_324.out; have hnc99 := NB324_331.out; obtain ⟨hcz100_0, hcz100_1, hcz100_2, hcz100_3, hcz100_4⟩ := bC5 BK331.out; obtain ⟨hfz100_0, hfz100_1, hfz100_2, hfz100_3, hfz100_4⟩ := bF5 BK331.out; obtain ⟨hcz101_0, hcz101_1, hcz101_2, hcz101_3, hcz101_4, hcz101_5, hcz101_6, hcz101_7, hcz101_8⟩ := bC9 BK324.out; obtain ⟨hfz101_0, hfz101_1, hfz101_2, hfz101_3, hfz101_4, hfz101_5, hfz101_6, hfz101_7, hfz101_8⟩ := bF9 BK324.out) | ((with_reducible refine gate_callee (f := 107) rfl ?_); refine goesL_ (some 21) rfl rfl Tryz.func107 (by kernel_rfl) rfl #[.int .i64 a0_7, .int .i64 a0_8, .int .i64 0, .int .i64 0] rfl mS ?_; (with_reducible refine (bucket_New.calls a0_7 a0_8 0 0 t332 t333 t334 t335 t336 _ A3.out).mono ?_); rintro e w102 ⟨rfl, hb⟩; refine ⟨_, rfl, ?_⟩; have n0_ := aA (blk_below (g := gb324) (o := .cells #[.string a0_0, .int .i64 a0_1, .int .i64 a0_2, .int .i64 a0_3, .int .i64 a0_4, .int .i64 a0_5, .int .i64 a0_6, .int .i64 a0_7, .int .i64 a0_8] 90 (0, 0)) (by (with_reducible repeat (first | refine blk_drewN ?_ _ | refine blk_drew ?_ | refine blk_alloc ?_ _)); refine blk_far ?_ NB324_331.out _; (with_reducible repeat (first | refine blk_drewN ?_ _ | refine blk_drew ?_ | refine blk_alloc ?_ _)); refine blk_far ?_ NB324_331.out _; (with_reducible repeat (first | refine blk_drewN ?_ _ | refine blk_drew ?_ | refine blk_alloc ?_ _)); refine blk_far ?_ NB324_331.out _; (with_reducible repeat (first | refine blk_drewN ?_ _ | refine blk_drew ?_ | refine blk_alloc ?_ _)); refine blk_far ?_ NB324_331.out _; (with_reducible repeat (first | refine blk_drewN ?_ _ | refine blk_drew ?_ | refine blk_alloc ?_ _)); refine blk_far ?_ NB324_331.out _; (with_reducible repeat (first | refine blk_drewN ?_ _ | refine blk_drew ?_ | refine blk_alloc ?_ _)); exact BK324.out) hb); have n1_ := aA (blk_below (g := gb331) (o := .cells #[.int .i64 t325, .int .i64 t326, .int .i64 t327, .int .i64 t328, .int .i64 t329] 141 (0, 0)) (by (with_reducible repeat (first | refine blk_drewN ?_ _ | refine blk_drew ?_ | refine blk_alloc ?_ _)); have h_ := BK331.out; exact pK 4 (pK 3 (pK 2 (pK 1 (pK 0 (h_)))))) hb); have n2_ := aA (below_step (mD2 GE324.out GE331.out) hb); clear BK324 BK331 HB; have BK324 := n0_; have BK331 := n1_; have HB := n2_; clear n0_ n1_ n2_; (try clear hb); (try clear hb2); (try clear hk); (try clear hi)) | ((with_reducible refine gate_dst (N := 5) rfl ?_); refine box_event ?hg (N := 5) ?hd (cs := #[.int .i64 0, .int .i64 0, .int .i64 0, .int .i64 0]) (t := 145) ?hr ?_; (case hd => rfl); (case hg => rfl); (case hr => first | (go_simp; done) | (go_simp; rfl)); intro gb337 hg w103 hbox hb; have n0_ := aA (bB BK324.out hb); have n1_ := aA (bB BK331.out hb); have n2_ := aA (below_step (mD2 GE324.out GE331.out) hb); have n3_ := aA (hbox); have n4_ := aA ((bZ hg (mD2 GE324.out GE331.out))); have n5_ := aA ((bZ hg (mD2 GE324.out GE331.out))); have n6_ := aA ((bL hg BK324.out)); have n7_ := aA ((bG hg BK324.out)); have n8_ := aA ((bL hg BK331.out)); have n9_ := aA ((bG hg BK331.out)); clear BK324 BK331 HB; have BK324 := n0_; have BK331 := n1_; have HB := n2_; have BK337 := n3_; have GW337 := n4_; have GE337 := n5_; have NB324_337 := n6_; have NB337_324 := n7_; have NB331_337 := n8_; have NB337_331 := n9_; clear n0_ n1_ n2_ n3_ n4_ n5_ n6_ n7_ n8_ n9_ hb hbox hg; have hnb104 := NB337_324.out; have hnc104 := NB324_337.out; have hnb105 := NB337_331.out; have hnc105 := NB331_337.out; obtain ⟨hcz106_0, hcz106_1, hcz106_2, hcz106_3⟩ := bC4 BK337.out; obtain ⟨hfz106_0, hfz106_1, hfz106_2, hfz106_3⟩ := bF4 BK337.out; obtain ⟨hcz107_0, hcz107_1, hcz107_2, hcz107_3, hcz107_4, hcz107_5, hcz107_6, hcz107_7, hcz107_8⟩ := bC9 BK324.out; obtain ⟨hfz107_0, hfz107_1, hfz107_2, hfz107_3, hfz107_4, hfz107_5, hfz107_6, hfz107_7, hfz107_8⟩ := bF9 BK324.out) | ((with_reducible refine gate_callee (f := 41) rfl ?_); refine goesL_ (some 27) rfl rfl Tryz.func41 (by kernel_rfl) rfl #[.agg #[.int .i64 3, .string a0_0, .string (⟨#[]⟩ : ByteArray)]] rfl mS ?_; (with_reducible refine (label_Matcher.calls 3 a0_0 (⟨#[]⟩ : ByteArray) true _ A4.out).mono ?_); rintro e w108 ⟨rfl, hb⟩; refine ⟨_, rfl, ?_⟩; have n0_ := aA (blk_below (g := gb324) (o := .cells #[.string a0_0, .int .i64 a0_1, .int .i64 a0_2, .int .i64 a0_3, .int .i64 a0_4, .int .i64 a0_5, .int .i64 a0_6, .int .i64 a0_7, .int .i64 a0_8] 90 (0, 0)) (by (with_reducible repeat (first | refine blk_drewN ?_ _ | refine blk_drew ?_ | refine blk_alloc ?_ _)); refine blk_far ?_ NB324_337.out _; (with_reducible repeat (first | refine blk_drewN ?_ _ | refine blk_drew ?_ | refine blk_alloc ?_ _)); refine blk_far ?_ NB324_337.out _; (with_reducible repeat (first | refine blk_drewN ?_ _ | refine blk_drew ?_ | refine blk_alloc ?_ _)); refine blk_far ?_ NB324_337.out _; (with_reducible repeat (first | refine blk_drewN ?_ _ | refine blk_drew ?_ | refine blk_alloc ?_ _)); refine blk_far ?_ NB324_337.out _; (with_reducible repeat (first | refine blk_drewN ?_ _ | refine blk_drew ?_ | refine blk_alloc ?_ _)); exact BK324.out) hb); have n1_ := aA (blk_below (g := gb331) (o := .cells #[.int .i64 t325, .int .i64 t326, .int .i64 t327, .int .i64 t328, .int .i64 t329] 141 (0, 0)) (by (with_reducible repeat (first | refine blk_drewN ?_ _ | refine blk_drew ?_ | refine blk_alloc ?_ _)); refine blk_far ?_ NB331_337.out _; (with_reducible repeat (first | refine blk_drewN ?_ _ | refine blk_drew ?_ | refine blk_alloc ?_ _)); refine blk_far ?_ NB331_337.out _; (with_reducible repeat (first | refine blk_drewN ?_ _ | refine blk_drew ?_ | refine blk_alloc ?_ _)); refine blk_far ?_ NB331_337.out _; (with_reducible repeat (first | refine blk_drewN ?_ _ | refine blk_drew ?_ | refine blk_alloc ?_ _)); refine blk_far ?_ NB331_337.out _; (with_reducible repeat (first | refine blk_drewN ?_ _ | refine blk_drew ?_ | refine blk_alloc ?_ _)); exact BK331.out) hb); have n2_ := aA (blk_below (g := gb337) (o := .cells #[.int .i64 t332, .int .i64 t333, .int .i64 t334, .int .i64 t335] 145 (0, 0)) (by (with_reducible repeat (first | refine blk_drewN ?_ _ | refine blk_drew ?_ | refine blk_alloc ?_ _)); have h_ := BK337.out; exact pK 3 (pK 2 (pK 1 (pK 0 (h_))))) hb); have n3_ := aA (below_step (mD3 GE324.out GE331.out GE337.out) hb); clear BK324 BK331 BK337 HB; have BK324 := n0_; have BK331 := n1_; have BK337 := n2_; have HB := n3_; clear n0_ n1_ n2_ n3_; (try clear hb); (try clear hb2); (try clear hk); (try clear hi); obtain ⟨hcz109_0, hcz109_1, hcz109_2, hcz109_3, hcz109_4, hcz109_5, hcz109_6, hcz109_7, hcz109_8⟩ := bC9 BK324.out; obtain ⟨hfz109_0, hfz109_1, hfz109_2, hfz109_3, hfz109_4, hfz109_5, hfz109_6, hfz109_7, hfz109_8⟩ := bF9 BK324.out) | (go_at_call 108; (with_reducible refine (backoff_Right.calls a0_1 a0_2 a0_3 false _ A22.out).mono ?_); rintro e w110 ⟨rfl, hb⟩; have n0_ := aA (bB BK324.out hb); have n1_ := aA (bB BK331.out hb); have n2_ := aA (bB BK337.out hb); have n3_ := aA (below_step (mD3 GE324.out GE331.out GE337.out) hb); clear BK324 BK331 BK337 HB; have BK324 := n0_; have BK331 := n1_; have BK337 := n2_; have HB := n3_; clear n0_ n1_ n2_ n3_; (try clear hb); (try clear hb2); (try clear hk); (try clear hi)))
    go_ret
    exact ⟨by first | rfl | (simp [errW_none, errW_some] <;> rfl) | (simp [*, errW_none, errW_some] <;> rfl), by repeat (first | (with_reducible first | exact HB.out | apply below_alloc | apply pw_below_drewN | apply below_drew1 | refine below_set ?_ GE324.out | refine below_set ?_ GE331.out | refine below_set ?_ GE337.out) | exact HB.out)⟩
 ·replace c5 := Bool.eq_false_iff.mpr c5
  subst c5
  have H1 : (some false) = some r := by rw [if_neg (show ¬ (false = true) by decide)] at H; exact H
  clear H
  have H := H1
  clear H1
  obtain rfl := Option.some.inj H
  go_enter Tryz.func62, Tryz.ntmps62
  go_wp2_with (first | ((with_reducible refine gate_dst (N := 1) rfl ?_); refine box_event ?hg (N := 1) ?hd (cs := #[.string a0_0, .int .i64 a0_1, .int .i64 a0_2, .int .i64 a0_3, .int .i64 a0_4, .int .i64 a0_5, .int .i64 a0_6, .int .i64 a0_7, .int .i64 a0_8]) (t := 90) ?hr ?_; (case hd => rfl); (case hg => rfl); (case hr => first | (go_simp; done) | (go_simp; rfl)); intro gb324 hg w111 hbox hb; have n0_ := aA (below_step mB hb); have n1_ := aA (hbox); have n2_ := aA ((bZ hg mB)); have n3_ := aA ((bZ hg mB)); clear HB; have HB := n0_; have BK324 := n1_; have GW324 := n2_; have GE324 := n3_; clear n0_ n1_ n2_ n3_ hb hbox hg; obtain ⟨hcz112_0, hcz112_1, hcz112_2, hcz112_3, hcz112_4, hcz112_5, hcz112_6, hcz112_7, hcz112_8⟩ := bC9 BK324.out; obtain ⟨hfz112_0, hfz112_1, hfz112_2, hfz112_3, hfz112_4, hfz112_5, hfz112_6, hfz112_7, hfz112_8⟩ := bF9 BK324.out) | ((with_reducible refine gate_callee (f := 106) rfl ?_); refine goesL_ (some 13) rfl rfl Tryz.func106 (by kernel_rfl) rfl #[.int .i64 a0_5, .int .i64 a0_6] rfl mS ?_; (with_reducible refine (breaker_New.calls k a0_5 a0_6 t325 t326 t327 t328 t329 t330 _ A2.out).mono ?_); rintro e w113 ⟨rfl, hb⟩; refine ⟨_, rfl, ?_⟩; have n0_ := aA (bB BK324.out hb); have n1_ := aA (below_step (mD1 GE324.out) hb); clear BK324 HB; have BK324 := n0_; have HB := n1_; clear n0_ n1_; (try clear hb); (try clear hb2); (try clear hk); (try clear hi)) | ((with_reducible refine gate_dst (N := 3) rfl ?_); refine box_event ?hg (N := 3) ?hd (cs := #[.int .i64 0, .int .i64 0, .int .i64 0, .int .i64 0, .int .i64 0]) (t := 141) ?hr ?_; (case hd => rfl); (case hg => rfl); (case hr => first | (go_simp; done) | (go_simp; rfl)); intro gb331 hg w114 hbox hb; have n0_ := aA (bB BK324.out hb); have n1_ := aA (below_step (mD1 GE324.out) hb); have n2_ := aA (hbox); have n3_ := aA ((bZ hg (mD1 GE324.out))); have n4_ := aA ((bZ hg (mD1 GE324.out))); have n5_ := aA ((bL hg BK324.out)); have n6_ := aA ((bG hg BK324.out)); clear BK324 HB; have BK324 := n0_; have HB := n1_; have BK331 := n2_; have GW331 := n3_; have GE331 := n4_; have NB324_331 := n5_; have NB331_324 := n6_; clear n0_ n1_ n2_ n3_ n4_ n5_ n6_ hb hbox hg; have hnb115 := NB331_324.out; have hnc115 := NB324_331.out; obtain ⟨hcz116_0, hcz116_1, hcz116_2, hcz116_3, hcz116_4⟩ := bC5 BK331.out; obtain ⟨hfz116_0, hfz116_1, hfz116_2, hfz116_3, hfz116_4⟩ := bF5 BK331.out; obtain ⟨hcz117_0, hcz117_1, hcz117_2, hcz117_3, hcz117_4, hcz117_5, hcz117_6, hcz117_7, hcz117_8⟩ := bC9 BK324.out; obtain ⟨hfz117_0, hfz117_1, hfz117_2, hfz117_3, hfz117_4, hfz117_5, hfz117_6, hfz117_7, hfz117_8⟩ := bF9 BK324.out) | ((with_reducible refine gate_callee (f := 107) rfl ?_); refine goesL_ (some 21) rfl rfl Tryz.func107 (by kernel_rfl) rfl #[.int .i64 a0_7, .int .i64 a0_8, .int .i64 0, .int .i64 0] rfl mS ?_; (with_reducible refine (bucket_New.calls a0_7 a0_8 0 0 t332 t333 t334 t335 t336 _ A3.out).mono ?_); rintro e w118 ⟨rfl, hb⟩; refine ⟨_, rfl, ?_⟩; have n0_ := aA (blk_below (g := gb324) (o := .cells #[.string a0_0, .int .i64 a0_1, .int .i64 a0_2, .int .i64 a0_3, .int .i64 a0_4, .int .i64 a0_5, .int .i64 a0_6, .int .i64 a0_7, .int .i64 a0_8] 90 (0, 0)) (by (with_reducible repeat (first | refine blk_drewN ?_ _ | refine blk_drew ?_ | refine blk_alloc ?_ _)); refine blk_far ?_ NB324_331.out _; (with_reducible repeat (first | refine blk_drewN ?_ _ | refine blk_drew ?_ | refine blk_alloc ?_ _)); refine blk_far ?_ NB324_331.out _; (with_reducible repeat (first | refine blk_drewN ?_ _ | refine blk_drew ?_ | refine blk_alloc ?_ _)); refine blk_far ?_ NB324_331.out _; (with_reducible repeat (first | refine blk_drewN ?_ _ | refine blk_drew ?_ | refine blk_alloc ?_ _)); refine blk_far ?_ NB324_331.out _; (with_reducible repeat (first | refine blk_drewN ?_ _ | refine blk_drew ?_ | refine blk_alloc ?_ _)); refine blk_far ?_ NB324_331.out _; (with_reducible repeat (first | refine blk_drewN ?_ _ | refine blk_drew ?_ | refine blk_alloc ?_ _)); exact BK324.out) hb); have n1_ := aA (blk_below (g := gb331) (o := .cells #[.int .i64 t325, .int .i64 t326, .int .i64 t327, .int .i64 t328, .int .i64 t329] 141 (0, 0)) (by (with_reducible repeat (first | refine blk_drewN ?_ _ | refine blk_drew ?_ | refine blk_alloc ?_ _)); have h_ := BK331.out; exact pK 4 (pK 3 (pK 2 (pK 1 (pK 0 (h_)))))) hb); have n2_ := aA (below_step (mD2 GE324.out GE331.out) hb); clear BK324 BK331 HB; have BK324 := n0_; have BK331 := n1_; have HB := n2_; clear n0_ n1_ n2_; (try clear hb); (try clear hb2); (try clear hk); (try clear hi)) | ((with_reducible refine gate_dst (N := 5) rfl ?_); refine box_event ?hg (N := 5) ?hd (cs := #[.int .i64 0, .int .i64 0, .int .i64 0, .int .i64 0]) (t := 145) ?hr ?_; (case hd => rfl); (case hg => rfl); (case hr => first | (go_simp; done) | (go_simp; rfl)); intro gb337 hg w119 hbox hb; have n0_ := aA (bB BK324.out hb); have n1_ := aA (bB BK331.out hb); have n2_ := aA (below_step (mD2 GE324.out GE331.out) hb); have n3_ := aA (hbox); have n4_ := aA ((bZ hg (mD2 GE324.out GE331.out))); have n5_ := aA ((bZ hg (mD2 GE324.out GE331.out))); have n6_ := aA ((bL hg BK324.out)); have n7_ := aA ((bG hg BK324.out)); have n8_ := aA ((bL hg BK331.out)); have n9_ := aA ((bG hg BK331.out)); clear BK324 BK331 HB; have BK324 := n0_; have BK331 := n1_; have HB := n2_; have BK337 := n3_; have GW337 := n4_; have GE337 := n5_; have NB324_337 := n6_; have NB337_324 := n7_; have NB331_337 := n8_; have NB337_331 := n9_; clear n0_ n1_ n2_ n3_ n4_ n5_ n6_ n7_ n8_ n9_ hb hbox hg; have hnb120 := NB337_324.out; have hnc120 := NB324_337.out; have hnb121 := NB337_331.out; have hnc121 := NB331_337.out; obtain ⟨hcz122_0, hcz122_1, hcz122_2, hcz122_3⟩ := bC4 BK337.out; obtain ⟨hfz122_0, hfz122_1, hfz122_2, hfz122_3⟩ := bF4 BK337.out; obtain ⟨hcz123_0, hcz123_1, hcz123_2, hcz123_3, hcz123_4, hcz123_5, hcz123_6, hcz123_7, hcz123_8⟩ := bC9 BK324.out; obtain ⟨hfz123_0, hfz123_1, hfz123_2, hfz123_3, hfz123_4, hfz123_5, hfz123_6, hfz123_7, hfz123_8⟩ := bF9 BK324.out) | ((with_reducible refine gate_callee (f := 41) rfl ?_); refine goesL_ (some 27) rfl rfl Tryz.func41 (by kernel_rfl) rfl #[.agg #[.int .i64 3, .string a0_0, .string (⟨#[]⟩ : ByteArray)]] rfl mS ?_; (with_reducible refine (label_Matcher.calls 3 a0_0 (⟨#[]⟩ : ByteArray) false _ A4.out).mono ?_); rintro e w124 ⟨rfl, hb⟩; refine ⟨_, rfl, ?_⟩; have n0_ := aA (blk_below (g := gb324) (o := .cells #[.string a0_0, .int .i64 a0_1, .int .i64 a0_2, .int .i64 a0_3, .int .i64 a0_4, .int .i64 a0_5, .int .i64 a0_6, .int .i64 a0_7, .int .i64 a0_8] 90 (0, 0)) (by (with_reducible repeat (first | refine blk_drewN ?_ _ | refine blk_drew ?_ | refine blk_alloc ?_ _)); refine blk_far ?_ NB324_337.out _; (with_reducible repeat (first | refine blk_drewN ?_ _ | refine blk_drew ?_ | refine blk_alloc ?_ _)); refine blk_far ?_ NB324_337.out _; (with_reducible repeat (first | refine blk_drewN ?_ _ | refine blk_drew ?_ | refine blk_alloc ?_ _)); refine blk_far ?_ NB324_337.out _; (with_reducible repeat (first | refine blk_drewN ?_ _ | refine blk_drew ?_ | refine blk_alloc ?_ _)); refine blk_far ?_ NB324_337.out _; (with_reducible repeat (first | refine blk_drewN ?_ _ | refine blk_drew ?_ | refine blk_alloc ?_ _)); exact BK324.out) hb); have n1_ := aA (blk_below (g := gb331) (o := .cells #[.int .i64 t325, .int .i64 t326, .int .i64 t327, .int .i64 t328, .int .i64 t329] 141 (0, 0)) (by (with_reducible repeat (first | refine blk_drewN ?_ _ | refine blk_drew ?_ | refine blk_alloc ?_ _)); refine blk_far ?_ NB331_337.out _; (with_reducible repeat (first | refine blk_drewN ?_ _ | refine blk_drew ?_ | refine blk_alloc ?_ _)); refine blk_far ?_ NB331_337.out _; (with_reducible repeat (first | refine blk_drewN ?_ _ | refine blk_drew ?_ | refine blk_alloc ?_ _)); refine blk_far ?_ NB331_337.out _; (with_reducible repeat (first | refine blk_drewN ?_ _ | refine blk_drew ?_ | refine blk_alloc ?_ _)); refine blk_far ?_ NB331_337.out _; (with_reducible repeat (first | refine blk_drewN ?_ _ | refine blk_drew ?_ | refine blk_alloc ?_ _)); exact BK331.out) hb); have n2_ := aA (blk_below (g := gb337) (o := .cells #[.int .i64 t332, .int .i64 t333, .int .i64 t334, .int .i64 t335] 145 (0, 0)) (by (with_reducible repeat (first | refine blk_drewN ?_ _ | refine blk_drew ?_ | refine blk_alloc ?_ _)); have h_ := BK337.out; exact pK 3 (pK 2 (pK 1 (pK 0 (h_))))) hb); have n3_ := aA (below_step (mD3 GE324.out GE331.out GE337.out) hb); clear BK324 BK331 BK337 HB; have BK324 := n0_; have BK331 := n1_; have BK337 := n2_; have HB := n3_; clear n0_ n1_ n2_ n3_; (try clear hb); (try clear hb2); (try clear hk); (try clear hi)))
  go_ret
  exact ⟨by first | rfl | (simp [errW_none, errW_some] <;> rfl) | (simp [*, errW_none, errW_some] <;> rfl), by repeat (first | (with_reducible first | exact HB.out | apply below_alloc | apply pw_below_drewN | apply below_drew1 | refine below_set ?_ GE324.out | refine below_set ?_ GE331.out | refine below_set ?_ GE337.out) | exact HB.out)⟩
end Go.Proofs.YtjfknmlchdifjaaGreatDoorQ.P
namespace Go.Proofs.YtjfknmlchdifjaaGreatDoor
open Go.RowKit
attribute [local go_sem high] ext_size ext_cell ext_frozen alloc_cell alloc_frozen
attribute [local go_sem] lt_more lt_suc drew_size drew_cell
def PredR (f : FuncId) (caps : Array Value) (w : World) (p : Rcv → Bool) (xs : List Rcv) : Prop :=
  ∀ x ∈ xs, ∀ W, Below w.heap.size w W → Calls Tryz.prog f (#[rcvV x] ++ caps) W fun e W' => e = .returned (.bool (p x)) ∧ Below W.heap.size W W'
theorem indexFuncR (v : Value) (xs : List Rcv) (f : FuncId) (caps : Array Value) (p : Rcv → Bool) (w : World) (hS : SlAt w v 9 xs.length (rcvsC xs)) (hp : PredR f caps w p xs) (hf : Enters Tryz.prog f) :
    Calls Tryz.prog 109 #[v, .func (.func f) #[] caps] w fun e w' => e = .returned (.int .i64 (idxOf p xs)) ∧ Below w.heap.size w w' := by
  obtain ⟨a, c, rfl, hnc, hcm⟩ := hS.form
  have hm := hS.le
  have HS := Lib.hid hS
  have HP := Lib.hid hp
  clear hS hp
  unfold maxLen at hm
  go_enter Tryz.func109, Tryz.ntmps109
  go_wp2
  go_loopw [5, 8] (fun _ i wr => ∃ k : Nat, k ≤ xs.length ∧ i = .int .i64 k ∧ (∀ j (hj : j < xs.length), j < k → p xs[j] = false) ∧ Below w.heap.size w wr) (fun _ i _ => xs.length - (intOf i).toNat)
  case atStart => exact ⟨0, Nat.zero_le _, rfl, fun j _ hj => absurd hj (by omega), Below.refl _ _⟩
  case round =>
    obtain ⟨k, hk, rfl, hno, hbel⟩ := hrel
    have HN := Lib.hid hno
    clear hno
    obtain ⟨xr, rfl⟩ := ext_of hbel
    by_cases hlt : k < xs.length
    · obtain ⟨b, o, rfl, hbl, hcell⟩ := HS.out.at (by omega)
      have hg := rcvs_get xs k hlt
      have hck0 : w.cell? ⟨b, o + k * 9, none⟩ = some (.string xs[k].name) := by exact hcell _ _ hg.1
      have hck1 : w.cell? ⟨b, o + k * 9 + 1, none⟩ = some (.int .i64 xs[k].base) := by rw [Nat.add_assoc]; exact hcell _ _ hg.2.1
      have hck2 : w.cell? ⟨b, o + k * 9 + 2, none⟩ = some (.int .i64 xs[k].top) := by rw [Nat.add_assoc]; exact hcell _ _ hg.2.2.1
      have hck3 : w.cell? ⟨b, o + k * 9 + 3, none⟩ = some (.int .i64 xs[k].jit) := by rw [Nat.add_assoc]; exact hcell _ _ hg.2.2.2.1
      have hck4 : w.cell? ⟨b, o + k * 9 + 4, none⟩ = some (.int .i64 xs[k].tries) := by rw [Nat.add_assoc]; exact hcell _ _ hg.2.2.2.2.1
      have hck5 : w.cell? ⟨b, o + k * 9 + 5, none⟩ = some (.int .i64 xs[k].fails) := by rw [Nat.add_assoc]; exact hcell _ _ hg.2.2.2.2.2.1
      have hck6 : w.cell? ⟨b, o + k * 9 + 6, none⟩ = some (.int .i64 xs[k].opn) := by rw [Nat.add_assoc]; exact hcell _ _ hg.2.2.2.2.2.2.1
      have hck7 : w.cell? ⟨b, o + k * 9 + 7, none⟩ = some (.int .i64 xs[k].burst) := by rw [Nat.add_assoc]; exact hcell _ _ hg.2.2.2.2.2.2.2.1
      have hck8 : w.cell? ⟨b, o + k * 9 + 8, none⟩ = some (.int .i64 xs[k].every) := by rw [Nat.add_assoc]; exact hcell _ _ hg.2.2.2.2.2.2.2.2
      clear hcell hg
      have hcall : Calls Tryz.prog f (#[Value.agg #[.string xs[k].name, .int .i64 xs[k].base, .int .i64 xs[k].top, .int .i64 xs[k].jit, .int .i64 xs[k].tries, .int .i64 xs[k].fails, .int .i64 xs[k].opn, .int .i64 xs[k].burst, .int .i64 xs[k].every]] ++ caps) (ext w xr) fun e W' => e = .returned (.bool (p xs[k])) ∧ Below (ext w xr).heap.size (ext w xr) W' := HP.out xs[k] (List.getElem_mem hlt) (ext w xr) hbel
      have he := hf (#[Value.agg #[.string xs[k].name, .int .i64 xs[k].base, .int .i64 xs[k].top, .int .i64 xs[k].jit, .int .i64 xs[k].tries, .int .i64 xs[k].fails, .int .i64 xs[k].opn, .int .i64 xs[k].burst, .int .i64 xs[k].every]] ++ caps) (ext w xr)
      cases hpx : p xs[k]
      all_goals
        rw [hpx] at hcall
        have HX := Lib.hid hpx
        have HC := Lib.hid hcall
        clear hpx hcall hbel
        go_wp2_with (refine Calls.mono HC.out ?_; rintro e w1 ⟨rfl, hb1⟩)
      · refine ⟨⟨k + 1, by omega, by go_num, fun j hj hjk => ?_, bel (ext_bel w xr) hb1⟩, by simp [intOf]; omega⟩
        rcases Nat.lt_succ_iff_lt_or_eq.1 hjk with h | rfl
        · exact HN.out j hj h
        · exact HX.out
      · go_ret
        exact ⟨ret_int (idxOf_found hlt HX.out fun j hj => HN.out j (by omega) hj).symm, bel (ext_bel w xr) hb1⟩
    · obtain rfl : k = xs.length := by omega
      go_wp2
      go_ret
      exact ⟨ret_int (idxOf_none fun j hj => HN.out j hj hj).symm, ext_bel w xr⟩
theorem place1_any (x : Rcv) (g : Nat) (nm : ByteArray) (w : World) (hc : w.cell? ⟨g, 0, none⟩ = some (.string nm)) (hg : g < w.heap.size) :
    Calls Tryz.prog 110 #[rcvV x, .pointer (some ⟨g, 0, none⟩)] w fun e w' => e = .returned (.bool (namedB nm x)) ∧ Below w.heap.size w w' := by
  obtain ⟨n, a, b, c, d, e, f, h, i⟩ := x
  unfold rcvV namedB
  go_enter Tryz.func110, Tryz.ntmps110
  go_wp2_with fail
  go_ret
  exact ⟨rfl, (by repeat (first | exact Below.refl _ _ | apply bal | apply bext | apply bdr | apply bdrN | (refine bst ?_ _ (by simp only [ext_size, size_alloc, size_set]; omega))))⟩
theorem place_any (v : Value) (xs : List Rcv) (nm : ByteArray) (w : World) (hS : SlAt w v 9 xs.length (rcvsC xs)) :
    Calls Tryz.prog 63 #[v, .string nm] w fun e w' => e = .returned (.int .i64 (placeL xs nm)) ∧ Below w.heap.size w w' := by
  obtain ⟨a, c, rfl, hnc, hcm⟩ := hS.form
  have hen : Enters Tryz.prog 110 := enters_of Tryz.func110 (by kernel_rfl) rfl
  have H := Lib.hid fun (g : Nat) W (h : SlAt W (Value.slice a xs.length c) 9 xs.length (rcvsC xs)) (hc : W.cell? ⟨g, 0, none⟩ = some (.string nm)) (hg : g < W.heap.size) =>
    indexFuncR (.slice a xs.length c) xs 110 #[.pointer (some ⟨g, 0, none⟩)] (namedB nm) W h (fun x hx W' hW' => place1_any x g nm W' ((hW'.cell (p := ⟨g, 0, none⟩) hg).trans hc) (Nat.lt_of_lt_of_le hg hW'.size)) hen
  have HS := Lib.hid hS
  unfold placeL
  generalize idxOf (namedB nm) xs = q at H ⊢
  clear hS hen
  go_enter Tryz.func63, Tryz.ntmps63
  go_wp2_with fail
  refine (H.out w.heap.size _ (HS.out.stay (by repeat (first | exact Below.refl _ _ | apply bal | apply bext | apply bdr | apply bdrN | (refine bst ?_ _ (by simp only [ext_size, size_alloc, size_set]; omega))))) (by simp only [alloc_cell, size_alloc]; simp) (by rw [size_alloc]; omega)).mono ?_
  rintro e w' ⟨rfl, hb⟩
  obtain ⟨y, rfl⟩ := ext_of hb
  clear hb
  go_wp2_with fail
  go_ret
  exact ⟨rfl, (by repeat (first | exact Below.refl _ _ | apply bal | apply bext | apply bdr | apply bdrN | (refine bst ?_ _ (by simp only [ext_size, size_alloc, size_set]; omega))))⟩
end Go.Proofs.YtjfknmlchdifjaaGreatDoor
namespace Go.Proofs.YtjfknmlchdifjaaGreatDoor
open Go.RowKit Go.Maps
attribute [local go_sem high] ext_size ext_cell ext_frozen alloc_cell alloc_frozen
attribute [local go_sem] lt_more lt_suc drew_size drew_cell
theorem isRoute1_any (x : Mat) (w : World) (h1 : x.name.size ≤ maxLen) (h2 : x.value.size ≤ maxLen) :
    Calls Tryz.prog 112 #[matV x] w fun e w' => e = .returned (.bool (!matB x)) ∧ Below w.heap.size w w' := by
  have H := Lib.hid fun W => matcher_any x W h1 h2
  obtain ⟨k, n, v⟩ := x
  obtain ⟨b, hb⟩ : ∃ b, b = matB ⟨k, n, v⟩ := ⟨_, rfl⟩
  rw [← hb] at H ⊢
  unfold matV at *
  clear hb
  go_enter Tryz.func112, Tryz.ntmps112
  go_wp2_with fail
  refine (H.out _).mono ?_
  rintro e w' ⟨rfl, hb⟩
  obtain ⟨y1, rfl⟩ := ext_of hb
  clear hb
  go_wp2_with fail
  go_ret
  exact ⟨rfl, (by repeat (first | exact Below.refl _ _ | apply bal | apply bext | apply bdr | apply bdrN | (refine bst ?_ _ (by simp only [ext_size, size_alloc, size_set]; omega))))⟩
def metD (l : List Int) : DataW Unit := l.foldl (fun D x => D.put (.int .i64 x) (.lit (.int .i64 1))) (.map [])
theorem metD_snoc (l : List Int) (x : Int) : metD (l ++ [x]) = (metD l).put (.int .i64 x) (.lit (.int .i64 1)) := by simp [metD]
theorem met_map : ∀ (l : List Int) (D : DataW Unit), IsMap D → IsMap (l.foldl (fun D x => D.put (.int .i64 x) (.lit (.int .i64 1))) D)
  | [], _, h => h
  | x :: l, D, h => met_map l _ (h.put _ _)
theorem met_at (x : Int) (z : DataW Unit) : ∀ (l : List Int) (D : DataW Unit), IsMap D → (l.foldl (fun D x => D.put (.int .i64 x) (.lit (.int .i64 1))) D).atKey (.int .i64 x) z = if x ∈ l then .lit (.int .i64 1) else D.atKey (.int .i64 x) z
  | [], _, _ => by simp
  | y :: l, D, h => by
    rw [List.foldl_cons, met_at x z l _ (h.put _ _)]
    by_cases hl : x ∈ l
    · simp [hl]
    · by_cases hy : x = y
      · subst hy
        rw [if_neg hl, if_pos (by simp), atKey_put_same h (show WideAt.IsKeyLit (.int .i64 x) from trivial)]
      · rw [if_neg hl, if_neg (by simp [hl, hy]), atKey_put_other (by intro e; injection e with _ e; exact hy e)]
theorem metD_map (l : List Int) : IsMap (metD l) := met_map l _ isMap_empty
theorem metD_at (l : List Int) (x : Int) (z : DataW Unit) : (metD l).atKey (.int .i64 x) z = if x ∈ l then .lit (.int .i64 1) else z := by
  unfold metD
  rw [met_at x z l _ isMap_empty]
  rfl
theorem law3 : Keyed Tryz.prog 3 := int_keyed Tryz.underlying3
theorem zero3 (w : World) : (zeroValue 3).run Tryz.prog w = .ok (.int .i64 0) w := by kernel_rfl
def intsC (xs : List Int) : List Value := xs.map (Value.int .i64)
theorem chainB_at {n : Int} : ∀ (l seen : List Int) (k : Nat) (h : k < l.length), chainB n seen l = true → l[k] ∉ seen ++ l.take k ∧ 0 ≤ l[k] ∧ l[k] < n := by
  intro l
  induction l with
  | nil => intro seen k h; simp at h
  | cons x l ih =>
    intro seen k h hb
    simp only [chainB, Bool.and_eq_true, Bool.not_eq_true', decide_eq_true_eq] at hb
    cases k with
    | zero => exact ⟨by simpa using hb.1.1.1, hb.1.1.2, hb.1.2⟩
    | succ k =>
      have := ih (seen ++ [x]) k (by simpa using h) hb.2
      simpa using this
theorem chainB_of {n : Int} : ∀ (l seen : List Int), (∀ k (h : k < l.length), l[k] ∉ seen ++ l.take k ∧ 0 ≤ l[k] ∧ l[k] < n) → chainB n seen l = true := by
  intro l
  induction l with
  | nil => intro seen _; rfl
  | cons x l ih =>
    intro seen h
    have h0 := h 0 (by simp)
    simp only [chainB, Bool.and_eq_true, Bool.not_eq_true', decide_eq_true_eq]
    refine ⟨⟨⟨by simpa using h0.1, h0.2.1⟩, h0.2.2⟩, ih (seen ++ [x]) fun k hk => ?_⟩
    have := h (k + 1) (by simpa using hk)
    simpa using this
theorem chain_bad {n : Int} {l : List Int} {k : Nat} (h : k < l.length) (hb : l[k] ∈ l.take k ∨ l[k] < 0 ∨ n ≤ l[k]) : chainB n [] l = false := by
  cases e : chainB n [] l with
  | false => rfl
  | true =>
    have := chainB_at l [] k h e
    rw [List.nil_append] at this
    rcases hb with hb | hb | hb
    · exact absurd hb this.1
    · omega
    · omega
theorem rte_bad {x : Rte} {n : Int} (h : chainB n [] x.chain = false) : false = rteB x n := by unfold rteB; rw [h]; rfl
theorem lit_inj {D : DataW Unit} {a b : Int} (h : D = .lit (.int .i64 a)) (h2 : D = .lit (.int .i64 b)) : a = b := by
  rw [h] at h2
  injection h2 with h2
  injection h2
structure RL (w : World) (v1 v2 : Value) (l : List Int) (n : Int) (k : Nat) (wr : World) : Prop where
  le : k ≤ l.length
  ok : ∀ j (h : j < l.length), j < k → l[j] ∉ l.take j ∧ 0 ≤ l[j] ∧ l[j] < n
  own : wr.ownsMap Tryz.prog 3 (plainElem Tryz.prog 3) (w.heap.size + 1) k (metD (l.take k))
  bel : Below w.heap.size w wr
  box : wr.heap[w.heap.size]? = some (.cells #[v1, v2] 93 (0, 0))
set_option maxHeartbeats 4000000 in
set_option maxRecDepth 100000 in
theorem isRoute_any (a1 a2 : Option Addr) (c1 c2 : Nat) (x : Rte) (n : Int) (w : World) (h1 : SlAt w (.slice a1 x.chain.length c1) 1 x.chain.length (intsC x.chain)) (h2 : SlAt w (.slice a2 x.asked.length c2) 3 x.asked.length (matsC x.asked)) (hm : MatsOk x.asked) (hwf : ∀ k ∈ x.chain, (Lit.int .i64 k).wf = true) (hl : x.chain.length ≤ maxLen) :
    Calls Tryz.prog 66 #[.agg #[.slice a1 x.chain.length c1, .slice a2 x.asked.length c2], .int .i64 n] w fun e w' => e = .returned (.bool (rteB x n)) ∧ Below w.heap.size w w' := by
  have hmm := @run_makeMap Tryz.prog
  have hen : Enters Tryz.prog 112 := enters_of Tryz.func112 (by kernel_rfl) rfl
  have HC := Lib.hid fun W (h : SlAt W (Value.slice a2 x.asked.length c2) 3 x.asked.length (matsC x.asked)) => containsFuncM _ x.asked 112 #[] (fun m => !matB m) W h (fun x hx W' _ => isRoute1_any x W' (hm x hx).1 (hm x hx).2) hen
  have H1 := Lib.hid h1
  have H2 := Lib.hid h2
  have HW := Lib.hid hwf
  have hm2 := h2.le
  unfold maxLen at hm2 hl
  have HB := Lib.hid (fun (k : Nat) (h : k < x.chain.length) (hb : x.chain[k] ∈ x.chain.take k ∨ x.chain[k] < 0 ∨ n ≤ x.chain[k]) => rte_bad (chain_bad h hb))
  have HOK := Lib.hid (show ∀ q, q = x.asked.any (fun m => !matB m) → (∀ k (h : k < x.chain.length), x.chain[k] ∉ x.chain.take k ∧ 0 ≤ x.chain[k] ∧ x.chain[k] < n) → (decide (1 ≤ x.chain.length) && decide (x.chain.length ≤ 4) && decide (x.asked.length ≤ 4) && !q) = rteB x n from fun q hq h => by
    unfold rteB
    rw [chainB_of x.chain [] (by simpa using h), Bool.true_and, hq])
  obtain ⟨q, hq⟩ : ∃ q, q = x.asked.any (fun m => !matB m) := ⟨_, rfl⟩
  rw [← hq] at HC
  have HQ := Lib.hid hq
  generalize rteB x n = res at HB HOK ⊢
  clear h1 h2 hm hwf hen hq
  obtain ⟨chain, asked⟩ := x
  simp only at *
  go_enter Tryz.func66, Tryz.ntmps66
  go_wp2
  go_loopw [7, 13] (fun _ i wr => ∃ k : Nat, i = .int .i64 k ∧ RL w (.slice a1 chain.length c1) (.slice a2 asked.length c2) chain n k wr) (fun _ i _ => chain.length - (intOf i).toNat)
  case atStart =>
    refine ⟨0, rfl, Nat.zero_le _, fun j _ h => absurd h (by omega), ?_, ?_, ?_⟩
    · have := World.ownsMap_made (w.alloc (.cells #[.slice a1 chain.length c1, .slice a2 asked.length c2] 93)) Tryz.prog 3 (plainElem (H := Unit) Tryz.prog 3)
      rw [size_alloc] at this
      exact this
    · exact ((Below.refl _ _).alloc (Nat.le_refl _) _).alloc (by rw [size_alloc]; omega) _
    · rw [Below.heap_alloc _ _ _ (by rw [size_alloc]; omega)]
      exact blk_new _ _
  case round =>
    obtain ⟨k, rfl, hr⟩ := hrel
    have HR := Lib.hid hr
    obtain ⟨hk, hok, hown, hbel, hbox⟩ := hr
    have hb0 : wr.cell? ⟨w.heap.size, 0, none⟩ = some (.slice a1 chain.length c1) := blk_cell hbox rfl
    have hb1 : wr.cell? ⟨w.heap.size, 1, none⟩ = some (.slice a2 asked.length c2) := blk_cell hbox rfl
    clear hok hbel hbox
    by_cases hlt : k < chain.length
    · have hS := H1.out.stay HR.out.bel
      obtain ⟨b, o, ha, hbl, hcell⟩ := hS.at (by omega)
      obtain rfl := ha
      have hck : wr.cell? ⟨b, o + k, none⟩ = some (.int .i64 chain[k]) := hcell _ _ (by unfold intsC; rw [List.getElem?_map, List.getElem?_eq_getElem hlt]; rfl)
      clear hS hcell
      have hwk := HW.out chain[k] (List.getElem_mem hlt)
      have hkey : keyOf Tryz.prog 3 (.int .i64 chain[k]) = some (.int .i64 chain[k]) := keyOf_int_mk Tryz.underlying3 hwk
      have HB' := Lib.hid (HB.out k hlt)
      have hat0 := metD_at (chain.take k) chain[k] (.lit (.int .i64 0))
      have HSN := Lib.hid (metD_snoc (chain.take k) chain[k])
      have HT := Lib.hid (show chain.take (k + 1) = chain.take k ++ [chain[k]] from List.take_succ_eq_append_getElem hlt)
      have HSM := Lib.hid (fun d z => atKey_put_same (metD_map (chain.take k)) (show WideAt.IsKeyLit (.int .i64 chain[k]) from trivial) d z)
      obtain ⟨y, hy⟩ : ∃ y, y = chain[k] := ⟨_, rfl⟩
      have HY := Lib.hid hy
      rw [← hy] at hck hwk hkey HB' hat0 HSN HT HSM
      clear hy
      by_cases hin : y ∈ chain.take k
      · rw [if_pos hin] at hat0
        have HI := Lib.hid hin
        clear hin
        go_wp2_with (first
          | (at_lookup; refine wpList_lookup_own_int _ rfl _ _ 151 rfl 3 3 .i64 law3 Tryz.underlying151 Tryz.underlying3 (zero3 _) (w.heap.size + 1) k _ rfl hown _ _ rfl hkey ?_; intro cc hat hwc; obtain rfl := lit_inj hat0 hat; clear hat hwc)
          | (at_mapUpdate; refine wpList_mapUpdate_own _ rfl _ _ _ 151 rfl 3 3 law3 Tryz.underlying151 _ (w.heap.size + 1) k _ rfl hown (by unfold maxLen; omega) _ _ _ rfl rfl hkey (.lit (.int .i64 2)) [] (plainElem_int Tryz.underlying3 (by decide)) ?_; intro w1 hown1 hgrow1)
          | (at_lookup; refine wpList_lookup_own_int _ rfl _ _ 151 rfl 3 3 .i64 law3 Tryz.underlying151 Tryz.underlying3 (zero3 _) (w.heap.size + 1) (k + 1) _ rfl hown1 _ _ rfl hkey ?_; intro dd hat2 hwd; obtain rfl := lit_inj (HSM.out (.lit (.int .i64 2)) (.lit (.int .i64 0))) hat2; clear hat2 hwd))
        go_ret
        exact ⟨ret_bool (HB'.out (.inl HI.out)), HR.out.bel.grown hgrow1 HR.out.bel.size (fun j hj => by cases hj; omega)⟩
      · rw [if_neg hin] at hat0
        have HI := Lib.hid hin
        clear hin
        by_cases hneg : y < 0
        · have hneg' := hneg
          go_wp2_with (first
            | (at_lookup; refine wpList_lookup_own_int _ rfl _ _ 151 rfl 3 3 .i64 law3 Tryz.underlying151 Tryz.underlying3 (zero3 _) (w.heap.size + 1) k _ rfl hown _ _ rfl hkey ?_; intro cc hat hwc; obtain rfl := lit_inj hat0 hat; clear hat hwc)
            | (at_mapUpdate; refine wpList_mapUpdate_own _ rfl _ _ _ 151 rfl 3 3 law3 Tryz.underlying151 _ (w.heap.size + 1) k _ rfl hown (by unfold maxLen; omega) _ _ _ rfl rfl hkey (.lit (.int .i64 1)) [] (plainElem_int Tryz.underlying3 (by decide)) ?_; intro w1 hown1 hgrow1)
            | (at_lookup; refine wpList_lookup_own_int _ rfl _ _ 151 rfl 3 3 .i64 law3 Tryz.underlying151 Tryz.underlying3 (zero3 _) (w.heap.size + 1) (k + 1) _ rfl hown1 _ _ rfl hkey ?_; intro dd hat2 hwd; obtain rfl := lit_inj (HSM.out (.lit (.int .i64 1)) (.lit (.int .i64 0))) hat2; clear hat2 hwd))
          go_ret
          exact ⟨ret_bool (HB'.out (.inr (.inl hneg'))), HR.out.bel.grown hgrow1 HR.out.bel.size (fun j hj => by cases hj; omega)⟩
        · by_cases hge : n ≤ y
          · have hge' := hge
            go_wp2_with (first
              | (at_lookup; refine wpList_lookup_own_int _ rfl _ _ 151 rfl 3 3 .i64 law3 Tryz.underlying151 Tryz.underlying3 (zero3 _) (w.heap.size + 1) k _ rfl hown _ _ rfl hkey ?_; intro cc hat hwc; obtain rfl := lit_inj hat0 hat; clear hat hwc)
              | (at_mapUpdate; refine wpList_mapUpdate_own _ rfl _ _ _ 151 rfl 3 3 law3 Tryz.underlying151 _ (w.heap.size + 1) k _ rfl hown (by unfold maxLen; omega) _ _ _ rfl rfl hkey (.lit (.int .i64 1)) [] (plainElem_int Tryz.underlying3 (by decide)) ?_; intro w1 hown1 hgrow1)
              | (at_lookup; refine wpList_lookup_own_int _ rfl _ _ 151 rfl 3 3 .i64 law3 Tryz.underlying151 Tryz.underlying3 (zero3 _) (w.heap.size + 1) (k + 1) _ rfl hown1 _ _ rfl hkey ?_; intro dd hat2 hwd; obtain rfl := lit_inj (HSM.out (.lit (.int .i64 1)) (.lit (.int .i64 0))) hat2; clear hat2 hwd))
            go_ret
            exact ⟨ret_bool (HB'.out (.inr (.inr hge'))), HR.out.bel.grown hgrow1 HR.out.bel.size (fun j hj => by cases hj; omega)⟩
          · have hneg' := hneg
            have hge' := hge
            go_wp2_with (first
              | (at_lookup; refine wpList_lookup_own_int _ rfl _ _ 151 rfl 3 3 .i64 law3 Tryz.underlying151 Tryz.underlying3 (zero3 _) (w.heap.size + 1) k _ rfl hown _ _ rfl hkey ?_; intro cc hat hwc; obtain rfl := lit_inj hat0 hat; clear hat hwc)
              | (at_mapUpdate; refine wpList_mapUpdate_own _ rfl _ _ _ 151 rfl 3 3 law3 Tryz.underlying151 _ (w.heap.size + 1) k _ rfl hown (by unfold maxLen; omega) _ _ _ rfl rfl hkey (.lit (.int .i64 1)) [] (plainElem_int Tryz.underlying3 (by decide)) ?_; intro w1 hown1 hgrow1)
              | (at_lookup; refine wpList_lookup_own_int _ rfl _ _ 151 rfl 3 3 .i64 law3 Tryz.underlying151 Tryz.underlying3 (zero3 _) (w.heap.size + 1) (k + 1) _ rfl hown1 _ _ rfl hkey ?_; intro dd hat2 hwd; obtain rfl := lit_inj (HSM.out (.lit (.int .i64 1)) (.lit (.int .i64 0))) hat2; clear hat2 hwd))
            refine ⟨⟨k + 1, by go_num, by omega, fun j hj hjk => ?_, ?_, HR.out.bel.grown hgrow1 HR.out.bel.size (fun j hj => by cases hj; omega), ?_⟩, by simp [intOf]; omega⟩
            · rcases Nat.lt_succ_iff_lt_or_eq.1 hjk with h | rfl
              · exact HR.out.ok j hj h
              · rw [← HY.out]
                exact ⟨HI.out, by omega, by omega⟩
            · rw [HT.out, HSN.out]
              exact hown1
            · exact (hgrow1.block _ (blk_lt HR.out.box) (by simp)).trans HR.out.box
    · have hall := HOK.out q HQ.out (fun j hj => HR.out.ok j hj (by omega))
      have HA := Lib.hid hall
      clear hall
      have hlen : ¬ ((k : Int) < (chain.length : Int)) := by omega
      clear hown hb0
      go_wp2_with fail
      refine (HC.out _ (H2.out.stay HR.out.bel)).mono ?_
      rintro e w' ⟨rfl, hb2⟩
      have hg : w.heap.size < wr.heap.size := blk_lt HR.out.box
      have hc0 : w'.cell? ⟨w.heap.size, 0, none⟩ = some (.slice a1 chain.length c1) := (hb2.cell (p := ⟨w.heap.size, 0, none⟩) hg).trans (blk_cell HR.out.box rfl)
      have hc1 : w'.cell? ⟨w.heap.size, 1, none⟩ = some (.slice a2 asked.length c2) := (hb2.cell (p := ⟨w.heap.size, 1, none⟩) hg).trans (blk_cell HR.out.box rfl)
      have hbw := Lib.hid (bel HR.out.bel hb2)
      clear hb2 hb1
      go_wp2
      all_goals
        go_ret
        refine ⟨ret_bool ?_, hbw.out⟩
        rw [← HA.out]
        first
          | (rw [decide_eq_true (p := 1 ≤ chain.length) (by omega), decide_eq_true (p := chain.length ≤ 4) (by omega), decide_eq_true (p := asked.length ≤ 4) (by omega)]; rfl)
          | (rw [decide_eq_false (p := 1 ≤ chain.length) (by omega)]; rfl)
          | (rw [decide_eq_false (p := chain.length ≤ 4) (by omega)]; simp)
          | (rw [decide_eq_false (p := asked.length ≤ 4) (by omega)]; simp)
end Go.Proofs.YtjfknmlchdifjaaGreatDoor
namespace Go.Proofs.YtjfknmlchdifjaaGreatDoor
open Go.RowKit Go.Proofs.YtjfknmlchdifjaaGreatDoorW.PrintWords Go.Proofs.YtjfknmlchdifjaaGreatDoorW.PrintMore
theorem w64 {x : Int} (h0 : -9223372036854775808 ≤ x) (h1 : x ≤ 9223372036854775807) : wrap64 x = x := by unfold wrap64; omega
theorem w64s {i : Nat} (h : i < 9223372036854775807) : wrap64 ((i : Int) + 1) = ((i + 1 : Nat) : Int) := by rw [w64 (by omega) (by omega)]; omega
theorem getD_cast {α : Type} {z : α} {xs : List α} {i : Nat} (h : i < xs.length) : xs.getD (i : Int).toNat z = xs[i] := by
  rw [List.getD_eq_getElem?_getD, Int.toNat_natCast, List.getElem?_eq_getElem h]
  rfl
theorem drop_cons {α : Type} {xs : List α} {i : Nat} (h : i < xs.length) : xs.drop i = xs[i] :: xs.drop (i + 1) := List.drop_eq_getElem_cons h
theorem drop_end {α : Type} {xs : List α} {i : Nat} (h : xs.length ≤ i) : xs.drop i = [] := List.drop_eq_nil_of_le h
theorem mn_eq (a b : Int) : mn a b = min a b := by unfold mn; omega
def cutB (n : Nat) (x : ByteArray) : ByteArray := x.extract 0 n
theorem cutB_size (n : Nat) (x : ByteArray) : (cutB n x).size = min n x.size := by
  unfold cutB
  rw [ByteArray.size_extract]
  omega
theorem cutB_mn (n : Nat) (m : Int) (x : ByteArray) (hm : m = n) : x.extract 0 (mn (x.size : Int) m).toNat = cutB n x := by
  subst hm
  unfold cutB
  rw [mn_eq]
  apply ByteArray.ext
  rw [ByteArray.data_extract, ByteArray.data_extract]
  rcases Nat.le_total x.size n with h | h
  · rw [show (min (x.size : Int) n).toNat = x.size by omega]
    rw [Array.extract_eq_self_of_le (show x.data.size ≤ x.size from Nat.le_refl _), Array.extract_eq_self_of_le (show x.data.size ≤ n from h)]
  · rw [show (min (x.size : Int) n).toNat = n by omega]
end Go.Proofs.YtjfknmlchdifjaaGreatDoor
namespace Go.Proofs.YtjfknmlchdifjaaGreatDoorQ.P
open Go.RowKit Go.Proofs.YtjfknmlchdifjaaGreatDoorW.PrintWords Go.Proofs.YtjfknmlchdifjaaGreatDoorW.PrintLast Go.Proofs.YtjfknmlchdifjaaGreatDoorW.PrintMore Go.Proofs.YtjfknmlchdifjaaGreatDoor
theorem bin_f (a b c : Int) : breaker_in.f a b c = some (rngB a b c) := by
  unfold breaker_in.f rngB
  by_cases h : b ≤ a
  · rw [if_pos (by omega), decide_eq_true h, Bool.true_and]
  · rw [if_neg (by omega), decide_eq_false h, Bool.false_and]
theorem uin_f (a b c : Int) : bucket_in.f a b c = some (rngB a b c) := bin_f a b c
theorem oin_f (a b c : Int) : backoff_in.f a b c = some (rngB a b c) := bin_f a b c
theorem brNew_f (k : Nat) (a b : Int) : ∃ r1 r2 r3 r4 r5, breaker_New.f (k + 1) a b = some (r1, r2, r3, r4, r5, if (rngB a 1 100 && rngB b 1 1048576) = true then 0 else 1) := by
  have hR : breaker_Right.f (k + 1) a b 0 0 0 = some (rngB a 1 100 && rngB b 1 1048576) := by
    unfold breaker_Right.f
    rw [bin_f, bin_f]
    simp only [Option.bind_some]
    cases h1 : rngB a 1 100
    · rw [if_neg (by simp), breaker_Right.j0, if_pos rfl]
      rfl
    · cases h2 : rngB b 1 1048576
      · rw [if_pos rfl, breaker_Right.j0, if_pos rfl]
        rfl
      · have h3 : rngB 0 0 (wrap64 (a - 1)) = true := by
          unfold rngB at h1 ⊢
          simp only [Bool.and_eq_true, decide_eq_true_eq] at h1 ⊢
          rw [w64 (by omega) (by omega)]
          omega
        rw [if_pos rfl, breaker_Right.j0, if_neg (by simp), if_neg (by decide), if_neg (by decide), if_pos rfl, bin_f, h3, Option.bind_some, if_pos rfl]
        rfl
  unfold breaker_New.f
  rw [hR, Option.bind_some]
  cases (rngB a 1 100 && rngB b 1 1048576)
  · exact ⟨_, _, _, _, _, rfl⟩
  · exact ⟨_, _, _, _, _, rfl⟩
theorem buNew_f (a b : Int) : ∃ r1 r2 r3 r4, bucket_New.f a b 0 0 = some (r1, r2, r3, r4, if (rngB a 1 100 && rngB b 1 1048576) = true then 0 else 1) := by
  have hR : bucket_Right.f a b 0 0 = some (rngB a 1 100 && rngB b 1 1048576) := by
    unfold bucket_Right.f
    rw [uin_f, uin_f, uin_f]
    simp only [Option.bind_some]
    cases h1 : rngB a 1 100
    · rfl
    · cases h2 : rngB b 1 1048576
      · rfl
      · have h3 : rngB 0 0 a = true := by
          unfold rngB at h1 ⊢
          simp only [Bool.and_eq_true, decide_eq_true_eq] at h1 ⊢
          omega
        rw [if_pos rfl, if_pos rfl, h3, if_pos rfl]
        rfl
  unfold bucket_New.f
  rw [hR, Option.bind_some]
  cases (rngB a 1 100 && rngB b 1 1048576)
  · exact ⟨_, _, _, _, rfl⟩
  · exact ⟨_, _, _, _, rfl⟩
theorem back_f (a b c : Int) : backoff_Right.f a b c = some (rngB a 1 1048576 && rngB b a 1073741824 && rngB c 0 1048576) := by
  unfold backoff_Right.f
  rw [oin_f, oin_f, oin_f]
  cases rngB a 1 1048576 <;> cases rngB b a 1073741824 <;> rfl
theorem rcv_f {x : Rcv} (h : x.name.size ≤ maxLen) : config_isReceiver.f 2 x.name x.base x.top x.jit x.tries x.fails x.opn x.burst x.every = some (rcvB x) := by
  obtain ⟨r1, r2, r3, r4, r5, e1⟩ := brNew_f 1 x.fails x.opn
  obtain ⟨s1, s2, s3, s4, e2⟩ := buNew_f x.burst x.every
  have hM : label_Matcher.f 3 x.name (⟨#[]⟩ : ByteArray) = some (nameB x.name) := by
    unfold label_Matcher.f
    rw [if_pos (by unfold matOkB; simp only [Bool.and_eq_true, decide_eq_true_eq]; exact ⟨h, by unfold maxLen; show 0 ≤ _; omega⟩)]
    show some (decide ((0 : Int) ≤ 3) && decide ((3 : Int) ≤ 3) && nameB x.name && valB ⟨#[]⟩ && (decide ((3 : Int) ≠ 3) || decide ((⟨#[]⟩ : ByteArray).size = 0))) = _
    rw [show valB ⟨#[]⟩ = true from by decide, show decide ((⟨#[]⟩ : ByteArray).size = 0) = true from rfl]
    cases nameB x.name <;> rfl
  unfold config_isReceiver.f
  rw [e1, Option.bind_some, e2, Option.bind_some, hM, Option.bind_some]
  unfold rcvB
  simp only
  cases nameB x.name
  · simp
  · rw [if_pos rfl]
    by_cases hn : x.name.data.toList = ifT
    · rw [if_pos (by rw [ByteArray.toList_eq]; exact hn), decide_eq_false (by simpa using hn)]
      simp
    · rw [if_neg (by rw [ByteArray.toList_eq]; exact hn), decide_eq_true (by simpa using hn), back_f, Option.bind_some]
      cases (rngB x.base 1 1048576 && rngB x.top x.base 1073741824 && rngB x.jit 0 1048576)
      · simp
      · rw [if_pos rfl]
        unfold rngB
        by_cases t1 : 1 ≤ x.tries
        · by_cases t2 : x.tries ≤ 100
          · rw [if_pos (by omega), if_pos (by omega), decide_eq_true t1, decide_eq_true t2]
            cases h1 : (decide (1 ≤ x.fails) && decide (x.fails ≤ 100) && (decide (1 ≤ x.opn) && decide (x.opn ≤ 1048576))) <;> cases h2 : (decide (1 ≤ x.burst) && decide (x.burst ≤ 100) && (decide (1 ≤ x.every) && decide (x.every ≤ 1048576))) <;> simp
          · rw [if_pos (by omega), if_neg (by omega), decide_eq_false t2]
            simp
        · rw [if_neg (by omega), decide_eq_false t1]
          simp
theorem isReceiver_any (x : Rcv) (w : World) (h : x.name.size ≤ maxLen) : Calls Tryz.prog 62 #[rcvV x] w fun e w' => e = .returned (.bool (rcvB x)) ∧ Below w.heap.size w w' :=
  config_isReceiver.calls 2 x.name x.base x.top x.jit x.tries x.fails x.opn x.burst x.every (rcvB x) w (rcv_f h)
end Go.Proofs.YtjfknmlchdifjaaGreatDoorQ.P
namespace Go.Proofs.YtjfknmlchdifjaaGreatDoor
open Go.RowKit Go.Proofs.YtjfknmlchdifjaaGreatDoorQ.P
attribute [local go_sem high] ext_size ext_cell ext_frozen alloc_cell alloc_frozen
attribute [local go_sem] lt_more lt_suc drew_size drew_cell
structure RtV where
  c : Value
  a : Value
  t : Rte
structure RtOk (w : World) (x : RtV) : Prop where
  c : SlAt w x.c 1 x.t.chain.length (intsC x.t.chain)
  a : SlAt w x.a 3 x.t.asked.length (matsC x.t.asked)
  m : MatsOk x.t.asked
  wf : ∀ k ∈ x.t.chain, (Lit.int .i64 k).wf = true
  len : x.t.chain.length ≤ maxLen
theorem RtOk.stay {w W : World} {x : RtV} (h : RtOk w x) (hb : Below w.heap.size w W) : RtOk W x := ⟨h.c.stay hb, h.a.stay hb, h.m, h.wf, h.len⟩
theorem SlAt.take {W : World} {a : Option Addr} {n c sz i : Nat} {cells : List Value} (h : SlAt W (.slice a n c) sz n cells) (hi : i ≤ n) : SlAt W (.slice a i c) sz i (cells.take (i * sz)) := by
  obtain ⟨hl, a', c', hv, h1, h2, h3⟩ := h
  injection hv with hv1 _ hv2
  subst hv1 hv2
  refine ⟨by rw [List.length_take, hl]; exact Nat.min_eq_left (Nat.mul_le_mul_right _ hi), a, c, rfl, by omega, by omega, ?_⟩
  rcases h3 with h3 | ⟨b, o, ha, hlt, hc⟩
  · exact .inl (by omega)
  · refine .inr ⟨b, o, ha, hlt, fun j u hj => ?_⟩
    rw [List.getElem?_take] at hj
    split at hj
    · exact hc j u hj
    · cases hj
theorem often_any (n : Int) (w : World) : Calls Tryz.prog 67 #[.int .i64 n] w fun e w' => e = .returned (.bool (oftenB n)) ∧ Below w.heap.size w w' := by
  by_cases h0 : 1 ≤ n <;> by_cases h1 : n ≤ 1073741824
  all_goals
    go_enter Tryz.func67, Tryz.ntmps67
    go_wp2_with fail
    go_ret
    exact ⟨ret_bool (by simp [oftenB, rngB, h0, h1]), (by repeat (first | exact Below.refl _ _ | apply bal | apply bext | apply bdr | apply bdrN | (refine bst ?_ _ (by simp only [ext_size, size_alloc, size_set]; omega))))⟩
end Go.Proofs.YtjfknmlchdifjaaGreatDoor
namespace Go.Proofs.YtjfknmlchdifjaaGreatDoor
open Go.RowKit Go.Proofs.YtjfknmlchdifjaaGreatDoorQ
attribute [local go_sem high] ext_size ext_cell ext_frozen alloc_cell alloc_frozen
theorem itoa_any (n : Int) (w : World) (hG : GOK w) (h0 : -9223372036854775808 ≤ n) (h1 : n ≤ 9223372036854775807) :
    Calls Tryz.prog 45 #[.int .i64 n] w fun e w' => e = .returned (.string (tx (Lib.itoa n))) ∧ Below w.heap.size w w' := by
  refine (Tryz.strconv_Itoa n h0 h1 w (gok_tab_internal_strconv_uint64pow10 hG)).mono ?_
  rintro e w' ⟨rfl, k, os, rfl⟩
  exact ⟨rfl, Go.Lib.below_grow _ w (Nat.le_refl _) k os⟩
theorem atoi_ok (s : ByteArray) (v : Int) (w : World) (hs : s.size ≤ 1000000) (h : Lib.atoiAll s.data.toList = .ok v) :
    Calls Tryz.prog 122 #[.string s] w fun e w' => e = .returned (.tuple #[.int .i64 v, .nilIface]) ∧ Below w.heap.size w w' := by
  refine (Tryz.strconv_Atoi_ok s (by omega) v h w).mono ?_
  rintro e w' ⟨rfl, rfl | ⟨t, rfl⟩⟩
  · exact ⟨rfl, Below.refl _ _⟩
  · refine ⟨rfl, ?_⟩
    exact Lib.bytesWorld_below _ _ _
theorem atoi_no (s : ByteArray) (w : World) (hG : GOK w) (hs : s.size ≤ 1000000) (h : ∀ v, Lib.atoiAll s.data.toList ≠ .ok v) :
    Calls Tryz.prog 122 #[.string s] w fun e w' => ∃ N, e = .returned (.tuple #[.int .i64 (atoiV s.data.toList), .iface 201 (.pointer (some ⟨N, 0, none⟩))]) ∧ Below w.heap.size w w' := by
  unfold atoiV
  rcases hh : Lib.atoiAll s.data.toList with v | _ | _
  · exact absurd hh (h v)
  · obtain ⟨t, p, hc⟩ := gok_errsyntax hG
    refine (Any.strconv_Atoi_syntax Tryz.laysC172 s (by omega) hh _ w hc (.inr ⟨t, p, rfl⟩)).mono ?_
    rintro e w' ⟨N, rfl, _, _, hb⟩
    exact ⟨N, rfl, hb⟩
  · obtain ⟨t, p, hc⟩ := gok_errrange hG
    refine (Tryz.strconv_Atoi_range s (by omega) hh _ w hc (.inr ⟨t, p, rfl⟩)).mono ?_
    rintro e w' ⟨N, rfl, _, _, hb⟩
    exact ⟨N, rfl, hb⟩
theorem tx_eq_list (l : List UInt8) (s : ByteArray) : ((tx l).toList == s.toList) = decide (l = s.data.toList) := by
  rw [ByteArray.toList_eq, ByteArray.toList_eq, tx_data]
  rw [Bool.eq_iff_iff, beq_iff_eq, decide_eq_true_eq]
end Go.Proofs.YtjfknmlchdifjaaGreatDoor
namespace Go.Proofs.YtjfknmlchdifjaaGreatDoor
open Go.RowKit Go.Proofs.YtjfknmlchdifjaaGreatDoorQ
attribute [local go_sem high] ext_size ext_cell ext_frozen alloc_cell alloc_frozen
set_option maxHeartbeats 4000000 in
theorem number_any (s : ByteArray) (w : World) (hG : GOK w) (hs : s.size ≤ 1000000) :
    Calls Tryz.prog 135 #[.string s] w fun e w' => e = .returned (.tuple #[.int .i64 (atoiV s.data.toList), .bool (atoiB s.data.toList)]) ∧ Below w.heap.size w w' := by
  have HG := Lib.hid hG
  by_cases hok : ∃ v, Lib.atoiAll s.data.toList = .ok v
  · obtain ⟨v, hv⟩ := hok
    have hb := Lib.atoiAll_bounds hv
    have HA := Lib.hid fun W => atoi_ok s v W hs hv
    have HT := Lib.hid fun W => tick_any v W
    have HI := Lib.hid fun W (h : GOK W) => itoa_any v W h hb.1 hb.2
    have hq := tx_eq_list (Lib.itoa v) s
    unfold atoiV atoiB
    rw [hv]
    simp only
    obtain ⟨t, ht⟩ : ∃ t, t = tx (Lib.itoa v) := ⟨_, rfl⟩
    rw [← ht] at HI hq
    obtain ⟨b1, hb1⟩ : ∃ b, b = timeB v := ⟨_, rfl⟩
    rw [← hb1] at HT
    have e1 : (decide (0 ≤ v) && decide (v ≤ 1099511627776)) = b1 := by rw [hb1]; rfl
    rw [e1]
    obtain ⟨b2, hb2⟩ : ∃ b, b = decide (Lib.itoa v = s.data.toList) := ⟨_, rfl⟩
    rw [← hb2] at hq ⊢
    clear hv hG ht hb1 hb2 e1
    cases b1
    · go_enter Tryz.func135, Tryz.ntmps135
      go_wp2_with fail
      refine (HA.out _).mono ?_
      rintro e w' ⟨rfl, hb⟩
      obtain ⟨y1, rfl⟩ := ext_of hb
      clear hb
      go_wp2_with fail
      refine (HT.out _).mono ?_
      rintro e w' ⟨rfl, hb⟩
      obtain ⟨y2, rfl⟩ := ext_of hb
      clear hb
      go_wp2_with fail
      go_ret2
      exact ⟨rfl, (by repeat (first | exact Below.refl _ _ | apply bal | apply bext | apply bdr | apply bdrN | (refine bst ?_ _ (by simp only [ext_size, size_alloc, size_set]; omega))))⟩
    · go_enter Tryz.func135, Tryz.ntmps135
      go_wp2_with fail
      refine (HA.out _).mono ?_
      rintro e w' ⟨rfl, hb⟩
      obtain ⟨y1, rfl⟩ := ext_of hb
      clear hb
      go_wp2_with fail
      refine (HT.out _).mono ?_
      rintro e w' ⟨rfl, hb⟩
      obtain ⟨y2, rfl⟩ := ext_of hb
      clear hb
      go_wp2_with fail
      refine (HI.out _ (gok_below HG.out (by repeat (first | exact Below.refl _ _ | apply bal | apply bext | apply bdr | apply bdrN | (refine bst ?_ _ (by simp only [ext_size, size_alloc, size_set]; omega)))))).mono ?_
      rintro e w' ⟨rfl, hb⟩
      obtain ⟨y3, rfl⟩ := ext_of hb
      clear hb
      go_wp2_with fail
      go_ret2
      exact ⟨rfl, (by repeat (first | exact Below.refl _ _ | apply bal | apply bext | apply bdr | apply bdrN | (refine bst ?_ _ (by simp only [ext_size, size_alloc, size_set]; omega))))⟩
  · have hv : ∀ v, Lib.atoiAll s.data.toList ≠ .ok v := fun v h => hok ⟨v, h⟩
    have hB : atoiB s.data.toList = false := by
      unfold atoiB
      split
      · rename_i v h
        exact absurd h (hv v)
      · rfl
    have HA := Lib.hid fun W (h : GOK W) => atoi_no s W h hs hv
    rw [hB]
    generalize atoiV s.data.toList = v at HA ⊢
    clear hG hok hv hB
    go_enter Tryz.func135, Tryz.ntmps135
    go_wp2_with fail
    refine (HA.out _ (gok_below HG.out (by repeat (first | exact Below.refl _ _ | apply bal | apply bext | apply bdr | apply bdrN | (refine bst ?_ _ (by simp only [ext_size, size_alloc, size_set]; omega)))))).mono ?_
    rintro e w' ⟨N, rfl, hb⟩
    obtain ⟨y1, rfl⟩ := ext_of hb
    clear hb
    go_wp2_with fail
    go_ret2
    exact ⟨rfl, (by repeat (first | exact Below.refl _ _ | apply bal | apply bext | apply bdr | apply bdrN | (refine bst ?_ _ (by simp only [ext_size, size_alloc, size_set]; omega))))⟩
end Go.Proofs.YtjfknmlchdifjaaGreatDoor
namespace Go.Proofs.YtjfknmlchdifjaaGreatDoor
open Go.RowKit
attribute [local go_sem high] ext_size ext_cell ext_frozen alloc_cell alloc_frozen
def setIter (W : World) (g : Nat) (s : ByteArray) (pos : Nat) : World := { W with heap := W.heap.setIfInBounds g (.stringIter s pos) }
theorem next_any {P : Program} {W : World} {g : Nat} {s : ByteArray} {pos : Nat} (hb : W.heap[g]? = some (.stringIter s pos)) (ty : TypeId) (h : pos < s.size) :
    (Instr.next (.pointer (some ⟨g, 0, none⟩)) true ty).run P W = .ok (.tuple #[.bool true, .int .i64 pos, .int .i32 (Utf8.decode s pos).1]) (setIter W g s (pos + (Utf8.decode s pos).2)) := by
  simp only [Instr.next, getObj, setObj, Sem.run_bind, Sem.run, hb, Result.andThen, h, if_true]
  simp [goInt, setIter]
theorem next_end {P : Program} {W : World} {g : Nat} {s : ByteArray} {pos : Nat} (hb : W.heap[g]? = some (.stringIter s pos)) (ty : TypeId) (h : ¬ pos < s.size) :
    (Instr.next (.pointer (some ⟨g, 0, none⟩)) true ty).run P W = .ok (.tuple #[.bool false]) W := by
  simp [Instr.next, getObj, Sem.run, hb, h]
theorem setIter_size (W : World) (g : Nat) (s : ByteArray) (pos : Nat) : (setIter W g s pos).heap.size = W.heap.size := by simp [setIter]
theorem setIter_same {W : World} {g : Nat} (h : g < W.heap.size) (s : ByteArray) (pos : Nat) : (setIter W g s pos).heap[g]? = some (.stringIter s pos) := by simp [setIter, h]
theorem setIter_below {w W : World} {g : Nat} (h : Below w.heap.size w W) (hg : w.heap.size ≤ g) (s : ByteArray) (pos : Nat) : Below w.heap.size w (setIter W g s pos) := by
  refine ⟨h.os, h.tape, h.output, by rw [setIter_size]; exact h.size, fun i hi => ?_⟩
  rw [← h.block i hi]
  show (W.heap.setIfInBounds g (.stringIter s pos))[i]? = W.heap[i]?
  rw [Array.getElem?_setIfInBounds, if_neg (by omega)]
theorem cont_hi {s : ByteArray} {i : Nat} (h : i < s.size) (h2 : (s.get! i).toNat / 64 = 2) : 128 ≤ (s[i]'h).toNat := by
  have e : s.get! i = s[i]'h := get_at s i h
  rw [e] at h2
  omega
theorem decode_wide (s : ByteArray) (pos : Nat) (h : pos < s.size) (ha : 128 ≤ (s[pos]'h).toNat) :
    1 ≤ (Utf8.decode s pos).2 ∧ pos + (Utf8.decode s pos).2 ≤ s.size ∧ ∀ k, k < (Utf8.decode s pos).2 → ∃ hk : pos + k < s.size, 128 ≤ (s[pos + k]'hk).toNat := by
  have hn : ¬ (s[pos]'h).toNat < 128 := by omega
  have one : 1 ≤ 1 ∧ pos + 1 ≤ s.size ∧ ∀ k, k < 1 → ∃ hk : pos + k < s.size, 128 ≤ (s[pos + k]'hk).toNat :=
    ⟨by omega, by omega, fun k hk => by obtain rfl : k = 0 := by omega
                                        exact ⟨h, ha⟩⟩
  simp only [Utf8.decode, get_at s pos h, hn, if_false]
  split
  · rename_i h1
    simp only [Bool.and_eq_true, decide_eq_true_eq, beq_iff_eq] at h1
    split
    · refine ⟨by simp, by simp; omega, fun k hk => ?_⟩
      have : k = 0 ∨ k = 1 := by simp at hk; omega
      rcases this with rfl | rfl
      · exact ⟨h, ha⟩
      · exact ⟨h1.2.1, cont_hi h1.2.1 h1.2.2⟩
    · exact one
  · split
    · rename_i h1
      simp only [Bool.and_eq_true, decide_eq_true_eq, beq_iff_eq] at h1
      split
      · refine ⟨by simp, by simp; omega, fun k hk => ?_⟩
        have : k = 0 ∨ k = 1 ∨ k = 2 := by simp at hk; omega
        rcases this with rfl | rfl | rfl
        · exact ⟨h, ha⟩
        · exact ⟨h1.1.2.1, cont_hi h1.1.2.1 h1.1.2.2⟩
        · exact ⟨h1.2.1, cont_hi h1.2.1 h1.2.2⟩
      · exact one
    · split
      · rename_i h1
        simp only [Bool.and_eq_true, decide_eq_true_eq, beq_iff_eq] at h1
        split
        · refine ⟨by simp, by simp; omega, fun k hk => ?_⟩
          have : k = 0 ∨ k = 1 ∨ k = 2 ∨ k = 3 := by simp at hk; omega
          rcases this with rfl | rfl | rfl | rfl
          · exact ⟨h, ha⟩
          · exact ⟨h1.1.1.2.1, cont_hi h1.1.1.2.1 h1.1.1.2.2⟩
          · exact ⟨h1.1.2.1, cont_hi h1.1.2.1 h1.1.2.2⟩
          · exact ⟨h1.2.1, cont_hi h1.2.1 h1.2.2⟩
        · exact one
      · exact one
theorem enc_high {r : Int} (h : 128 ≤ r) : (∃ a b : UInt8, Utf8.encode r = ⟨#[a, b]⟩ ∧ 128 ≤ b.toNat) ∨ (∃ a b c : UInt8, Utf8.encode r = ⟨#[a, b, c]⟩ ∧ 128 ≤ c.toNat) ∨ (∃ a b c d : UInt8, Utf8.encode r = ⟨#[a, b, c, d]⟩ ∧ 128 ≤ d.toNat) := by
  have hl : ∀ x : Nat, 128 ≤ (UInt8.ofNat (128 + x % 64)).toNat := by
    intro x
    rw [UInt8.toNat_ofNat']
    omega
  unfold Utf8.encode
  generalize hc : (if Utf8.valid r = true then r.toNat else Utf8.runeError) = c
  have h1 : ¬ c < 128 := by
    rw [← hc]
    split
    · omega
    · decide
  simp only
  rw [if_neg h1]
  split
  · exact .inl ⟨_, _, rfl, hl _⟩
  · split
    · exact .inr (.inl ⟨_, _, _, rfl, hl _⟩)
    · exact .inr (.inr ⟨_, _, _, _, rfl, hl _⟩)
def signT : ByteArray := ⟨#[61, 33, 94, 63]⟩
theorem noIdx (l : List UInt8) (b : UInt8) (h : ∀ x ∈ l, x ≠ b) : Lib.indexByte l b = -1 := by
  induction l with
  | nil => rfl
  | cons x l ih =>
    have h1 : (x == b) = false := by simpa using h x (by simp)
    rw [Lib.indexByte, h1, ih fun y hy => h y (by simp [hy])]
    rfl
theorem signs_low : ∀ x ∈ signs, x.toNat < 128 := by decide
theorem contains_high {b : UInt8} (h : 128 ≤ b.toNat) : signs.contains b = false := by
  rw [← Bool.not_eq_true, List.contains_iff_mem]
  intro e
  have := signs_low b e
  omega
theorem sub_low (i j : Nat) {b : UInt8} (h : 128 ≤ b.toNat) : ∀ x ∈ (signT.extract i j).data.toList, x ≠ b := by
  intro x hx e
  subst e
  rw [Lib.extract_data] at hx
  have hm : x ∈ signT.data.toList := by
    first
      | exact List.mem_of_mem_drop (List.mem_of_mem_take hx)
      | exact List.mem_of_mem_take (List.mem_of_mem_drop hx)
  have := signs_low x hm
  omega
theorem valid_ge (r : Int) (w : World) (h : 0 ≤ r) : Calls Tryz.prog 124 #[.int .i32 r] w fun e w' => e = .returned (.bool (decide (r < 55296) || (decide (57343 < r) && decide (r ≤ 1114111)))) ∧ Below w.heap.size w w' := by
  by_cases h1 : r < 55296
  · go_enter Tryz.func124, Tryz.ntmps124
    go_wp2_with fail
    go_ret
    exact ⟨ret_bool (by simp [h1]), Below.refl _ _⟩
  · by_cases h2 : 57343 < r <;> by_cases h3 : r ≤ 1114111
    all_goals
      go_enter Tryz.func124, Tryz.ntmps124
      go_wp2_with fail
      go_ret
      exact ⟨ret_bool (by simp [h1, h2, h3]), Below.refl _ _⟩
set_option maxHeartbeats 4000000 in
set_option maxRecDepth 100000 in
theorem idxRune_high (r : Int) (w : World) (h : 128 ≤ r) : Calls Tryz.prog 80 #[.string signT, .int .i32 r] w fun e w' => e = .returned (.int .i64 (-1)) ∧ Below w.heap.size w w' := by
  have g1 : ¬ r < 128 := by omega
  have g0 : (0 : Int) ≤ r := by omega
  by_cases he : r = 65533
  · subst he
    go_enter Tryz.func80, Tryz.ntmps80
    go_wp2_with fail
    go_loopw [5, 6] (fun _ _ wr => ∃ pos : Nat, pos ≤ 4 ∧ wr = w.iter signT pos) (fun _ _ wr => 4 - wr.iterPos w.heap.size)
    case atStart => exact ⟨0, by omega, rfl⟩
    case round =>
      obtain ⟨pos, hp, rfl⟩ := hrel
      by_cases hlt : pos < 4
      · have hc : (signT[pos]'hlt).toNat < 128 := by
          have : pos = 0 ∨ pos = 1 ∨ pos = 2 ∨ pos = 3 := by omega
          rcases this with rfl | rfl | rfl | rfl <;> (revert hlt; decide)
        have hn := fun ty => run_next_ascii (P := Tryz.prog) w signT pos ty hlt hc
        obtain ⟨c, hcc⟩ : ∃ c, c = (signT[pos]'hlt).toNat := ⟨_, rfl⟩
        rw [← hcc] at hn hc
        have h5 : ((c : Int) == 65533) = false := by simp; omega
        clear hcc
        go_wp2
        exact ⟨⟨pos + 1, by omega, rfl⟩, by simp; omega⟩
      · have hn := fun ty => run_next_end (P := Tryz.prog) w signT pos ty (show ¬ pos < signT.size from hlt)
        go_wp2
        go_ret
        exact ⟨rfl, size_iter _ _ _⟩
  · have he' : (r == 65533) = false := by simpa using he
    have HV := Lib.hid fun W => valid_ge r W g0
    obtain ⟨vb, hvb⟩ : ∃ q, q = (decide (r < 55296) || (decide (57343 < r) && decide (r ≤ 1114111))) := ⟨_, rfl⟩
    rw [← hvb] at HV
    clear hvb
    cases vb
    · go_enter Tryz.func80, Tryz.ntmps80
      go_wp2_with fail
      refine (HV.out _).mono ?_
      rintro e w' ⟨rfl, hb⟩
      obtain ⟨y1, rfl⟩ := ext_of hb
      clear hb
      go_wp2_with fail
      go_ret
      exact ⟨rfl, (by repeat (first | exact Below.refl _ _ | apply bal | apply bext | apply bdr | apply bdrN | (refine bst ?_ _ (by simp only [ext_size, size_alloc, size_set]; omega))))⟩
    · have HB := Lib.hid fun (s : ByteArray) (b : UInt8) W (hh : ∀ x ∈ s.data.toList, x ≠ b) => show Calls Tryz.prog 123 #[.string s, .int .u8 b.toNat] W fun e w' => e = .returned (.int .i64 (-1)) ∧ Below W.heap.size W w' from
        (Tryz.strings_IndexByte s b.toNat W).mono fun e w' ⟨h1, h2⟩ => ⟨by rw [h1, Int.toNat_natCast, show b.toNat.toUInt8 = b by simp, noIdx _ _ hh], h2 ▸ Below.refl _ _⟩
      have hcv := fun w => run_convert_int_string (P := Tryz.prog) w 21 9 .i32 r (by kernel_rfl) Tryz.underlying9
      have hu21 := Tryz.underlying21
      have hu9 := Tryz.underlying9
      rcases enc_high h with ⟨a, b, e1, hb⟩ | ⟨a, b, c, e1, hb⟩ | ⟨a, b, c, d, e1, hb⟩
      · rw [e1] at hcv
        have hlt := b.toNat_lt
        have h1 : (((signT[1]'(by show 1 < 4; omega)).toNat : Int) != ((((⟨#[a, b]⟩ : ByteArray)[1]'(by show 1 < 2; omega)).toNat : Nat) : Int)) = true := by
          show ((33 : Int) != (b.toNat : Int)) = true
          simp
          omega
        have HL := fun i j => sub_low i j hb
        go_enter Tryz.func80, Tryz.ntmps80
        go_wp2_with fail
        refine (HV.out _).mono ?_
        rintro e w' ⟨rfl, hb⟩
        obtain ⟨y1, rfl⟩ := ext_of hb
        clear hb
        go_wp2_with fail
        go_step3
        go_wp2_with fail
        refine wp_loop_rounds 1 ?_
        rw [rounds_succ]
        go_wp2_with fail
        go_step3
        go_wp2_with fail
        go_region
        go_wp2_with fail
        refine wp_region_ext (by kernel_rfl) (by kernel_rfl) ?_
        repeat (go_big_quiet_step ((first | (exact Calls.grew (HB.out _ b _ (HL _ _))))))
        refine wpQuiet_nil ?_
        intro _ hw'
        obtain ⟨y2, rfl⟩ := hw'
        go_wp2_with fail
        simp only [Exit.noGoto, Exit.inBlock, Exit.then]
        go_ret
        exact ⟨rfl, (by repeat (first | exact Below.refl _ _ | apply bal | apply bext | apply bdr | apply bdrN | (refine bst ?_ _ (by simp only [ext_size, size_alloc, size_set]; omega))))⟩
      · rw [e1] at hcv
        have hlt := c.toNat_lt
        have h1 : (((signT[2]'(by show 2 < 4; omega)).toNat : Int) != ((((⟨#[a, b, c]⟩ : ByteArray)[2]'(by show 2 < 3; omega)).toNat : Nat) : Int)) = true := by
          show ((94 : Int) != (c.toNat : Int)) = true
          simp
          omega
        have HL := fun i j => sub_low i j hb
        go_enter Tryz.func80, Tryz.ntmps80
        go_wp2_with fail
        refine (HV.out _).mono ?_
        rintro e w' ⟨rfl, hb⟩
        obtain ⟨y1, rfl⟩ := ext_of hb
        clear hb
        go_wp2_with fail
        go_step3
        go_wp2_with fail
        refine wp_loop_rounds 1 ?_
        rw [rounds_succ]
        go_wp2_with fail
        go_step3
        go_wp2_with fail
        go_region
        go_wp2_with fail
        refine wp_region_ext (by kernel_rfl) (by kernel_rfl) ?_
        repeat (go_big_quiet_step ((first | (exact Calls.grew (HB.out _ c _ (HL _ _))))))
        refine wpQuiet_nil ?_
        intro _ hw'
        obtain ⟨y2, rfl⟩ := hw'
        go_wp2_with fail
        simp only [Exit.noGoto, Exit.inBlock, Exit.then]
        go_ret
        exact ⟨rfl, (by repeat (first | exact Below.refl _ _ | apply bal | apply bext | apply bdr | apply bdrN | (refine bst ?_ _ (by simp only [ext_size, size_alloc, size_set]; omega))))⟩
      · rw [e1] at hcv
        have hlt := d.toNat_lt
        have h1 : (((signT[3]'(by show 3 < 4; omega)).toNat : Int) != ((((⟨#[a, b, c, d]⟩ : ByteArray)[3]'(by show 3 < 4; omega)).toNat : Nat) : Int)) = true := by
          show ((63 : Int) != (d.toNat : Int)) = true
          simp
          omega
        have HL := fun i j => sub_low i j hb
        go_enter Tryz.func80, Tryz.ntmps80
        go_wp2_with fail
        refine (HV.out _).mono ?_
        rintro e w' ⟨rfl, hb⟩
        obtain ⟨y1, rfl⟩ := ext_of hb
        clear hb
        go_wp2_with fail
        go_step3
        go_wp2_with fail
        refine wp_loop_rounds 1 ?_
        rw [rounds_succ]
        go_wp2_with fail
        go_step3
        go_wp2_with fail
        go_region
        go_wp2_with fail
        refine wp_region_ext (by kernel_rfl) (by kernel_rfl) ?_
        repeat (go_big_quiet_step ((first | (exact Calls.grew (HB.out _ d _ (HL _ _))))))
        refine wpQuiet_nil ?_
        intro _ hw'
        obtain ⟨y2, rfl⟩ := hw'
        go_wp2_with fail
        simp only [Exit.noGoto, Exit.inBlock, Exit.then]
        go_ret
        exact ⟨rfl, (by repeat (first | exact Below.refl _ _ | apply bal | apply bext | apply bdr | apply bdrN | (refine bst ?_ _ (by simp only [ext_size, size_alloc, size_set]; omega))))⟩
end Go.Proofs.YtjfknmlchdifjaaGreatDoor
namespace Go.Proofs.YtjfknmlchdifjaaGreatDoor
open Go.RowKit
theorem iterPos_of {W : World} {k : Nat} {s : ByteArray} {p : Nat} (h : W.heap[k]? = some (.stringIter s p)) : W.iterPos k = p := by simp [World.iterPos, h]
theorem noAny_more {s : ByteArray} {pos n : Nat} (h : Lib.NoAny s.data.toList signs pos) (h2 : ∀ k, k < n → ∃ hk : pos + k < s.size, 128 ≤ (s[pos + k]'hk).toNat) : Lib.NoAny s.data.toList signs (pos + n) := by
  intro j b hj hb
  by_cases hlt : j < pos
  · exact h j b hlt hb
  · obtain ⟨hk, h3⟩ := h2 (j - pos) (by omega)
    have e : pos + (j - pos) = j := by omega
    have := Lib.data_getElem? s j (by omega)
    rw [hb] at this
    obtain rfl := Option.some.inj this
    refine contains_high ?_
    simpa only [e] using h3
def IA (w : World) (s : ByteArray) (wr : World) : Prop := ∃ pos, pos ≤ s.size ∧ Lib.NoAny s.data.toList signs pos ∧ wr.heap[w.heap.size]? = some (.stringIter s pos) ∧ Below w.heap.size w wr
set_option maxHeartbeats 4000000 in
set_option maxRecDepth 100000 in
theorem idxAny_short (s : ByteArray) (w : World) (h8 : s.size ≤ 8) :
    Calls Tryz.prog 40 #[.string s, .string signT] w fun e w' => e = .returned (.int .i64 (Lib.indexAny s.data.toList signs)) ∧ Below w.heap.size w w' := by
  have hn1 : ((signT.size : Int) == 1) = false := by decide
  have hem : signT.toList.isEmpty = false := by rw [ByteArray.toList_eq]; rfl
  have HU := Lib.hid fun W => show Calls Tryz.prog 81 #[.int .i64 s.size] W fun e w' => e = .returned (.bool false) ∧ w' = W from
    (Tryz.strings_shouldUseASCIISet s.size W).mono fun e w' ⟨h1, h2⟩ => ⟨by rw [h1]; congr 2; exact decide_eq_false (by omega), h2⟩
  have HA := Lib.hid fun (r : Nat) W (h : r < 128) => show Calls Tryz.prog 80 #[.string signT, .int .i32 r] W fun e w' => e = .returned (.int .i64 (Lib.indexByte signs r.toUInt8)) ∧ Below W.heap.size W w' from
    (Tryz.strings_IndexRune_ascii signT r W (by omega) (by omega)).mono fun e w' ⟨h1, h2⟩ => ⟨by rw [h1]; rfl, h2 ▸ Below.refl _ _⟩
  have HH := Lib.hid fun (r : Nat) W (h : 128 ≤ r) => idxRune_high r W (by omega)
  go_enter Tryz.func40, Tryz.ntmps40
  go_wp2_with fail
  refine (HU.out _).mono ?_
  rintro e w' ⟨rfl, hw⟩
  rw [hw]
  clear hw
  go_wp2_with fail
  go_loopw [9, 10] (fun _ _ wr => IA w s wr) (fun _ _ wr => s.size - wr.iterPos w.heap.size)
  case atStart => exact ⟨0, Nat.zero_le _, Lib.NoAny.zero _ _, World.iter_heap _ _ _, size_iter _ _ _⟩
  case round =>
    obtain ⟨pos, hp, hno, hit, hbel⟩ := hrel
    have HN := Lib.hid hno
    have HB := Lib.hid hbel
    have HI := Lib.hid hit
    have hlt0 : w.heap.size < wr.heap.size := blk_lt hit
    have hip := iterPos_of hit
    clear hno hbel
    by_cases hlt : pos < s.size
    · have hn := fun ty => next_any (P := Tryz.prog) hit ty hlt
      obtain ⟨c, hc⟩ : ∃ c, c = (s[pos]'hlt).toNat := ⟨_, rfl⟩
      by_cases ha : c < 128
      · have hd : Utf8.decode s pos = (c, 1) := by rw [decode_ascii s pos hlt (by omega), hc]
        rw [hd] at hn
        have HD := Lib.hid hc
        clear hc hd hit
        obtain ⟨q, hq⟩ : ∃ q, q = Lib.indexByte signs c.toUInt8 := ⟨_, rfl⟩
        have HQ := Lib.hid fun W => HA.out c W ha
        rw [← hq] at HQ
        have HE := Lib.hid hq
        clear hq
        go_wp2_with fail
        refine (HQ.out _).mono ?_
        rintro e w' ⟨rfl, hb⟩
        have hsz := setIter_size wr w.heap.size s (pos + 1)
        have hit2 := (hb.block w.heap.size (by omega)).trans (setIter_same hlt0 s (pos + 1))
        have hbel2 : Below w.heap.size w w' := bel (setIter_below HB.out (Nat.le_refl _) s (pos + 1)) hb
        have hx : s.data.toList[pos]? = some (s[pos]'hlt) := Lib.data_getElem? s pos hlt
        have hcu : c.toUInt8 = s[pos]'hlt := by rw [HD.out]; simp
        have hcon := Lib.contains_iff_indexByte signs (c.toUInt8)
        rw [← HE.out] at hcon
        cases hin : signs.contains c.toUInt8
        · rw [hin] at hcon
          have hneg : ¬ (0 : Int) ≤ q := of_decide_eq_false hcon.symm
          have hres : IA w s w' := ⟨pos + 1, by omega, HN.out.succ hx (by rw [← hcu]; exact hin), hit2, hbel2⟩
          have hme := iterPos_of hit2
          clear hx hcu hcon hin hb hit2 hbel2 hn
          go_wp2_with fail
          exact ⟨hres, by rw [hme, hip]; omega⟩
        · rw [hin] at hcon
          have hge : (0 : Int) ≤ q := of_decide_eq_true hcon.symm
          have hres := Lib.indexAny_hit HN.out hx (by rw [← hcu]; exact hin)
          clear hx hcu hcon hin hb hit2 hn
          go_wp2_with fail
          go_ret
          exact ⟨by rw [hres]; rfl, hbel2⟩
      · have hw := decode_wide s pos hlt (by omega)
        have hd := (decode_high s pos hlt (by omega)).1
        obtain ⟨d, hd0⟩ : ∃ d, d = (Utf8.decode s pos).1 := ⟨_, rfl⟩
        obtain ⟨n, hn0⟩ : ∃ n, n = (Utf8.decode s pos).2 := ⟨_, rfl⟩
        rw [← hd0] at hn hd
        rw [← hn0] at hn hw
        have HW := Lib.hid hw
        clear hd0 hn0 hw hit hc
        go_wp2_with fail
        refine (HH.out d _ hd).mono ?_
        rintro e w' ⟨rfl, hb⟩
        have hsz := setIter_size wr w.heap.size s (pos + n)
        have hit2 := (hb.block w.heap.size (by omega)).trans (setIter_same hlt0 s (pos + n))
        have hbel2 : Below w.heap.size w w' := bel (setIter_below HB.out (Nat.le_refl _) s (pos + n)) hb
        have hres : IA w s w' := ⟨pos + n, HW.out.2.1, noAny_more HN.out HW.out.2.2, hit2, hbel2⟩
        have hme := iterPos_of hit2
        have hnn := HW.out.1
        clear hb hit2 hbel2 hn
        go_wp2_with fail
        exact ⟨hres, by rw [hme, hip]; omega⟩
    · have hn := fun ty => next_end (P := Tryz.prog) hit ty hlt
      have hl : s.data.toList.length = s.size := len_data s
      have hres := Lib.indexAny_none (s := s.data.toList) (chars := signs) (by rw [hl]; have := HN.out; rwa [show pos = s.size by omega] at this)
      clear hit
      go_wp2_with fail
      go_ret
      exact ⟨by rw [hres]; rfl, HB.out⟩
theorem idxAny_any (s : ByteArray) (w : World) (hs : s.size < 4294967281) :
    Calls Tryz.prog 40 #[.string s, .string signT] w fun e w' => e = .returned (.int .i64 (Lib.indexAny s.data.toList signs)) ∧ Below w.heap.size w w' := by
  by_cases h8 : s.size ≤ 8
  · exact idxAny_short s w h8
  · have h116 : (Tryz.prog.info? 123).map (fun i => (i.zero, i.size)) = some (some (.agg (Array.replicate 256 (.bool false))), 256) := by kernel_rfl
    refine (Tryz.strings_IndexAny_long (zero_of_info h116).1 s signT w (by decide) (by omega) hs (by decide) (fun j b hb => signs_low b (List.mem_of_getElem? hb))).mono ?_
    rintro e w' ⟨rfl, rfl⟩
    exact ⟨rfl, ((Below.refl _ _).alloc (Nat.le_refl _) _).alloc (by simp) _⟩
end Go.Proofs.YtjfknmlchdifjaaGreatDoor
namespace Go.Proofs.YtjfknmlchdifjaaGreatDoorQ.P
open Go.RowKit Go.Proofs.YtjfknmlchdifjaaGreatDoorW.PrintWords Go.Proofs.YtjfknmlchdifjaaGreatDoor
theorem if_someP {α : Type} {p : Prop} [Decidable p] {x y : α} (h : (if p then some x else none) = some y) : p ∧ x = y := by
  split at h
  · exact ⟨‹_›, Option.some.inj h⟩
  · cases h
theorem flat_sing (xs : List ByteArray) : xs.flatMap (fun x => [Value.string x]) = xs.map Value.string := by
  induction xs with
  | nil => rfl
  | cons x xs ih => rw [List.flatMap_cons, ih]; rfl
def wordsT (c : UInt8) (s : ByteArray) : List ByteArray := (splitL c s.data.toList).map tx
theorem tx_inj {a b : ByteArray} (h : a.data.toList = b.data.toList) : a = b := by rw [← tx_of a, ← tx_of b, h]
theorem count_one (c : UInt8) : ∀ (n : Nat) (l : List UInt8), l.length ≤ n → l.count c ≤ Lib.countFrom [c] (n + 1) l
  | n, l, hn => by
    rcases index_one_cut c l with ⟨h1, h2⟩ | ⟨i, h1, h2, h3⟩
    · rw [List.count_eq_zero.2 h2]; omega
    · have e : Lib.countFrom [c] (n + 1) l = 1 + Lib.countFrom [c] n (l.drop (i + 1)) := by
        rw [Lib.countFrom, if_neg (by rw [h1]; simp), h1, Int.toNat_natCast]
        rfl
      have hl : l.count c = 1 + (l.drop (i + 1)).count c := by
        conv => lhs; rw [h3]
        rw [List.count_append, List.count_cons_self, List.count_eq_zero.2 h2]
        omega
      have hlen : l.length = (l.take i).length + ((l.drop (i + 1)).length + 1) := by
        conv => lhs; rw [h3]
        simp
      rw [e, hl]
      cases n with
      | zero => omega
      | succ n =>
        have := count_one c n (l.drop (i + 1)) (by omega)
        omega
theorem split_words (c : UInt8) (s sep : ByteArray) (hsep : sep.data.toList = [c]) : Lib.splitB sep 0 (Lib.countB s sep) s = wordsT c s ∧ Lib.countB s sep + 1 = (wordsT c s).length := by
  have h1 := Lib.splitB_data sep 0 (Lib.countB s sep) s
  have hlen := Lib.splitB_all sep (by rw [← len_data, hsep]; simp) 0 _ s rfl
  have hc : s.data.toList.count c ≤ Lib.countB s sep := by
    show _ ≤ Lib.count s.data.toList sep.data.toList
    rw [hsep]
    exact count_one c _ _ (Nat.le_refl _)
  rw [hsep, splitK_eq c _ _ hc] at h1
  have h2 : Lib.splitB sep 0 (Lib.countB s sep) s = wordsT c s := by
    unfold wordsT
    rw [← h1, List.map_map]
    have : (tx ∘ fun x : ByteArray => x.data.toList) = id := by
      funext x
      exact tx_of x
    rw [this, List.map_id]
  rw [h2] at hlen
  exact ⟨h2, hlen.symm⟩
def strings_Split.f (a0 : ByteArray) (a1 : ByteArray) : Option (List ByteArray) := if a0.size ≤ 1000000 ∧ a1.size = 1 then some (wordsT (a1.data.toList.headD 0) a0) else none
theorem strs_r {w : World} {B : Nat} {v : Value} {xs : List ByteArray} (h : w.ownsRow B 9 1 v xs.length (xs.map Value.string)) : Kd.R Kd.string 9 w B (fun _ => True) v xs := by
  have := R_of_own (d := Kd.string) (g := id) (en := fun x => [Value.string x]) (fun _ _ _ _ => rfl) (fun _ => rfl) (ys := xs) (w := w) (B := B) (v := v) (e := 9) (by
    rw [flat_sing]
    exact h)
  rwa [List.map_id] at this
theorem strings_Split.calls (a0 : ByteArray) (a1 : ByteArray) (r : List ByteArray) (w : World) (hG : GOK w) (h : strings_Split.f a0 a1 = some r) :
    Calls Tryz.prog 34 #[.string a0, .string a1] w fun e w' => ∃ v0_ : Value, e = .returned (v0_) ∧ Kd.R Kd.string 9 w' w.heap.size (fun _ => True) v0_ r ∧ Below w.heap.size w w' := by
  obtain ⟨⟨h1, h2⟩, rfl⟩ := if_someP h
  obtain ⟨m, hm⟩ := gok_maxlen hG
  have hsep : a1.data.toList = [a1.data.toList.headD 0] := by
    have hl := len_data a1
    rw [h2] at hl
    match hh : a1.data.toList, hl with
    | [x], _ => rfl
  obtain ⟨e1, e2⟩ := split_words _ a0 a1 hsep
  refine (Tryz.strings_Split a0 a1 m w (by omega) hm (by omega)).mono ?_
  rintro e w' ⟨rfl, rfl⟩
  refine ⟨_, rfl, ?_, (Below.refl _ _).alloc (Nat.le_refl _) _⟩
  rw [e1, e2]
  refine strs_r ?_
  have hle : (wordsT (a1.data.toList.headD 0) a0).length ≤ 1000001 := by
    have := splitL_len (a1.data.toList.headD 0) a0.data.toList
    rw [len_data] at this
    unfold wordsT
    rw [List.length_map]
    omega
  refine ⟨by simp, .inr ⟨w.heap.size, _, _, rfl, Nat.le_refl _, Go.Proofs.YtjfknmlchdifjaaGreatDoor.blk_new _ _, Nat.le_refl _, by unfold maxLen; omega, by simp, by rw [Nat.mul_one, List.take_of_length_le (by simp)]⟩⟩
def strings_IndexAny.f (a0 : ByteArray) (a1 : ByteArray) : Option (Int) := if a0.size ≤ 1000000 ∧ a1 = signT then some (Lib.indexAny a0.data.toList signs) else none
theorem strings_IndexAny.calls (a0 : ByteArray) (a1 : ByteArray) (r : Int) (w : World) (h : strings_IndexAny.f a0 a1 = some r) :
    Calls Tryz.prog 40 #[.string a0, .string a1] w fun e w' => e = .returned (.int .i64 r) ∧ Below w.heap.size w w' := by
  obtain ⟨⟨h1, rfl⟩, rfl⟩ := if_someP h
  exact idxAny_any a0 w (by omega)
end Go.Proofs.YtjfknmlchdifjaaGreatDoorQ.P
namespace Go.Proofs.YtjfknmlchdifjaaGreatDoorQ.P
open Go.RowKit Go.Proofs.YtjfknmlchdifjaaGreatDoorW.PrintWords Go.Proofs.YtjfknmlchdifjaaGreatDoor
def toRcv (x : S90) : Rcv := ⟨x.f0, x.f1.f0, x.f1.f1, x.f1.f2, x.f2, x.f3, x.f4, x.f5, x.f6⟩
def ofRcv (x : Rcv) : S90 := ⟨x.name, ⟨x.base, x.top, x.jit⟩, x.tries, x.fails, x.opn, x.burst, x.every⟩
def ofRte (x : Rte) : S93 := ⟨x.chain, x.asked.map ofMat⟩
theorem rcvs_c {w : World} {A : Option Addr} {c : Nat} {xs : List S90} (h : Kd.C k90 w A xs.length xs) (hc : xs.length ≤ c) : SlAt w (.slice A xs.length c) 9 (xs.map toRcv).length (rcvsC (xs.map toRcv)) := by
  rw [List.length_map]
  exact slat_of_C (f := toRcv) (en := rcvC) (fun h => k90_open h) (fun _ => rfl) (by decide) h hc
theorem flat_ints (xs : List Int) : xs.flatMap (fun x => [Value.int .i64 x]) = intsC xs := by
  unfold intsC
  induction xs with
  | nil => rfl
  | cons x xs ih => rw [List.flatMap_cons, ih]; rfl
theorem ints_c {w : World} {A : Option Addr} {c : Nat} {xs : List Int} (h : (Kd.int .i64).C w A xs.length xs) (hc : xs.length ≤ c) : SlAt w (.slice A xs.length c) 1 xs.length (intsC xs) := by
  have hS := slat_of_C (d := Kd.int .i64) (f := id) (en := fun x => [Value.int .i64 x]) (fun h => h) (fun _ => rfl) (by decide) h hc
  rw [List.map_id, flat_ints] at hS
  exact hS
end Go.Proofs.YtjfknmlchdifjaaGreatDoorQ.P
namespace Go.Proofs.YtjfknmlchdifjaaGreatDoor
open Go.RowKit Go.Proofs.YtjfknmlchdifjaaGreatDoorQ Go.Proofs.YtjfknmlchdifjaaGreatDoorQ.P Go.Proofs.YtjfknmlchdifjaaGreatDoorW.PrintWords
attribute [local go_sem high] ext_size ext_cell ext_frozen alloc_cell alloc_frozen
attribute [local go_sem] lt_more lt_suc drew_size drew_cell
theorem infoRcv : (Tryz.prog.info? 90).map (fun i => (i.zero, i.size, i.bytes)) = some (some (.agg #[.string ⟨#[]⟩, .int .i64 0, .int .i64 0, .int .i64 0, .int .i64 0, .int .i64 0, .int .i64 0, .int .i64 0, .int .i64 0]), 9, 80) := by kernel_rfl
theorem infoInt : (Tryz.prog.info? 3).map (fun i => (i.zero, i.size, i.bytes)) = some (some (.int .i64 0), 1, 8) := by kernel_rfl
theorem infoMat : (Tryz.prog.info? 32).map (fun i => (i.zero, i.size, i.bytes)) = some (some (.agg #[(.int .i64 0), (.string ⟨#[]⟩), (.string ⟨#[]⟩)]), 3, 40) := by kernel_rfl
theorem infoStr : (Tryz.prog.info? 9).map (fun i => (i.zero, i.size, i.bytes)) = some (some (.string ⟨#[]⟩), 1, 16) := by kernel_rfl
structure RdA (w : World) (g : Nat) (rv tv wv : Value) (c : Cfg) (ahead : ByteArray) : Prop where
  blk : w.heap[g]? = some (.cells #[rv, tv, .int .i64 c.rep, .int .i64 c.beat, wv, .string ahead] 84 (0, 0))
  rs : Kd.R k90 90 w g (fun _ => True) rv (c.rs.map ofRcv)
  ts : Kd.S k93 93 w g (fun _ => True) tv (c.ts.map ofRte)
  rl : c.rs.length ≤ 4
  tl : c.ts.length ≤ 4
theorem RdA.stay {w W : World} {g : Nat} {rv tv wv : Value} {c : Cfg} {a : ByteArray} (h : RdA w g rv tv wv c a) (hb : Below w.heap.size w W) : RdA W g rv tv wv c a :=
  ⟨blk_call hb h.blk, Kd.R_below h.rs hb, Kd.S_below h.ts hb, h.rl, h.tl⟩
theorem bel_low {w W : World} {g : Nat} (hg : g ≤ w.heap.size) (h : Below w.heap.size w W) : Below g w W := ⟨h.os, h.tape, h.output, h.size, fun i hi => h.block i (by omega)⟩
theorem bel_to {w W : World} {g B : Nat} (hg : g ≤ B) (h : Below B w W) : Below g w W := ⟨h.os, h.tape, h.output, h.size, fun i hi => h.block i (by omega)⟩
theorem RdA.lt {w : World} {g : Nat} {rv tv wv : Value} {c : Cfg} {a : ByteArray} (h : RdA w g rv tv wv c a) : g < w.heap.size := blk_lt h.blk
theorem RdA.put {w : World} {g : Nat} {rv tv wv : Value} {c : Cfg} {a : ByteArray} (h : RdA w g rv tv wv c a) (j : Nat) (u : Value) {rv' tv' wv' : Value} {c' : Cfg} {a' : ByteArray}
    (hc : (#[rv, tv, .int .i64 c.rep, .int .i64 c.beat, wv, .string a] : Array Value).setIfInBounds j u = #[rv', tv', .int .i64 c'.rep, .int .i64 c'.beat, wv', .string a'])
    (hr : rv' = rv) (ht : tv' = tv) (hrs : c'.rs = c.rs) (hts : c'.ts = c.ts) : RdA (w.setCell ⟨g, j, none⟩ u) g rv' tv' wv' c' a' := by
  subst hr ht
  refine ⟨?_, ?_, ?_, by rw [hrs]; exact h.rl, by rw [hts]; exact h.tl⟩
  · rw [← hc]
    exact blk_set h.blk j u
  · rw [hrs]
    exact Kd.R_set h.rs h.blk (by decide) j u
  · rw [hts]
    exact Kd.S_set h.ts h.blk (by decide) j u
def timeC (o : Nat) (c : Cfg) (v : Int) : Cfg := if o = 2 then { c with rep := v } else { c with beat := v }
theorem set_low (w : World) (g j : Nat) (u : Value) : Below g w (w.setCell ⟨g, j, none⟩ u) := bset (p := ⟨g, j, none⟩) (Below.refl _ _) (Nat.le_refl _) u
set_option maxHeartbeats 4000000 in
theorem rtime_any (g : Nat) (rv tv wv : Value) (c : Cfg) (ahead : ByteArray) (ws : List ByteArray) (o : Nat) (old : Int) (w : World) (h : RdA w g rv tv wv c ahead) (hS : SlAt w wv 1 ws.length (strs ws)) (hG : GOK w) (hw : ∀ x ∈ ws, x.size ≤ 100000) (ho : (o = 2 ∧ old = c.rep) ∨ (o = 3 ∧ old = c.beat)) :
    Calls Tryz.prog 137 #[.pointer (some ⟨g, 0, none⟩), .pointer (some ⟨g, o, none⟩)] w fun e w' => e = .returned (.int .i64 (timeS old ws).2) ∧ Below g w w' ∧
      RdA w' g rv tv wv (timeC o c (timeS old ws).1) ahead := by
  have HH := Lib.hid h
  have HG := Lib.hid hG
  have hgl := h.lt
  obtain ⟨a0, c0, rfl, _, hm0⟩ := hS.form
  have HS := Lib.hid hS
  have k4 : w.cell? ⟨g, 4, none⟩ = some (.slice a0 ws.length c0) := blk_cell h.blk rfl
  have hoc : timeC o c old = c := by
    rcases ho with ⟨rfl, rfl⟩ | ⟨rfl, rfl⟩
    · exact if_pos rfl
    · exact if_neg (by decide)
  have HOC := Lib.hid hoc
  have HP := Lib.hid (show ∀ (W : World) (v : Int), RdA W g rv tv (.slice a0 ws.length c0) c ahead → RdA (W.setCell ⟨g, o, none⟩ (.int .i64 v)) g rv tv (.slice a0 ws.length c0) (timeC o c v) ahead from fun W v hW => by
    rcases ho with ⟨rfl, _⟩ | ⟨rfl, _⟩
    · exact hW.put 2 _ rfl rfl rfl rfl rfl
    · exact hW.put 3 _ rfl rfl rfl rfl rfl)
  have kO : ∃ u, w.cell? ⟨g, o, none⟩ = some u := by
    rcases ho with ⟨rfl, _⟩ | ⟨rfl, _⟩
    · exact ⟨_, blk_cell h.blk rfl⟩
    · exact ⟨_, blk_cell h.blk rfl⟩
  obtain ⟨uO, kO⟩ := kO
  have fO : w.frozen? ⟨g, o, none⟩ = false := blk_free h.blk o
  unfold maxLen at hm0
  unfold timeS
  clear h hG hS hoc ho
  by_cases h2 : ws.length = 2
  · rw [if_neg (by omega)]
    obtain ⟨w0, w1, rfl⟩ : ∃ w0 w1, ws = [w0, w1] := by
      match ws, h2 with
      | [a, b], _ => exact ⟨a, b, rfl⟩
    simp only [List.getD_cons_succ, List.getD_cons_zero]
    obtain ⟨b, oo, rfl, hbl, hcell⟩ := HS.out.at (by simp)
    have k1 : w.cell? ⟨b, oo + 1, none⟩ = some (.string w1) := hcell 1 _ rfl
    have HN := Lib.hid fun W (hW : GOK W) => number_any w1 W hW (Nat.le_trans (hw w1 (by simp)) (by omega))
    have HO := Lib.hid fun W => often_any (atoiV w1.data.toList) W
    generalize atoiV w1.data.toList = v at *
    generalize atoiB w1.data.toList = vb at *
    generalize oftenB v = ob at *
    clear hw hcell
    have hlen : ([w0, w1] : List ByteArray).length = 2 := rfl
    rw [hlen] at *
    cases vb
    · go_enter Tryz.func137, Tryz.ntmps137
      go_wp2_with fail
      refine (HN.out _ (gok_below HG.out (by repeat (first | exact Below.refl _ _ | apply bal | apply bext | apply bdr | apply bdrN | (refine bst ?_ _ (by simp only [ext_size, size_alloc, size_set]; omega)))))).mono ?_
      rintro e w' ⟨rfl, hb⟩
      obtain ⟨y1, rfl⟩ := ext_of hb
      clear hb
      go_wp2_with fail
      go_ret
      refine ⟨rfl, bel_low (by omega) (by repeat (first | exact Below.refl _ _ | apply bal | apply bext | apply bdr | apply bdrN | (refine bst ?_ _ (by simp only [ext_size, size_alloc, size_set]; omega)))), ?_⟩
      rw [HOC.out]
      exact HH.out.stay (by repeat (first | exact Below.refl _ _ | apply bal | apply bext | apply bdr | apply bdrN | (refine bst ?_ _ (by simp only [ext_size, size_alloc, size_set]; omega))))
    · cases ob
      · go_enter Tryz.func137, Tryz.ntmps137
        go_wp2_with fail
        refine (HN.out _ (gok_below HG.out (by repeat (first | exact Below.refl _ _ | apply bal | apply bext | apply bdr | apply bdrN | (refine bst ?_ _ (by simp only [ext_size, size_alloc, size_set]; omega)))))).mono ?_
        rintro e w' ⟨rfl, hb⟩
        obtain ⟨y1, rfl⟩ := ext_of hb
        clear hb
        go_wp2_with fail
        refine (HO.out _).mono ?_
        rintro e w' ⟨rfl, hb⟩
        obtain ⟨y2, rfl⟩ := ext_of hb
        clear hb
        go_wp2_with fail
        go_ret
        refine ⟨rfl, bel_low (by omega) (by repeat (first | exact Below.refl _ _ | apply bal | apply bext | apply bdr | apply bdrN | (refine bst ?_ _ (by simp only [ext_size, size_alloc, size_set]; omega)))), ?_⟩
        rw [HOC.out]
        exact HH.out.stay (by repeat (first | exact Below.refl _ _ | apply bal | apply bext | apply bdr | apply bdrN | (refine bst ?_ _ (by simp only [ext_size, size_alloc, size_set]; omega))))
      · go_enter Tryz.func137, Tryz.ntmps137
        go_wp2_with fail
        refine (HN.out _ (gok_below HG.out (by repeat (first | exact Below.refl _ _ | apply bal | apply bext | apply bdr | apply bdrN | (refine bst ?_ _ (by simp only [ext_size, size_alloc, size_set]; omega)))))).mono ?_
        rintro e w' ⟨rfl, hb⟩
        obtain ⟨y1, rfl⟩ := ext_of hb
        clear hb
        go_wp2_with fail
        refine (HO.out _).mono ?_
        rintro e w' ⟨rfl, hb⟩
        obtain ⟨y2, rfl⟩ := ext_of hb
        clear hb
        go_wp2_with fail
        go_ret
        refine ⟨rfl, (bel_low (by omega) (by repeat (first | exact Below.refl _ _ | apply bal | apply bext | apply bdr | apply bdrN | (refine bst ?_ _ (by simp only [ext_size, size_alloc, size_set]; omega))))).trans (set_low _ _ _ _), ?_⟩
        exact HP.out _ _ (HH.out.stay (by repeat (first | exact Below.refl _ _ | apply bal | apply bext | apply bdr | apply bdrN | (refine bst ?_ _ (by simp only [ext_size, size_alloc, size_set]; omega)))))
  · rw [if_pos h2]
    have h2' : ¬ ((ws.length : Int) = 2) := by omega
    go_enter Tryz.func137, Tryz.ntmps137
    go_wp2_with fail
    go_ret
    refine ⟨rfl, Below.refl _ _, ?_⟩
    rw [HOC.out]
    exact HH.out
end Go.Proofs.YtjfknmlchdifjaaGreatDoor
namespace Go.Proofs.YtjfknmlchdifjaaGreatDoor
open Go.RowKit Go.Proofs.YtjfknmlchdifjaaGreatDoorQ Go.Proofs.YtjfknmlchdifjaaGreatDoorQ.P Go.Proofs.YtjfknmlchdifjaaGreatDoorW.PrintWords Go.Proofs.YtjfknmlchdifjaaGreatDoorW.PrintLast
attribute [local go_sem high] ext_size ext_cell ext_frozen alloc_cell alloc_frozen
attribute [local go_sem] lt_more lt_suc drew_size drew_cell
set_option maxHeartbeats 4000000 in
theorem repeat_any (g : Nat) (rv tv wv : Value) (c : Cfg) (ahead : ByteArray) (ws : List ByteArray) (w : World) (h : RdA w g rv tv wv c ahead) (hS : SlAt w wv 1 ws.length (strs ws)) (hG : GOK w) (hw : ∀ x ∈ ws, x.size ≤ 100000) :
    Calls Tryz.prog 99 #[.pointer (some ⟨g, 0, none⟩)] w fun e w' => e = .returned (.int .i64 (timeS c.rep ws).2) ∧ Below g w w' ∧
      RdA w' g rv tv wv { c with rep := (timeS c.rep ws).1 } ahead := by
  have HT := Lib.hid (rtime_any g rv tv wv c ahead ws 2 c.rep w h hS hG hw (.inl ⟨rfl, rfl⟩))
  clear h hS hG hw
  go_enter Tryz.func99, Tryz.ntmps99
  go_wp2_with fail
  refine HT.out.mono ?_
  rintro e w' ⟨rfl, hb, hR⟩
  go_wp2_with fail
  go_ret
  exact ⟨rfl, hb, hR⟩
set_option maxHeartbeats 4000000 in
theorem beat_any (g : Nat) (rv tv wv : Value) (c : Cfg) (ahead : ByteArray) (ws : List ByteArray) (w : World) (h : RdA w g rv tv wv c ahead) (hS : SlAt w wv 1 ws.length (strs ws)) (hG : GOK w) (hw : ∀ x ∈ ws, x.size ≤ 100000) :
    Calls Tryz.prog 100 #[.pointer (some ⟨g, 0, none⟩)] w fun e w' => e = .returned (.int .i64 (timeS c.beat ws).2) ∧ Below g w w' ∧
      RdA w' g rv tv wv { c with beat := (timeS c.beat ws).1 } ahead := by
  have HT := Lib.hid (rtime_any g rv tv wv c ahead ws 3 c.beat w h hS hG hw (.inr ⟨rfl, rfl⟩))
  clear h hS hG hw
  go_enter Tryz.func100, Tryz.ntmps100
  go_wp2_with fail
  refine HT.out.mono ?_
  rintro e w' ⟨rfl, hb, hR⟩
  go_wp2_with fail
  go_ret
  exact ⟨rfl, hb, hR⟩
def arrK (l : List Int) (k : Nat) : Array Value := ((l.take k ++ List.replicate (8 - k) 0).map (Value.int .i64)).toArray
theorem arrK_size {l : List Int} {k : Nat} (h : l.length = 8) (hk : k ≤ 8) : (arrK l k).size = 8 := by simp [arrK, h]; omega
theorem arrK_put {l : List Int} {k : Nat} (h : l.length = 8) (hk : k < 8) : (arrK l k).setIfInBounds k (.int .i64 (l.getD k 0)) = arrK l (k + 1) := by
  match l, h with
  | [a0, a1, a2, a3, a4, a5, a6, a7], _ =>
    rcases (by omega : k = 0 ∨ k = 1 ∨ k = 2 ∨ k = 3 ∨ k = 4 ∨ k = 5 ∨ k = 6 ∨ k = 7) with rfl | rfl | rfl | rfl | rfl | rfl | rfl | rfl <;> rfl
theorem arrK_at {l : List Int} {k j : Nat} (h : l.length = 8) (hk : k ≤ 8) (hj : j < 8) : ∃ v, (arrK l k)[j]? = some (.int .i64 v) := by
  have hs := arrK_size h hk
  rw [Array.getElem?_eq_getElem (by omega)]
  exact ⟨(l.take k ++ List.replicate (8 - k) 0)[j]'(by simp [h]; omega), congrArg some (by simp only [arrK, List.getElem_toArray, List.getElem_map])⟩
theorem arrK_all {l : List Int} {j : Nat} (h : l.length = 8) (hj : j < 8) : (arrK l 8)[j]? = some (.int .i64 (l.getD j 0)) := by
  match l, h with
  | [a0, a1, a2, a3, a4, a5, a6, a7], _ =>
    rcases (by omega : j = 0 ∨ j = 1 ∨ j = 2 ∨ j = 3 ∨ j = 4 ∨ j = 5 ∨ j = 6 ∨ j = 7) with rfl | rfl | rfl | rfl | rfl | rfl | rfl | rfl <;> rfl
theorem numsP_no : ∀ {ws : List ByteArray} {k : Nat} (h : k < ws.length), atoiB ws[k].data.toList = false → numsP ws = none := by
  intro ws
  induction ws with
  | nil => intro k h; simp at h
  | cons x r ih =>
    intro k h hb
    unfold numsP
    cases k with
    | zero =>
      simp only [List.getElem_cons_zero] at hb
      rw [if_neg (by rw [hb]; decide)]
    | succ k =>
      by_cases hx : atoiB x.data.toList = true
      · rw [if_pos hx, ih (by simpa using h) (by simpa using hb)]
        rfl
      · rw [if_neg hx]
theorem numsP_yes : ∀ {ws : List ByteArray}, (∀ k (h : k < ws.length), atoiB ws[k].data.toList = true) → numsP ws = some (ws.map fun x => atoiV x.data.toList) := by
  intro ws
  induction ws with
  | nil => intro _; rfl
  | cons x r ih =>
    intro h
    unfold numsP
    have h0 : atoiB x.data.toList = true := h 0 (by simp)
    rw [if_pos h0, ih fun k hk => h (k + 1) (by simpa using hk)]
    rfl
theorem rcvs_open {w : World} {B : Nat} {v : Value} {xs : List Rcv} (h : Kd.R k90 90 w B (fun _ => True) v (xs.map ofRcv)) : ∃ A c, v = .slice A xs.length c ∧ SlAt w (.slice A xs.length c) 9 xs.length (rcvsC xs) := by
  obtain ⟨A, c, rfl, hc, hr⟩ := Kd.R_reads h
  have := rcvs_c hr hc
  have e : (xs.map ofRcv).map toRcv = xs := by
    rw [List.map_map]
    conv => rhs; rw [← List.map_id xs]
    exact List.map_congr_left fun _ _ => rfl
  rw [e] at this
  rw [List.length_map] at this ⊢
  exact ⟨A, c, rfl, this⟩
def NumS (b o H : Nat) (nm : ByteArray) (n0 n1 n2 n3 n4 n5 n6 n7 : Int) (w : World) : Prop :=
  w.cell? ⟨b, o, none⟩ = some (.string nm) ∧ w.cell? ⟨H, 0, none⟩ = some (.int .i64 n0) ∧ w.cell? ⟨H, 1, none⟩ = some (.int .i64 n1) ∧ w.cell? ⟨H, 2, none⟩ = some (.int .i64 n2) ∧ w.cell? ⟨H, 3, none⟩ = some (.int .i64 n3) ∧
    w.cell? ⟨H, 4, none⟩ = some (.int .i64 n4) ∧ w.cell? ⟨H, 5, none⟩ = some (.int .i64 n5) ∧ w.cell? ⟨H, 6, none⟩ = some (.int .i64 n6) ∧ w.cell? ⟨H, 7, none⟩ = some (.int .i64 n7)
theorem NumS.stay {b o H : Nat} {nm : ByteArray} {n0 n1 n2 n3 n4 n5 n6 n7 : Int} {w W : World} (h : NumS b o H nm n0 n1 n2 n3 n4 n5 n6 n7 w) (hb : b < w.heap.size) (hH : H < w.heap.size) (h2 : Below w.heap.size w W) : NumS b o H nm n0 n1 n2 n3 n4 n5 n6 n7 W := by
  obtain ⟨e, e0, e1, e2, e3, e4, e5, e6, e7⟩ := h
  have f := fun j => h2.cell (p := ⟨H, j, none⟩) hH
  exact ⟨(h2.cell (p := ⟨b, o, none⟩) hb).trans e, (f 0).trans e0, (f 1).trans e1, (f 2).trans e2, (f 3).trans e3, (f 4).trans e4, (f 5).trans e5, (f 6).trans e6, (f 7).trans e7⟩
def NewS (g H : Nat) (v : Value) (nm : ByteArray) (n0 n1 n2 n3 n4 n5 n6 n7 : Int) (w : World) : Prop :=
  w.cell? ⟨g, 0, none⟩ = some v ∧ w.cell? ⟨H, 0, none⟩ = some (.string nm) ∧ w.cell? ⟨H, 1, none⟩ = some (.int .i64 n0) ∧ w.cell? ⟨H, 2, none⟩ = some (.int .i64 n1) ∧ w.cell? ⟨H, 3, none⟩ = some (.int .i64 n2) ∧ w.cell? ⟨H, 4, none⟩ = some (.int .i64 n3) ∧
    w.cell? ⟨H, 5, none⟩ = some (.int .i64 n4) ∧ w.cell? ⟨H, 6, none⟩ = some (.int .i64 n5) ∧ w.cell? ⟨H, 7, none⟩ = some (.int .i64 n6) ∧ w.cell? ⟨H, 8, none⟩ = some (.int .i64 n7)
theorem NewS.of {g H : Nat} {v : Value} {nm : ByteArray} {n0 n1 n2 n3 n4 n5 n6 n7 : Int} {w : World} {cs : Array Value} {T T' : TypeId} (h : w.heap[g]? = some (.cells cs T (0, 0))) (hv : cs[0]? = some v)
    (h2 : w.heap[H]? = some (.cells #[.string nm, .int .i64 n0, .int .i64 n1, .int .i64 n2, .int .i64 n3, .int .i64 n4, .int .i64 n5, .int .i64 n6, .int .i64 n7] T' (0, 0))) : NewS g H v nm n0 n1 n2 n3 n4 n5 n6 n7 w :=
  ⟨blk_cell h hv, blk_cell h2 rfl, blk_cell h2 rfl, blk_cell h2 rfl, blk_cell h2 rfl, blk_cell h2 rfl, blk_cell h2 rfl, blk_cell h2 rfl, blk_cell h2 rfl, blk_cell h2 rfl⟩
set_option maxHeartbeats 8000000 in
set_option maxRecDepth 100000 in
theorem receiver_any (g : Nat) (rv tv wv : Value) (c : Cfg) (ahead : ByteArray) (ws : List ByteArray) (w : World) (h : RdA w g rv tv wv c ahead) (hS : SlAt w wv 1 ws.length (strs ws)) (hG : GOK w) (hw : ∀ x ∈ ws, x.size ≤ 100000) (hn : ws.length ≤ 200000) :
    Calls Tryz.prog 97 #[.pointer (some ⟨g, 0, none⟩)] w fun e w' => e = .returned (.int .i64 (rcvS c.rs ws).2) ∧ Below g w w' ∧
      ∃ rv', RdA w' g rv' tv wv { c with rs := (rcvS c.rs ws).1 } ahead := by
  have HH := Lib.hid h
  have HG := Lib.hid hG
  have hgl := h.lt
  obtain ⟨A, cap, rfl, hRS⟩ := rcvs_open h.rs
  obtain ⟨a0, c0, rfl, hc0, hm0⟩ := hS.form
  have HS := Lib.hid hS
  have HRS := Lib.hid hRS
  have k0 : w.cell? ⟨g, 0, none⟩ = some (.slice A c.rs.length cap) := blk_cell h.blk rfl
  have k4 : w.cell? ⟨g, 4, none⟩ = some (.slice a0 ws.length c0) := blk_cell h.blk rfl
  have f0 : w.frozen? ⟨g, 0, none⟩ = false := blk_free h.blk 0
  have hHB := h.blk
  unfold maxLen at hm0
  clear h hG hS hRS
  unfold rcvS
  by_cases h4 : c.rs.length = 4
  · rw [if_pos h4]
    have h4' : (c.rs.length : Int) = 4 := by omega
    go_enter Tryz.func97, Tryz.ntmps97
    go_wp2_with fail
    go_ret
    exact ⟨rfl, Below.refl _ _, _, HH.out⟩
  rw [if_neg h4]
  have h4' : ¬ ((c.rs.length : Int) = 4) := by omega
  by_cases h10 : ws.length ≠ 10
  · rw [if_pos h10]
    have h10' : ¬ ((ws.length : Int) = 10) := by omega
    go_enter Tryz.func97, Tryz.ntmps97
    go_wp2_with fail
    go_ret
    exact ⟨rfl, Below.refl _ _, _, HH.out⟩
  rw [if_neg h10]
  have h10' : ws.length = 10 := by omega
  obtain ⟨b, oo, rfl, hbl, hcell⟩ := HS.out.at (by omega)
  obtain ⟨nm, hnm⟩ : ∃ nm, nm = ws.getD 1 ⟨#[]⟩ := ⟨_, rfl⟩
  have hnm1 : ws[1]'(by omega) = nm := by rw [hnm, List.getD_eq_getElem?_getD, List.getElem?_eq_getElem (by omega)]; rfl
  have k1 : w.cell? ⟨b, oo + 1, none⟩ = some (.string nm) := by rw [← hnm1]; exact hcell 1 _ (strs_get ws 1 (by omega))
  have hns : nm.size ≤ 100000 := by rw [← hnm1]; exact hw _ (List.getElem_mem _)
  have HP := Lib.hid fun W (hs : SlAt W (.slice A c.rs.length cap) 9 c.rs.length (rcvsC c.rs)) => place_any (.slice A c.rs.length cap) c.rs nm W hs
  rw [← hnm]
  generalize placeL c.rs nm = pl at HP ⊢
  rw [h10'] at k4
  have hcc : ¬ (c0 = 2) := by omega
  clear hc0
  by_cases hpl : 0 ≤ pl
  · rw [if_pos hpl]
    clear h10 h10' hcell hnm hnm1 hns hw
    go_enter Tryz.func97, Tryz.ntmps97
    go_wp2_with fail
    refine wp_region_ext (by kernel_rfl) (by kernel_rfl) ?_
    repeat (go_big_quiet_step ((first | (go_at_call 63; exact Calls.grew (HP.out _ (HRS.out.stay (by repeat (first | exact Below.refl _ _ | apply bal | apply bext | apply bdr | apply bdrN | (refine bst ?_ _ (by simp only [ext_size, size_alloc, size_set]; omega))))))))))
    refine wpQuiet_nil ?_
    intro _ hw'
    obtain ⟨y1, rfl⟩ := hw'
    go_wp2_with fail
    go_ret
    exact ⟨rfl, bel_low (by omega) (by repeat (first | exact Below.refl _ _ | apply bal | apply bext | apply bdr | apply bdrN | (refine bst ?_ _ (by simp only [ext_size, size_alloc, size_set]; omega)))), _, HH.out.stay (by repeat (first | exact Below.refl _ _ | apply bal | apply bext | apply bdr | apply bdrN | (refine bst ?_ _ (by simp only [ext_size, size_alloc, size_set]; omega))))⟩
  rw [if_neg hpl]
  have hd : (ws.drop 2).length = 8 := by rw [List.length_drop]; omega
  obtain ⟨wk, hwk⟩ : ∃ wk : Nat → ByteArray, ∀ k (hk : k < 8), ws[k + 2]'(by omega) = wk k := ⟨fun k => ws.getD (k + 2) ⟨#[]⟩, fun k hk => by
    simp only [List.getD_eq_getElem?_getD]
    rw [List.getElem?_eq_getElem (by omega)]; rfl⟩
  have HN := Lib.hid fun (k : Nat) (hk : k < 8) W (hW : GOK W) => number_any (wk k) W hW (Nat.le_trans (by rw [← hwk k hk]; exact hw _ (List.getElem_mem _)) (show 100000 ≤ 1000000 by omega))
  have HK := Lib.hid fun (k : Nat) (hk : k < 8) => (show w.cell? ⟨b, oo + 2 + k, none⟩ = some (.string (wk k)) from by
    rw [← hwk k hk]
    have := hcell (k + 2) _ (strs_get ws (k + 2) (by omega))
    rw [show oo + 2 + k = oo + (k + 2) by omega]; exact this)
  obtain ⟨L, hL⟩ : ∃ L, L = (ws.drop 2).map fun x => atoiV x.data.toList := ⟨_, rfl⟩
  have hL8 : L.length = 8 := by rw [hL, List.length_map, hd]
  have HLk := Lib.hid fun (k : Nat) (hk : k < 8) => (show atoiV (wk k).data.toList = L.getD k 0 from by
    rw [hL, List.getD_eq_getElem?_getD, List.getElem?_map, List.getElem?_drop, Nat.add_comm 2 k, List.getElem?_eq_getElem (by omega), hwk k hk]; rfl)
  have HNO := Lib.hid fun (k : Nat) (hk : k < 8) (hb : atoiB (wk k).data.toList = false) => numsP_no (ws := ws.drop 2) (k := k) (by omega) (by rw [List.getElem_drop]; simp only [Nat.add_comm 2 k]; rw [hwk k hk]; exact hb)
  have HYES := Lib.hid fun (hb : ∀ (k : Nat) (hk : k < 8), atoiB (wk k).data.toList = true) => (show numsP (ws.drop 2) = some L from by
    rw [hL]; exact numsP_yes fun k hk => by have := hb k (by omega); rw [List.getElem_drop]; simp only [Nat.add_comm 2 k]; rw [hwk k (by omega)]; exact this)
  have HI := Lib.hid fun W => isReceiver_any (rcvOf nm L) W (Nat.le_trans hns (by unfold maxLen; omega))
  obtain ⟨res, hres⟩ : ∃ res, res = rcvN c.rs nm (numsP (ws.drop 2)) := ⟨_, rfl⟩
  rw [← hres]
  have HNO := Lib.hid fun (k : Nat) (hk : k < 8) (hb : atoiB (wk k).data.toList = false) => (show res = (c.rs, 13) from by rw [hres, HNO.out k hk hb]; rfl)
  have HYES := Lib.hid fun (hb : ∀ (k : Nat) (hk : k < 8), atoiB (wk k).data.toList = true) => (show res = rcvN c.rs nm (some L) from by rw [hres, HYES.out hb])
  clear hres
  clear hL hd hcell hnm hnm1 hns hw hwk h10 h10' hn
  go_enter Tryz.func97, Tryz.ntmps97
  go_wp2_with fail
  refine wp_region_ext (by kernel_rfl) (by kernel_rfl) ?_
  repeat (go_big_quiet_step ((first | (go_at_call 63; exact Calls.grew (HP.out _ (HRS.out.stay (by repeat (first | exact Below.refl _ _ | apply bal | apply bext | apply bdr | apply bdrN | (refine bst ?_ _ (by simp only [ext_size, size_alloc, size_set]; omega))))))))))
  refine wpQuiet_nil ?_
  intro _ hw'
  obtain ⟨y1, rfl⟩ := hw'
  go_wp2_with fail
  have hHs : (ext w y1).heap.size = w.heap.size + more y1 := ext_size y1
  have hwH : w.heap.size ≤ w.heap.size + more y1 := by omega
  go_loopw [40] (fun i wr => ∃ k : Nat, k ≤ 8 ∧ i = .int .i64 k ∧ (∀ j, j < k → atoiB (wk j).data.toList = true) ∧ Below (w.heap.size + more y1) (ext w y1) wr ∧ wr.heap[w.heap.size + more y1]? = some (.cells (arrK L k) 166 (0, 0))) (fun i _ => 8 - (intOf i).toNat)
  case atStart =>
    refine ⟨0, Nat.zero_le _, rfl, fun j hj => absurd hj (by omega), ?_, ?_⟩
    · have := (Below.refl (w.heap.size + more y1) (ext w y1)).alloc (by omega) (.cells #[Value.int IntKind.i64 0, Value.int IntKind.i64 0, Value.int IntKind.i64 0, Value.int IntKind.i64 0, Value.int IntKind.i64 0, Value.int IntKind.i64 0, Value.int IntKind.i64 0, Value.int IntKind.i64 0] 166)
      exact this
    · have := blk_new (ext w y1) (.cells #[Value.int IntKind.i64 0, Value.int IntKind.i64 0, Value.int IntKind.i64 0, Value.int IntKind.i64 0, Value.int IntKind.i64 0, Value.int IntKind.i64 0, Value.int IntKind.i64 0, Value.int IntKind.i64 0] 166)
      rw [hHs] at this
      exact this
  case round =>
    obtain ⟨k, hk, rfl, hno, hbel, hblk⟩ := hrel
    have HX := Lib.hid hno
    have hHl := blk_lt hblk
    have hB0 : Below w.heap.size w wr := (ext_bel w y1).trans (bel_to hwH hbel)
    have HB1 := Lib.hid hB0
    have HB2 := Lib.hid hbel
    have HBK := Lib.hid hblk
    clear hno hbel hblk hB0
    by_cases hlt : k < 8
    · have ck : wr.cell? ⟨b, oo + 2 + k, none⟩ = some (.string (wk k)) := (HB1.out.cell (p := ⟨b, oo + 2 + k, none⟩) hbl).trans (HK.out k hlt)
      obtain ⟨u0, hu0⟩ := arrK_at (l := L) (k := k) (j := k) hL8 hk hlt
      have cH : wr.cell? ⟨w.heap.size + more y1, k, none⟩ = some (.int .i64 u0) := blk_cell HBK.out hu0
      have fH : wr.frozen? ⟨w.heap.size + more y1, k, none⟩ = false := blk_free HBK.out k
      have HN' := Lib.hid fun W hW => HN.out k hlt W hW
      have hv := HLk.out k hlt
      have HNO' := Lib.hid (HNO.out k hlt)
      obtain ⟨x, hwx⟩ : ∃ x, wk k = x := ⟨_, rfl⟩
      rw [hwx] at ck HN' hv HNO'
      generalize atoiV x.data.toList = v at *
      have HV := Lib.hid hv
      clear hv
      have HX' := Lib.hid (show atoiB x.data.toList = true → ∀ j, j < k + 1 → atoiB (wk j).data.toList = true from fun hb j hj => by
        rcases Nat.lt_succ_iff_lt_or_eq.1 hj with h | rfl
        · exact HX.out j h
        · rw [hwx]; exact hb)
      generalize atoiB x.data.toList = vb at *
      clear HNO HLk HN HK
      cases vb
      · go_wp2_with fail
        refine (HN'.out _ (gok_below HG.out HB1.out)).mono ?_
        rintro e w' ⟨rfl, hb⟩
        obtain ⟨z, rfl⟩ := ext_of hb
        clear hb
        go_wp2_with fail
        go_ret
        rw [HNO'.out trivial]
        exact ⟨rfl, bel_low (by omega) (bel HB1.out (ext_bel _ _)), _, HH.out.stay (bel HB1.out (ext_bel _ _))⟩
      · go_wp2_with fail
        refine (HN'.out _ (gok_below HG.out HB1.out)).mono ?_
        rintro e w' ⟨rfl, hb⟩
        obtain ⟨z, rfl⟩ := ext_of hb
        clear hb
        go_wp2_with fail
        refine ⟨⟨k + 1, by omega, by go_num, HX'.out trivial, ?_, ?_⟩, by simp [intOf]; omega⟩
        · exact (HB2.out.trans (bel_to (by omega) (ext_bel _ _))).trans (set_low _ _ _ _)
        · rw [← arrK_put hL8 hlt, ← HV.out]
          exact blk_set (blk_call (ext_bel _ _) HBK.out) k _
    · obtain rfl : k = 8 := by omega
      have hres := HYES.out (fun j hj => HX.out j hj)
      have HRE := Lib.hid (show res = if rcvB (rcvOf nm L) = true then (c.rs ++ [rcvOf nm L], 0) else (c.rs, 3) from hres)
      clear hres
      have c0' : ∀ j (hj : j < 8), wr.cell? ⟨w.heap.size + more y1, j, none⟩ = some (.int .i64 (L.getD j 0)) := fun j hj => blk_cell HBK.out (arrK_all hL8 hj)
      obtain ⟨x, hx⟩ : ∃ x, x = rcvOf nm L := ⟨_, rfl⟩
      have e0 := c0' 0 (by omega)
      have e1 := c0' 1 (by omega)
      have e2 := c0' 2 (by omega)
      have e3 := c0' 3 (by omega)
      have e4 := c0' 4 (by omega)
      have e5 := c0' 5 (by omega)
      have e6 := c0' 6 (by omega)
      have e7 := c0' 7 (by omega)
      have k1' : wr.cell? ⟨b, oo + 1, none⟩ = some (.string nm) := (HB1.out.cell (p := ⟨b, oo + 1, none⟩) hbl).trans k1
      have k0' : wr.cell? ⟨g, 0, none⟩ = some (.slice A c.rs.length cap) := (HB1.out.cell (p := ⟨g, 0, none⟩) hgl).trans k0
      have f0' : wr.frozen? ⟨g, 0, none⟩ = false := blk_free (HH.out.stay HB1.out).blk 0
      have HR := HH.out.stay HB1.out
      rw [← hx] at HI
      rw [← hx] at HRE
      unfold rcvOf at hx
      generalize L.getD 0 0 = n0 at *
      generalize L.getD 1 0 = n1 at *
      generalize L.getD 2 0 = n2 at *
      generalize L.getD 3 0 = n3 at *
      generalize L.getD 4 0 = n4 at *
      generalize L.getD 5 0 = n5 at *
      generalize L.getD 6 0 = n6 at *
      generalize L.getD 7 0 = n7 at *
      have hIV : rcvV x = .agg #[.string nm, .int .i64 n0, .int .i64 n1, .int .i64 n2, .int .i64 n3, .int .i64 n4, .int .i64 n5, .int .i64 n6, .int .i64 n7] := by rw [hx]; rfl
      rw [hIV] at HI
      have hgw : g < wr.heap.size := Nat.lt_of_lt_of_le hgl HB1.out.size
      have HXX := Lib.hid hx
      clear HNO HYES HLk HN HK hIV c0' hx k0 f0 k1 hL8
      generalize rcvB x = rb at HI HRE
      have HSX := Lib.hid fun W (hb : Below wr.heap.size wr W) => (show NumS b (oo + 1) (w.heap.size + more y1) nm n0 n1 n2 n3 n4 n5 n6 n7 wr from ⟨k1', e0, e1, e2, e3, e4, e5, e6, e7⟩).stay (Nat.lt_of_lt_of_le hbl HB1.out.size) hHl hb
      clear e0 e1 e2 e3 e4 e5 e6 e7 k1'
      cases rb
      · go_wp2_with fail
        refine start_ (n := 23) (S := NumS b (oo + 1) (w.heap.size + more y1) nm n0 n1 n2 n3 n4 n5 n6 n7) (ds := []) #[false, false, false, false, false, false, false, false, false, false, false, false, false, false, false, false, false, false, false, false, false, false, false] (by kernel_rfl) rfl rfl (HSX.out _ (Below.refl _ _).drew) (fun hHeld => ?_)
        refine pure_ (i := 0) (N := some 56) (v := ?_) (a' := ?_) #[true, false, false, false, false, false, false, false, false, false, false, false, false, false, false, false, false, false, false, false, false, false, false] rfl rfl (by kernel_rfl) (fun _ _ _ h => h) (Or.inl ⟨by rfl, ?_⟩) ?_ ?_
        rotate_left
        · intro w'
          go_simp
          with_reducible rfl
        rotate_left
        · simp only [Act.put, List.setIfInBounds_toArray, List.set_cons_zero, List.set_cons_succ, i64_w, i32_w]
          rfl
        refine pure_ (i := 1) (N := some 57) (v := ?_) (a' := ?_) #[true, true, false, false, false, false, false, false, false, false, false, false, false, false, false, false, false, false, false, false, false, false, false] rfl rfl (by kernel_rfl) (fun _ _ _ h => h) (Or.inl ⟨by rfl, ?_⟩) ?_ ?_
        rotate_left
        · intro w'
          go_simp
          with_reducible rfl
        rotate_left
        · simp only [Act.put, List.setIfInBounds_toArray, List.set_cons_zero, List.set_cons_succ, i64_w, i32_w]
          rfl
        refine pure_ (i := 3) (N := some 59) (v := ?_) (a' := ?_) #[true, true, false, true, false, false, false, false, false, false, false, false, false, false, false, false, false, false, false, false, false, false, false] rfl rfl (by kernel_rfl) (fun _ _ _ h => h) (Or.inl ⟨by rfl, ?_⟩) ?_ ?_
        rotate_left
        · intro w'
          go_simp
          with_reducible rfl
        rotate_left
        · simp only [Act.put, List.setIfInBounds_toArray, List.set_cons_zero, List.set_cons_succ, i64_w, i32_w]
          rfl
        refine pure_ (i := 5) (N := some 61) (v := ?_) (a' := ?_) #[true, true, false, true, false, true, false, false, false, false, false, false, false, false, false, false, false, false, false, false, false, false, false] rfl rfl (by kernel_rfl) (fun _ _ _ h => h) (Or.inl ⟨by rfl, ?_⟩) ?_ ?_
        rotate_left
        · intro w'
          go_simp
          with_reducible rfl
        rotate_left
        · simp only [Act.put, List.setIfInBounds_toArray, List.set_cons_zero, List.set_cons_succ, i64_w, i32_w]
          rfl
        refine pure_ (i := 7) (N := some 63) (v := ?_) (a' := ?_) #[true, true, false, true, false, true, false, true, false, false, false, false, false, false, false, false, false, false, false, false, false, false, false] rfl rfl (by kernel_rfl) (fun _ _ _ h => h) (Or.inl ⟨by rfl, ?_⟩) ?_ ?_
        rotate_left
        · intro w'
          go_simp
          with_reducible rfl
        rotate_left
        · simp only [Act.put, List.setIfInBounds_toArray, List.set_cons_zero, List.set_cons_succ, i64_w, i32_w]
          rfl
        refine pure_ (i := 10) (N := some 66) (v := ?_) (a' := ?_) #[true, true, false, true, false, true, false, true, false, false, true, false, false, false, false, false, false, false, false, false, false, false, false] rfl rfl (by kernel_rfl) (fun _ _ _ h => h) (Or.inl ⟨by rfl, ?_⟩) ?_ ?_
        rotate_left
        · intro w'
          go_simp
          with_reducible rfl
        rotate_left
        · simp only [Act.put, List.setIfInBounds_toArray, List.set_cons_zero, List.set_cons_succ, i64_w, i32_w]
          rfl
        refine pure_ (i := 12) (N := some 68) (v := ?_) (a' := ?_) #[true, true, false, true, false, true, false, true, false, false, true, false, true, false, false, false, false, false, false, false, false, false, false] rfl rfl (by kernel_rfl) (fun _ _ _ h => h) (Or.inl ⟨by rfl, ?_⟩) ?_ ?_
        rotate_left
        · intro w'
          go_simp
          with_reducible rfl
        rotate_left
        · simp only [Act.put, List.setIfInBounds_toArray, List.set_cons_zero, List.set_cons_succ, i64_w, i32_w]
          rfl
        refine pure_ (i := 14) (N := some 70) (v := ?_) (a' := ?_) #[true, true, false, true, false, true, false, true, false, false, true, false, true, false, true, false, false, false, false, false, false, false, false] rfl rfl (by kernel_rfl) (fun _ _ _ h => h) (Or.inl ⟨by rfl, ?_⟩) ?_ ?_
        rotate_left
        · intro w'
          go_simp
          with_reducible rfl
        rotate_left
        · simp only [Act.put, List.setIfInBounds_toArray, List.set_cons_zero, List.set_cons_succ, i64_w, i32_w]
          rfl
        refine pure_ (i := 16) (N := some 72) (v := ?_) (a' := ?_) #[true, true, false, true, false, true, false, true, false, false, true, false, true, false, true, false, true, false, false, false, false, false, false] rfl rfl (by kernel_rfl) (fun _ _ _ h => h) (Or.inl ⟨by rfl, ?_⟩) ?_ ?_
        rotate_left
        · intro w'
          go_simp
          with_reducible rfl
        rotate_left
        · simp only [Act.put, List.setIfInBounds_toArray, List.set_cons_zero, List.set_cons_succ, i64_w, i32_w]
          rfl
        refine pure_ (i := 18) (N := some 74) (v := ?_) (a' := ?_) #[true, true, false, true, false, true, false, true, false, false, true, false, true, false, true, false, true, false, true, false, false, false, false] rfl rfl (by kernel_rfl) (fun _ _ _ h => h) (Or.inl ⟨by rfl, ?_⟩) ?_ ?_
        rotate_left
        · intro w'
          go_simp
          with_reducible rfl
        rotate_left
        · simp only [Act.put, List.setIfInBounds_toArray, List.set_cons_zero, List.set_cons_succ, i64_w, i32_w]
          rfl
        refine take_ (i := 2) (N := some 58) (v := ?_) (a' := ?_) #[true, true, true, true, false, true, false, true, false, false, true, false, true, false, true, false, true, false, true, false, false, false, false] rfl rfl (by kernel_rfl) (fun _ _ _ h => h) (Or.inl ⟨by rfl, ?_⟩) hHeld ?_ ?_
        rotate_left
        · rintro w' ⟨e, e0, e1, e2, e3, e4, e5, e6, e7⟩
          go_simp
          with_reducible rfl
        rotate_left
        · simp only [Act.put, List.setIfInBounds_toArray, List.set_cons_zero, List.set_cons_succ, i64_w, i32_w]
          rfl
        refine take_ (i := 4) (N := some 60) (v := ?_) (a' := ?_) #[true, true, true, true, true, true, false, true, false, false, true, false, true, false, true, false, true, false, true, false, false, false, false] rfl rfl (by kernel_rfl) (fun _ _ _ h => h) (Or.inl ⟨by rfl, ?_⟩) hHeld ?_ ?_
        rotate_left
        · rintro w' ⟨e, e0, e1, e2, e3, e4, e5, e6, e7⟩
          go_simp
          with_reducible rfl
        rotate_left
        · simp only [Act.put, List.setIfInBounds_toArray, List.set_cons_zero, List.set_cons_succ, i64_w, i32_w]
          rfl
        refine take_ (i := 6) (N := some 62) (v := ?_) (a' := ?_) #[true, true, true, true, true, true, true, true, false, false, true, false, true, false, true, false, true, false, true, false, false, false, false] rfl rfl (by kernel_rfl) (fun _ _ _ h => h) (Or.inl ⟨by rfl, ?_⟩) hHeld ?_ ?_
        rotate_left
        · rintro w' ⟨e, e0, e1, e2, e3, e4, e5, e6, e7⟩
          go_simp
          with_reducible rfl
        rotate_left
        · simp only [Act.put, List.setIfInBounds_toArray, List.set_cons_zero, List.set_cons_succ, i64_w, i32_w]
          rfl
        refine take_ (i := 8) (N := some 64) (v := ?_) (a' := ?_) #[true, true, true, true, true, true, true, true, true, false, true, false, true, false, true, false, true, false, true, false, false, false, false] rfl rfl (by kernel_rfl) (fun _ _ _ h => h) (Or.inl ⟨by rfl, ?_⟩) hHeld ?_ ?_
        rotate_left
        · rintro w' ⟨e, e0, e1, e2, e3, e4, e5, e6, e7⟩
          go_simp
          with_reducible rfl
        rotate_left
        · simp only [Act.put, List.setIfInBounds_toArray, List.set_cons_zero, List.set_cons_succ, i64_w, i32_w]
          rfl
        refine take_ (i := 11) (N := some 67) (v := ?_) (a' := ?_) #[true, true, true, true, true, true, true, true, true, false, true, true, true, false, true, false, true, false, true, false, false, false, false] rfl rfl (by kernel_rfl) (fun _ _ _ h => h) (Or.inl ⟨by rfl, ?_⟩) hHeld ?_ ?_
        rotate_left
        · rintro w' ⟨e, e0, e1, e2, e3, e4, e5, e6, e7⟩
          go_simp
          with_reducible rfl
        rotate_left
        · simp only [Act.put, List.setIfInBounds_toArray, List.set_cons_zero, List.set_cons_succ, i64_w, i32_w]
          rfl
        refine take_ (i := 13) (N := some 69) (v := ?_) (a' := ?_) #[true, true, true, true, true, true, true, true, true, false, true, true, true, true, true, false, true, false, true, false, false, false, false] rfl rfl (by kernel_rfl) (fun _ _ _ h => h) (Or.inl ⟨by rfl, ?_⟩) hHeld ?_ ?_
        rotate_left
        · rintro w' ⟨e, e0, e1, e2, e3, e4, e5, e6, e7⟩
          go_simp
          with_reducible rfl
        rotate_left
        · simp only [Act.put, List.setIfInBounds_toArray, List.set_cons_zero, List.set_cons_succ, i64_w, i32_w]
          rfl
        refine take_ (i := 15) (N := some 71) (v := ?_) (a' := ?_) #[true, true, true, true, true, true, true, true, true, false, true, true, true, true, true, true, true, false, true, false, false, false, false] rfl rfl (by kernel_rfl) (fun _ _ _ h => h) (Or.inl ⟨by rfl, ?_⟩) hHeld ?_ ?_
        rotate_left
        · rintro w' ⟨e, e0, e1, e2, e3, e4, e5, e6, e7⟩
          go_simp
          with_reducible rfl
        rotate_left
        · simp only [Act.put, List.setIfInBounds_toArray, List.set_cons_zero, List.set_cons_succ, i64_w, i32_w]
          rfl
        refine take_ (i := 17) (N := some 73) (v := ?_) (a' := ?_) #[true, true, true, true, true, true, true, true, true, false, true, true, true, true, true, true, true, true, true, false, false, false, false] rfl rfl (by kernel_rfl) (fun _ _ _ h => h) (Or.inl ⟨by rfl, ?_⟩) hHeld ?_ ?_
        rotate_left
        · rintro w' ⟨e, e0, e1, e2, e3, e4, e5, e6, e7⟩
          go_simp
          with_reducible rfl
        rotate_left
        · simp only [Act.put, List.setIfInBounds_toArray, List.set_cons_zero, List.set_cons_succ, i64_w, i32_w]
          rfl
        refine take_ (i := 19) (N := some 75) (v := ?_) (a' := ?_) #[true, true, true, true, true, true, true, true, true, false, true, true, true, true, true, true, true, true, true, true, false, false, false] rfl rfl (by kernel_rfl) (fun _ _ _ h => h) (Or.inl ⟨by rfl, ?_⟩) hHeld ?_ ?_
        rotate_left
        · rintro w' ⟨e, e0, e1, e2, e3, e4, e5, e6, e7⟩
          go_simp
          with_reducible rfl
        rotate_left
        · simp only [Act.put, List.setIfInBounds_toArray, List.set_cons_zero, List.set_cons_succ, i64_w, i32_w]
          rfl
        refine pure_ (i := 9) (N := some 65) (v := ?_) (a' := ?_) #[true, true, true, true, true, true, true, true, true, true, true, true, true, true, true, true, true, true, true, true, false, false, false] rfl rfl (by kernel_rfl) (fun _ _ _ h => h) (Or.inl ⟨by rfl, ?_⟩) ?_ ?_
        rotate_left
        · intro w'
          go_simp
          with_reducible rfl
        rotate_left
        · simp only [Act.put, List.setIfInBounds_toArray, List.set_cons_zero, List.set_cons_succ, i64_w, i32_w]
          rfl
        refine pure_ (i := 20) (N := some 76) (v := ?_) (a' := ?_) #[true, true, true, true, true, true, true, true, true, true, true, true, true, true, true, true, true, true, true, true, true, false, false] rfl rfl (by kernel_rfl) (fun _ _ _ h => h) (Or.inl ⟨by rfl, ?_⟩) ?_ ?_
        rotate_left
        · intro w'
          go_simp
          with_reducible rfl
        rotate_left
        · simp only [Act.put, List.setIfInBounds_toArray, List.set_cons_zero, List.set_cons_succ, i64_w, i32_w]
          rfl
        refine one_ (i := 21) (N := some 9) #[true, true, true, true, true, true, true, true, true, true, true, true, true, true, true, true, true, true, true, true, true, true, false] rfl rfl (by kernel_rfl) (by decide) (fun K hK => ?_)
        refine value_ (w1 := ?_) (v := ?_) (by rfl) rfl ?_ ?_
        rotate_left 2
        · go_simp
          constructor
          · rfl
          · rfl
        refine hK.out _ _ (HSX.out _ (by repeat (first | exact Below.refl _ _ | apply bal | apply bext | apply bdr | apply bdrN | (refine bst ?_ _ (by simp only [ext_size, size_alloc, size_set]; omega))))) (fun hHeld => ?_)
        clear hK K
        refine norm_ (a' := ?_) ?_ ?_
        rotate_left
        · show Act.put _ (some 9) _ = _
          simp only [Act.put, List.setIfInBounds_toArray, List.set_cons_zero, List.set_cons_succ, i64_w, i32_w]
          rfl
        refine one_ (i := 22) (N := none) #[true, true, true, true, true, true, true, true, true, true, true, true, true, true, true, true, true, true, true, true, true, true, true] rfl rfl (by kernel_rfl) (by decide) (fun K hK => ?_)
        refine skip_ (w1 := ?_) (by rfl) rfl ?_ ?_
        rotate_left
        · go_simp
          rfl
        refine hK.out _ _ (HSX.out _ (by repeat (first | exact Below.refl _ _ | apply bal | apply bext | apply bdr | apply bdrN | (refine bst ?_ _ (by simp only [ext_size, size_alloc, size_set]; omega))))) (fun hHeld => ?_)
        clear hK K
        refine done_ (by kernel_rfl) ?_
        go_wp2_with fail
        refine (HI.out _).mono ?_
        rintro e w' ⟨rfl, hb⟩
        obtain ⟨z, rfl⟩ := ext_of hb
        clear hb
        go_wp2_with fail
        go_ret
        have HE := HRE.out
        rw [if_neg (by decide)] at HE
        rw [HE]
        exact ⟨rfl, bel_low (by omega) (bel HB1.out (by repeat (first | exact Below.refl _ _ | apply bal | apply bext | apply bdr | apply bdrN | (refine bst ?_ _ (by simp only [ext_size, size_alloc, size_set]; omega))))), _, HR.stay (by repeat (first | exact Below.refl _ _ | apply bal | apply bext | apply bdr | apply bdrN | (refine bst ?_ _ (by simp only [ext_size, size_alloc, size_set]; omega))))⟩
      · go_wp2_with fail
        refine start_ (n := 23) (S := NumS b (oo + 1) (w.heap.size + more y1) nm n0 n1 n2 n3 n4 n5 n6 n7) (ds := []) #[false, false, false, false, false, false, false, false, false, false, false, false, false, false, false, false, false, false, false, false, false, false, false] (by kernel_rfl) rfl rfl (HSX.out _ (Below.refl _ _).drew) (fun hHeld => ?_)
        refine pure_ (i := 0) (N := some 56) (v := ?_) (a' := ?_) #[true, false, false, false, false, false, false, false, false, false, false, false, false, false, false, false, false, false, false, false, false, false, false] rfl rfl (by kernel_rfl) (fun _ _ _ h => h) (Or.inl ⟨by rfl, ?_⟩) ?_ ?_
        rotate_left
        · intro w'
          go_simp
          with_reducible rfl
        rotate_left
        · simp only [Act.put, List.setIfInBounds_toArray, List.set_cons_zero, List.set_cons_succ, i64_w, i32_w]
          rfl
        refine pure_ (i := 1) (N := some 57) (v := ?_) (a' := ?_) #[true, true, false, false, false, false, false, false, false, false, false, false, false, false, false, false, false, false, false, false, false, false, false] rfl rfl (by kernel_rfl) (fun _ _ _ h => h) (Or.inl ⟨by rfl, ?_⟩) ?_ ?_
        rotate_left
        · intro w'
          go_simp
          with_reducible rfl
        rotate_left
        · simp only [Act.put, List.setIfInBounds_toArray, List.set_cons_zero, List.set_cons_succ, i64_w, i32_w]
          rfl
        refine pure_ (i := 3) (N := some 59) (v := ?_) (a' := ?_) #[true, true, false, true, false, false, false, false, false, false, false, false, false, false, false, false, false, false, false, false, false, false, false] rfl rfl (by kernel_rfl) (fun _ _ _ h => h) (Or.inl ⟨by rfl, ?_⟩) ?_ ?_
        rotate_left
        · intro w'
          go_simp
          with_reducible rfl
        rotate_left
        · simp only [Act.put, List.setIfInBounds_toArray, List.set_cons_zero, List.set_cons_succ, i64_w, i32_w]
          rfl
        refine pure_ (i := 5) (N := some 61) (v := ?_) (a' := ?_) #[true, true, false, true, false, true, false, false, false, false, false, false, false, false, false, false, false, false, false, false, false, false, false] rfl rfl (by kernel_rfl) (fun _ _ _ h => h) (Or.inl ⟨by rfl, ?_⟩) ?_ ?_
        rotate_left
        · intro w'
          go_simp
          with_reducible rfl
        rotate_left
        · simp only [Act.put, List.setIfInBounds_toArray, List.set_cons_zero, List.set_cons_succ, i64_w, i32_w]
          rfl
        refine pure_ (i := 7) (N := some 63) (v := ?_) (a' := ?_) #[true, true, false, true, false, true, false, true, false, false, false, false, false, false, false, false, false, false, false, false, false, false, false] rfl rfl (by kernel_rfl) (fun _ _ _ h => h) (Or.inl ⟨by rfl, ?_⟩) ?_ ?_
        rotate_left
        · intro w'
          go_simp
          with_reducible rfl
        rotate_left
        · simp only [Act.put, List.setIfInBounds_toArray, List.set_cons_zero, List.set_cons_succ, i64_w, i32_w]
          rfl
        refine pure_ (i := 10) (N := some 66) (v := ?_) (a' := ?_) #[true, true, false, true, false, true, false, true, false, false, true, false, false, false, false, false, false, false, false, false, false, false, false] rfl rfl (by kernel_rfl) (fun _ _ _ h => h) (Or.inl ⟨by rfl, ?_⟩) ?_ ?_
        rotate_left
        · intro w'
          go_simp
          with_reducible rfl
        rotate_left
        · simp only [Act.put, List.setIfInBounds_toArray, List.set_cons_zero, List.set_cons_succ, i64_w, i32_w]
          rfl
        refine pure_ (i := 12) (N := some 68) (v := ?_) (a' := ?_) #[true, true, false, true, false, true, false, true, false, false, true, false, true, false, false, false, false, false, false, false, false, false, false] rfl rfl (by kernel_rfl) (fun _ _ _ h => h) (Or.inl ⟨by rfl, ?_⟩) ?_ ?_
        rotate_left
        · intro w'
          go_simp
          with_reducible rfl
        rotate_left
        · simp only [Act.put, List.setIfInBounds_toArray, List.set_cons_zero, List.set_cons_succ, i64_w, i32_w]
          rfl
        refine pure_ (i := 14) (N := some 70) (v := ?_) (a' := ?_) #[true, true, false, true, false, true, false, true, false, false, true, false, true, false, true, false, false, false, false, false, false, false, false] rfl rfl (by kernel_rfl) (fun _ _ _ h => h) (Or.inl ⟨by rfl, ?_⟩) ?_ ?_
        rotate_left
        · intro w'
          go_simp
          with_reducible rfl
        rotate_left
        · simp only [Act.put, List.setIfInBounds_toArray, List.set_cons_zero, List.set_cons_succ, i64_w, i32_w]
          rfl
        refine pure_ (i := 16) (N := some 72) (v := ?_) (a' := ?_) #[true, true, false, true, false, true, false, true, false, false, true, false, true, false, true, false, true, false, false, false, false, false, false] rfl rfl (by kernel_rfl) (fun _ _ _ h => h) (Or.inl ⟨by rfl, ?_⟩) ?_ ?_
        rotate_left
        · intro w'
          go_simp
          with_reducible rfl
        rotate_left
        · simp only [Act.put, List.setIfInBounds_toArray, List.set_cons_zero, List.set_cons_succ, i64_w, i32_w]
          rfl
        refine pure_ (i := 18) (N := some 74) (v := ?_) (a' := ?_) #[true, true, false, true, false, true, false, true, false, false, true, false, true, false, true, false, true, false, true, false, false, false, false] rfl rfl (by kernel_rfl) (fun _ _ _ h => h) (Or.inl ⟨by rfl, ?_⟩) ?_ ?_
        rotate_left
        · intro w'
          go_simp
          with_reducible rfl
        rotate_left
        · simp only [Act.put, List.setIfInBounds_toArray, List.set_cons_zero, List.set_cons_succ, i64_w, i32_w]
          rfl
        refine take_ (i := 2) (N := some 58) (v := ?_) (a' := ?_) #[true, true, true, true, false, true, false, true, false, false, true, false, true, false, true, false, true, false, true, false, false, false, false] rfl rfl (by kernel_rfl) (fun _ _ _ h => h) (Or.inl ⟨by rfl, ?_⟩) hHeld ?_ ?_
        rotate_left
        · rintro w' ⟨e, e0, e1, e2, e3, e4, e5, e6, e7⟩
          go_simp
          with_reducible rfl
        rotate_left
        · simp only [Act.put, List.setIfInBounds_toArray, List.set_cons_zero, List.set_cons_succ, i64_w, i32_w]
          rfl
        refine take_ (i := 4) (N := some 60) (v := ?_) (a' := ?_) #[true, true, true, true, true, true, false, true, false, false, true, false, true, false, true, false, true, false, true, false, false, false, false] rfl rfl (by kernel_rfl) (fun _ _ _ h => h) (Or.inl ⟨by rfl, ?_⟩) hHeld ?_ ?_
        rotate_left
        · rintro w' ⟨e, e0, e1, e2, e3, e4, e5, e6, e7⟩
          go_simp
          with_reducible rfl
        rotate_left
        · simp only [Act.put, List.setIfInBounds_toArray, List.set_cons_zero, List.set_cons_succ, i64_w, i32_w]
          rfl
        refine take_ (i := 6) (N := some 62) (v := ?_) (a' := ?_) #[true, true, true, true, true, true, true, true, false, false, true, false, true, false, true, false, true, false, true, false, false, false, false] rfl rfl (by kernel_rfl) (fun _ _ _ h => h) (Or.inl ⟨by rfl, ?_⟩) hHeld ?_ ?_
        rotate_left
        · rintro w' ⟨e, e0, e1, e2, e3, e4, e5, e6, e7⟩
          go_simp
          with_reducible rfl
        rotate_left
        · simp only [Act.put, List.setIfInBounds_toArray, List.set_cons_zero, List.set_cons_succ, i64_w, i32_w]
          rfl
        refine take_ (i := 8) (N := some 64) (v := ?_) (a' := ?_) #[true, true, true, true, true, true, true, true, true, false, true, false, true, false, true, false, true, false, true, false, false, false, false] rfl rfl (by kernel_rfl) (fun _ _ _ h => h) (Or.inl ⟨by rfl, ?_⟩) hHeld ?_ ?_
        rotate_left
        · rintro w' ⟨e, e0, e1, e2, e3, e4, e5, e6, e7⟩
          go_simp
          with_reducible rfl
        rotate_left
        · simp only [Act.put, List.setIfInBounds_toArray, List.set_cons_zero, List.set_cons_succ, i64_w, i32_w]
          rfl
        refine take_ (i := 11) (N := some 67) (v := ?_) (a' := ?_) #[true, true, true, true, true, true, true, true, true, false, true, true, true, false, true, false, true, false, true, false, false, false, false] rfl rfl (by kernel_rfl) (fun _ _ _ h => h) (Or.inl ⟨by rfl, ?_⟩) hHeld ?_ ?_
        rotate_left
        · rintro w' ⟨e, e0, e1, e2, e3, e4, e5, e6, e7⟩
          go_simp
          with_reducible rfl
        rotate_left
        · simp only [Act.put, List.setIfInBounds_toArray, List.set_cons_zero, List.set_cons_succ, i64_w, i32_w]
          rfl
        refine take_ (i := 13) (N := some 69) (v := ?_) (a' := ?_) #[true, true, true, true, true, true, true, true, true, false, true, true, true, true, true, false, true, false, true, false, false, false, false] rfl rfl (by kernel_rfl) (fun _ _ _ h => h) (Or.inl ⟨by rfl, ?_⟩) hHeld ?_ ?_
        rotate_left
        · rintro w' ⟨e, e0, e1, e2, e3, e4, e5, e6, e7⟩
          go_simp
          with_reducible rfl
        rotate_left
        · simp only [Act.put, List.setIfInBounds_toArray, List.set_cons_zero, List.set_cons_succ, i64_w, i32_w]
          rfl
        refine take_ (i := 15) (N := some 71) (v := ?_) (a' := ?_) #[true, true, true, true, true, true, true, true, true, false, true, true, true, true, true, true, true, false, true, false, false, false, false] rfl rfl (by kernel_rfl) (fun _ _ _ h => h) (Or.inl ⟨by rfl, ?_⟩) hHeld ?_ ?_
        rotate_left
        · rintro w' ⟨e, e0, e1, e2, e3, e4, e5, e6, e7⟩
          go_simp
          with_reducible rfl
        rotate_left
        · simp only [Act.put, List.setIfInBounds_toArray, List.set_cons_zero, List.set_cons_succ, i64_w, i32_w]
          rfl
        refine take_ (i := 17) (N := some 73) (v := ?_) (a' := ?_) #[true, true, true, true, true, true, true, true, true, false, true, true, true, true, true, true, true, true, true, false, false, false, false] rfl rfl (by kernel_rfl) (fun _ _ _ h => h) (Or.inl ⟨by rfl, ?_⟩) hHeld ?_ ?_
        rotate_left
        · rintro w' ⟨e, e0, e1, e2, e3, e4, e5, e6, e7⟩
          go_simp
          with_reducible rfl
        rotate_left
        · simp only [Act.put, List.setIfInBounds_toArray, List.set_cons_zero, List.set_cons_succ, i64_w, i32_w]
          rfl
        refine take_ (i := 19) (N := some 75) (v := ?_) (a' := ?_) #[true, true, true, true, true, true, true, true, true, false, true, true, true, true, true, true, true, true, true, true, false, false, false] rfl rfl (by kernel_rfl) (fun _ _ _ h => h) (Or.inl ⟨by rfl, ?_⟩) hHeld ?_ ?_
        rotate_left
        · rintro w' ⟨e, e0, e1, e2, e3, e4, e5, e6, e7⟩
          go_simp
          with_reducible rfl
        rotate_left
        · simp only [Act.put, List.setIfInBounds_toArray, List.set_cons_zero, List.set_cons_succ, i64_w, i32_w]
          rfl
        refine pure_ (i := 9) (N := some 65) (v := ?_) (a' := ?_) #[true, true, true, true, true, true, true, true, true, true, true, true, true, true, true, true, true, true, true, true, false, false, false] rfl rfl (by kernel_rfl) (fun _ _ _ h => h) (Or.inl ⟨by rfl, ?_⟩) ?_ ?_
        rotate_left
        · intro w'
          go_simp
          with_reducible rfl
        rotate_left
        · simp only [Act.put, List.setIfInBounds_toArray, List.set_cons_zero, List.set_cons_succ, i64_w, i32_w]
          rfl
        refine pure_ (i := 20) (N := some 76) (v := ?_) (a' := ?_) #[true, true, true, true, true, true, true, true, true, true, true, true, true, true, true, true, true, true, true, true, true, false, false] rfl rfl (by kernel_rfl) (fun _ _ _ h => h) (Or.inl ⟨by rfl, ?_⟩) ?_ ?_
        rotate_left
        · intro w'
          go_simp
          with_reducible rfl
        rotate_left
        · simp only [Act.put, List.setIfInBounds_toArray, List.set_cons_zero, List.set_cons_succ, i64_w, i32_w]
          rfl
        refine one_ (i := 21) (N := some 9) #[true, true, true, true, true, true, true, true, true, true, true, true, true, true, true, true, true, true, true, true, true, true, false] rfl rfl (by kernel_rfl) (by decide) (fun K hK => ?_)
        refine value_ (w1 := ?_) (v := ?_) (by rfl) rfl ?_ ?_
        rotate_left 2
        · go_simp
          constructor
          · rfl
          · rfl
        refine hK.out _ _ (HSX.out _ (by repeat (first | exact Below.refl _ _ | apply bal | apply bext | apply bdr | apply bdrN | (refine bst ?_ _ (by simp only [ext_size, size_alloc, size_set]; omega))))) (fun hHeld => ?_)
        clear hK K
        refine norm_ (a' := ?_) ?_ ?_
        rotate_left
        · show Act.put _ (some 9) _ = _
          simp only [Act.put, List.setIfInBounds_toArray, List.set_cons_zero, List.set_cons_succ, i64_w, i32_w]
          rfl
        refine one_ (i := 22) (N := none) #[true, true, true, true, true, true, true, true, true, true, true, true, true, true, true, true, true, true, true, true, true, true, true] rfl rfl (by kernel_rfl) (by decide) (fun K hK => ?_)
        refine skip_ (w1 := ?_) (by rfl) rfl ?_ ?_
        rotate_left
        · go_simp
          rfl
        refine hK.out _ _ (HSX.out _ (by repeat (first | exact Below.refl _ _ | apply bal | apply bext | apply bdr | apply bdrN | (refine bst ?_ _ (by simp only [ext_size, size_alloc, size_set]; omega))))) (fun hHeld => ?_)
        clear hK K
        refine done_ (by kernel_rfl) ?_
        go_wp2_with fail
        refine (HI.out _).mono ?_
        rintro e w' ⟨rfl, hb⟩
        obtain ⟨z, rfl⟩ := ext_of hb
        clear hb
        go_wp2_with fail
        refine name_world (fun W5 hW5 => ?_)
        have HB5 := Lib.hid (show Below wr.heap.size wr W5 from by rw [hW5]; exact (by repeat (first | exact Below.refl _ _ | apply bal | apply bext | apply bdr | apply bdrN | (refine bst ?_ _ (by simp only [ext_size, size_alloc, size_set]; omega)))))
        have BK5 := Lib.hid (show W5.heap[wr.heap.size]? = some (.cells #[.string nm, .int .i64 n0, .int .i64 n1, .int .i64 n2, .int .i64 n3, .int .i64 n4, .int .i64 n5, .int .i64 n6, .int .i64 n7] 90 (0, 0)) from by rw [hW5]; exact blk_call (ext_bel _ _) (blk_new wr _))
        have R5 := HR.stay HB5.out
        clear hW5 HSX
        have hge : g ≤ W5.heap.size := Nat.le_of_lt R5.lt
        refine start_ (n := 13) (S := NewS g wr.heap.size (.slice A c.rs.length cap) nm n0 n1 n2 n3 n4 n5 n6 n7) (ds := [12]) #[false, false, false, false, false, false, false, false, false, false, false, false, false] (by kernel_rfl) rfl rfl (NewS.of (blk_call (Below.refl _ _).drew R5.blk) rfl (blk_call (Below.refl _ _).drew BK5.out)) (fun hHeld => ?_)
        refine pure_ (i := 0) (N := some 80) (v := ?_) (a' := ?_) #[true, false, false, false, false, false, false, false, false, false, false, false, false] rfl rfl (by kernel_rfl) (fun _ _ _ h => h) (Or.inl ⟨by rfl, ?_⟩) ?_ ?_
        rotate_left
        · intro w'
          go_simp
          with_reducible rfl
        rotate_left
        · simp only [Act.put, List.setIfInBounds_toArray, List.set_cons_zero, List.set_cons_succ, i64_w, i32_w]
          rfl
        refine pure_ (i := 1) (N := some 81) (v := ?_) (a' := ?_) #[true, true, false, false, false, false, false, false, false, false, false, false, false] rfl rfl (by kernel_rfl) (fun _ _ _ h => h) (Or.inl ⟨by rfl, ?_⟩) ?_ ?_
        rotate_left
        · intro w'
          go_simp
          with_reducible rfl
        rotate_left
        · simp only [Act.put, List.setIfInBounds_toArray, List.set_cons_zero, List.set_cons_succ, i64_w, i32_w]
          rfl
        refine pure_ (i := 2) (N := some 82) (v := ?_) (a' := ?_) #[true, true, true, false, false, false, false, false, false, false, false, false, false] rfl rfl (by kernel_rfl) (fun _ _ _ h => h) (Or.inl ⟨by rfl, ?_⟩) ?_ ?_
        rotate_left
        · intro w'
          go_simp
          with_reducible rfl
        rotate_left
        · simp only [Act.put, List.setIfInBounds_toArray, List.set_cons_zero, List.set_cons_succ, i64_w, i32_w]
          rfl
        refine pure_ (i := 3) (N := some 83) (v := ?_) (a' := ?_) #[true, true, true, true, false, false, false, false, false, false, false, false, false] rfl rfl (by kernel_rfl) (fun _ _ _ h => h) (Or.inl ⟨by rfl, ?_⟩) ?_ ?_
        rotate_left
        · intro w'
          go_simp
          with_reducible rfl
        rotate_left
        · simp only [Act.put, List.setIfInBounds_toArray, List.set_cons_zero, List.set_cons_succ, i64_w, i32_w]
          rfl
        refine pure_ (i := 4) (N := some 84) (v := ?_) (a' := ?_) #[true, true, true, true, true, false, false, false, false, false, false, false, false] rfl rfl (by kernel_rfl) (fun _ _ _ h => h) (Or.inl ⟨by rfl, ?_⟩) ?_ ?_
        rotate_left
        · intro w'
          go_simp
          with_reducible rfl
        rotate_left
        · simp only [Act.put, List.setIfInBounds_toArray, List.set_cons_zero, List.set_cons_succ, i64_w, i32_w]
          rfl
        refine take_ (i := 5) (N := some 85) (v := ?_) (a' := ?_) #[true, true, true, true, true, true, false, false, false, false, false, false, false] rfl rfl (by kernel_rfl) (fun _ _ _ h => h) (Or.inl ⟨by rfl, ?_⟩) hHeld ?_ ?_
        rotate_left
        · rintro w' ⟨e, e0, e1, e2, e3, e4, e5, e6, e7, e8⟩
          go_simp
          with_reducible rfl
        rotate_left
        · simp only [Act.put, List.setIfInBounds_toArray, List.set_cons_zero, List.set_cons_succ, i64_w, i32_w]
          rfl
        refine take_ (i := 6) (N := some 86) (v := ?_) (a' := ?_) #[true, true, true, true, true, true, true, false, false, false, false, false, false] rfl rfl (by kernel_rfl) (fun _ _ _ h => h) (Or.inl ⟨by rfl, ?_⟩) hHeld ?_ ?_
        rotate_left
        · rintro w' ⟨e, e0, e1, e2, e3, e4, e5, e6, e7, e8⟩
          go_simp
          with_reducible rfl
        rotate_left
        · simp only [Act.put, List.setIfInBounds_toArray, List.set_cons_zero, List.set_cons_succ, i64_w, i32_w]
          rfl
        have HBd := Lib.hid (show Below w.heap.size w W5.drew from (bel HB1.out HB5.out).drew)
        have BK5d := Lib.hid (blk_call (Below.refl _ _).drew BK5.out)
        have R5d := R5.stay (Below.refl _ _).drew
        have hrv := Kd.R_lt HR.rs
        generalize W5.drew = W6 at *
        refine one_ (i := 7) (N := some 87) #[true, true, true, true, true, true, true, true, false, false, false, false, false] rfl rfl (by kernel_rfl) (by decide) (fun K hK => ?_)
        refine value_ (w1 := ?_) (v := ?_) (by rfl) rfl ?_ ?_
        rotate_left 2
        · go_simp
          constructor
          · rfl
          · rfl
        refine hK.out _ _ (NewS.of (blk_alloc _ R5d.blk) rfl (blk_alloc _ BK5d.out)) (fun hHeld => ?_)
        clear hK K
        refine norm_ (a' := ?_) ?_ ?_
        rotate_left
        · show Act.put _ (some 87) _ = _
          simp only [Act.put, List.setIfInBounds_toArray, List.set_cons_zero, List.set_cons_succ, i64_w, i32_w]
          rfl
        refine one_ (i := 8) (N := some 88) #[true, true, true, true, true, true, true, true, true, false, false, false, false] rfl rfl (by kernel_rfl) (by decide) (fun K hK => ?_)
        refine Kd.R_append_step k90 (w0 := w) g (by rfl) (.tmp 85) (.tmp 87) 54 90 (.agg #[.string ⟨#[]⟩, .int .i64 0, .int .i64 0, .int .i64 0, .int .i64 0, .int .i64 0, .int .i64 0, .int .i64 0, .int .i64 0]) 80 rfl Tryz.underlying54 infoRcv rfl (by decide) (by omega) (.slice A c.rs.length cap) (c.rs.map ofRcv) (ofRcv x) [.string nm, .int .i64 n0, .int .i64 n1, .int .i64 n2, .int .i64 n3, .int .i64 n4, .int .i64 n5, .int .i64 n6, .int .i64 n7] (fun _ => True) (fun _ => False) rfl rfl ?aP (fun _ hk => hk.elim) (fun _ _ => trivial) R5d.rs (bel_low (by omega) HBd.out) (Nat.le_of_lt R5d.lt) ?aL ?_
        case aP => have hmk := k90_mkM W6 g (fun _ => False) (ofRcv x); rw [HXX.out] at hmk ⊢; exact hmk
        case aL => have := R5d.rl; rw [List.length_map]; omega
        intro v1 w6 ho hb6' hg6 hat
        obtain ⟨A1, c1, rfl⟩ := Kd.R_slice ho
        have hl1 : (c.rs.map ofRcv ++ [ofRcv x]).length = c.rs.length + 1 := by rw [List.length_append, List.length_map]; rfl
        rw [hl1] at ho hat ⊢
        clear hl1
        have hne : some g ≠ (Value.slice A c.rs.length cap).ownBlock := Kd.R_ne R5d.rs R5d.blk (by decide)
        have hne2 : some wr.heap.size ≠ (Value.slice A c.rs.length cap).ownBlock := fun he => Nat.lt_irrefl _ (hrv _ he.symm)
        have hb1 := blk_grown R5d.blk hg6 hne
        have hb2 := blk_grown BK5d.out hg6 hne2
        have hts := Kd.S_over' R5d.ts (Kd.R_typed R5d.rs) (by decide) hg6
        refine hK.out _ _ (NewS.of hb1 rfl hb2) (fun hHeld => ?_)
        clear hK K
        refine norm_ (a' := ?_) ?_ ?_
        rotate_left
        · show Act.put _ (some 88) _ = _
          simp only [Act.put, List.setIfInBounds_toArray, List.set_cons_zero, List.set_cons_succ, i64_w, i32_w]
          rfl
        have c6 : w6.cell? ⟨g, 0, none⟩ = some (.slice A c.rs.length cap) := blk_cell hb1 rfl
        have f6 : w6.frozen? ⟨g, 0, none⟩ = false := blk_free hb1 0
        refine pure_ (i := 9) (N := some 89) (v := ?_) (a' := ?_) #[true, true, true, true, true, true, true, true, true, true, false, false, false] rfl rfl (by kernel_rfl) (fun _ _ _ h => h) (Or.inl ⟨by rfl, ?_⟩) ?_ ?_
        rotate_left
        · intro w'
          go_simp
          with_reducible rfl
        rotate_left
        · simp only [Act.put, List.setIfInBounds_toArray, List.set_cons_zero, List.set_cons_succ, i64_w, i32_w]
          rfl
        refine pure_ (i := 10) (N := some 90) (v := ?_) (a' := ?_) #[true, true, true, true, true, true, true, true, true, true, true, false, false] rfl rfl (by kernel_rfl) (fun _ _ _ h => h) (Or.inl ⟨by rfl, ?_⟩) ?_ ?_
        rotate_left
        · intro w'
          go_simp
          with_reducible rfl
        rotate_left
        · simp only [Act.put, List.setIfInBounds_toArray, List.set_cons_zero, List.set_cons_succ, i64_w, i32_w]
          rfl
        refine pure_ (i := 11) (N := some 91) (v := ?_) (a' := ?_) #[true, true, true, true, true, true, true, true, true, true, true, true, false] rfl rfl (by kernel_rfl) (fun _ _ _ h => h) (Or.inl ⟨by rfl, ?_⟩) ?_ ?_
        rotate_left
        · intro w'
          go_simp
          with_reducible rfl
        rotate_left
        · simp only [Act.put, List.setIfInBounds_toArray, List.set_cons_zero, List.set_cons_succ, i64_w, i32_w]
          rfl
        refine last_ (i := 12) (N := none) #[true, true, true, true, true, true, true, true, true, true, true, true, true] rfl rfl (by kernel_rfl) (by decide) (fun K hK => ?_)
        refine skip_ (w1 := ?_) (by rfl) rfl ?_ ?_
        rotate_left
        · go_simp
          rfl
        refine hK.out _ _ ?_
        clear hK K
        refine done_ (by kernel_rfl) ?_
        go_wp2_with fail
        go_ret
        have HE := HRE.out
        rw [if_pos trivial] at HE
        rw [HE]
        refine ⟨rfl, hb6'.trans (set_low _ _ _ _), .slice A1 (c.rs.length + 1) c1, ?_, ?_, ?_, ?_, R5d.tl⟩
        · exact blk_set hb1 0 _
        · show Kd.R _ _ _ _ _ _ ((c.rs ++ [x]).map ofRcv)
          rw [List.map_append]
          exact Kd.R_set ho hb1 (by decide) 0 _
        · exact Kd.S_set hts hb1 (by decide) 0 _
        · have h5 := R5d.rl
          show (c.rs ++ [x]).length ≤ 4
          rw [List.length_append, List.length_singleton]
          omega
end Go.Proofs.YtjfknmlchdifjaaGreatDoor
