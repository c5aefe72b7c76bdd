/- The statement 'BoundTells': for every input the law returns true, and each argument reads behind the call as it read before; the library's tables are tied to the program's text. No condition. -/
import Derived.WideShapes
import Derived.HandedShaped
import Derived.SizedLaws
import Derived.LaidMore
import Derived.Test.YtejdpjmfnpbadaaGreatDoorRows
import Derived.Test.YtejdpjmfnpbadaaGreatDoorCards
import Derived.Test.YtejdpjmfnpbadaaGreatDoorTie
import Derived.WalkKit
import Derived.ProofKit
import Derived.OpenShut
import Derived.ShutString
import Derived.Below
import Derived.Carry
import Derived.Stop.Joined
import Derived.Stop.LaidErr
import Derived.SevenTiedAt
import Derived.Lib.LaidTab
import Derived.Lay
import Derived.LaidOnce
import Derived.Shelf.Vars
import Derived.Test.YtejdpjmfnpbadaaGreatDoorWbt1
set_option linter.unusedVariables false
set_option linter.unusedSimpArgs false
namespace Go.Proofs.YtejdpjmfnpbadaaGreatDoorQ.P
open Go.RowKit Go.Proofs.YtejdpjmfnpbadaaGreatDoorW.PrintWords Go.Proofs.YtejdpjmfnpbadaaGreatDoorW.PrintLast Go.Proofs.YtejdpjmfnpbadaaGreatDoorW.PrintMore
attribute [local go_sem] max2_int min2_int max_two min_two max_three min_three max_four min_four
mutual
def foghornlaw24_BoundTells.j0 : Nat → Int → Int → Int → Int → Int → Int → Int → Int → Int → Int → Bool → List (S41) → List (S46) → Int → Int → Option (Bool)
 | 0, _, _, _, _, _, _, _, _, _, _, _, _, _, _, _ => none
 | k + 1, x1, x2, x3, x4, x13, x14, x15, x16, x17, x18, x92, x201000, x201001, x201002, x201003 => if x92 = true then (some false) else (if x1 < 1 then (if x14 = 3 then (if x13 = 0 then (foghornlaw24_BoundTells.j1 k x2 x3 x4 x15 x16 x17 x18 x201000 x201001 x201002 x201003) else (some false)) else (some false)) else (if x14 = 0 then ((foghornref24_Alone.f k x201000 x201001 x201002 x201003 x1).bind fun t221 => (if x13 = t221 then (foghornlaw24_BoundTells.j1 k x2 x3 x4 x15 x16 x17 x18 x201000 x201001 x201002 x201003) else (some false))) else (some false)))
def foghornlaw24_BoundTells.j1 : Nat → Int → Int → Int → Int → Int → Int → Int → List (S41) → List (S46) → Int → Int → Option (Bool)
 | 0, _, _, _, _, _, _, _, _, _, _, _ => none
 | k + 1, x2, x3, x4, x15, x16, x17, x18, x201000, x201001, x201002, x201003 => if x2 < 0 then (foghornlaw24_BoundTells.j2 k x2 x3 x4 x15 x16 x17 x18 true x201000 x201001 x201002 x201003) else (if x2 ≥ (x201000.length : Int) then (foghornlaw24_BoundTells.j2 k x2 x3 x4 x15 x16 x17 x18 true x201000 x201001 x201002 x201003) else (foghornlaw24_BoundTells.j2 k x2 x3 x4 x15 x16 x17 x18 (decide (x3 < 1)) x201000 x201001 x201002 x201003))
def foghornlaw24_BoundTells.j2 : Nat → Int → Int → Int → Int → Int → Int → Int → Bool → List (S41) → List (S46) → Int → Int → Option (Bool)
 | 0, _, _, _, _, _, _, _, _, _, _, _, _ => none
 | k + 1, x2, x3, x4, x15, x16, x17, x18, x122, x201000, x201001, x201002, x201003 => if x122 = true then (if x16 = 3 then (foghornlaw24_BoundTells.j3 k x4 x17 x18 (x15 != 0) x201000 x201001 x201002 x201003) else (foghornlaw24_BoundTells.j3 k x4 x17 x18 true x201000 x201001 x201002 x201003)) else (if x16 = 0 then ((foghornref24_Many.f x201000 x201001 x201002 x201003 x2 x3).bind fun t223 => (foghornlaw24_BoundTells.j4 k x4 x17 x18 (x15 != t223) x201000 x201001 x201002 x201003)) else (foghornlaw24_BoundTells.j4 k x4 x17 x18 true x201000 x201001 x201002 x201003))
def foghornlaw24_BoundTells.j3 : Nat → Int → Int → Int → Bool → List (S41) → List (S46) → Int → Int → Option (Bool)
 | 0, _, _, _, _, _, _, _, _ => none
 | k + 1, x4, x17, x18, x128, x201000, x201001, x201002, x201003 => if x128 = true then (some false) else (if x4 < 0 then (if x18 = 3 then (some (x17 == 0)) else (some false)) else (if x18 = 0 then ((foghornref24_Life.f x201000 x201001 x201002 x201003 x4).bind fun t222 => (some (x17 == t222))) else (some false)))
def foghornlaw24_BoundTells.j4 : Nat → Int → Int → Int → Bool → List (S41) → List (S46) → Int → Int → Option (Bool)
 | 0, _, _, _, _, _, _, _, _ => none
 | k + 1, x4, x17, x18, x138, x201000, x201001, x201002, x201003 => if x138 = true then (some false) else (if x4 < 0 then (if x18 = 3 then (some (x17 == 0)) else (some false)) else (if x18 = 0 then ((foghornref24_Life.f x201000 x201001 x201002 x201003 x4).bind fun t224 => (some (x17 == t224))) else (some false)))
end
def foghornlaw24_BoundTells.f (k : Nat) (l0_0 : List (S41)) (l0_1 : List (S46)) (a0_2 : Int) (a0_3 : Int) (a1 : Int) (a2 : Int) (a3 : Int) (a4 : Int) : Option (Bool) := (foghornlaw24_few.f l0_0 l0_1 a0_2 a0_3).bind fun bt201 => ((bound_Step.f bt201.1 bt201.2.1 bt201.2.2.1 bt201.2.2.2).bind fun bt209 => ((bound_Alone.f bt201.1 bt201.2.1 bt201.2.2.1 bt201.2.2.2 a1).bind fun bt211 => ((bound_Many.f bt201.1 bt201.2.1 bt201.2.2.1 bt201.2.2.2 a2 a3).bind fun bt213 => ((bound_Life.f bt201.1 bt201.2.1 bt201.2.2.1 bt201.2.2.2 a4).bind fun bt215 => ((foghornref13_Right.f k bt201.1 bt201.2.1 bt201.2.2.1 bt201.2.2.2).bind fun t217 => (if t217 = true then (if bt209.2 = 0 then ((foghornref24_Step.f k bt201.1 bt201.2.1 bt201.2.2.1 bt201.2.2.2).bind fun t219 => (if bt209.1 = t219 then ((foghornlaw24_alive.f).bind fun t220 => (foghornlaw24_BoundTells.j0 k a1 a2 a3 a4 bt211.1 bt211.2 bt213.1 bt213.2 bt215.1 bt215.2 (!t220) bt201.1 bt201.2.1 bt201.2.2.1 bt201.2.2.2)) else (foghornlaw24_BoundTells.j0 k a1 a2 a3 a4 bt211.1 bt211.2 bt213.1 bt213.2 bt215.1 bt215.2 true bt201.1 bt201.2.1 bt201.2.2.1 bt201.2.2.2))) else (foghornlaw24_BoundTells.j0 k a1 a2 a3 a4 bt211.1 bt211.2 bt213.1 bt213.2 bt215.1 bt215.2 true bt201.1 bt201.2.1 bt201.2.2.1 bt201.2.2.2)) else ((foghornlaw24_alive.f).bind fun t218 => (if t218 = true then (if bt209.2 = 1 then (if bt211.2 = 1 then (if bt213.2 = 1 then (if bt215.2 = 1 then (if bt209.1 = 0 then (if bt211.1 = 0 then (if bt213.1 = 0 then (some (bt215.1 == 0)) else (some false)) else (some false)) else (some false)) else (some false)) else (some false)) else (some false)) else (some false)) else (some false)))))))))
set_option maxHeartbeats 8000000 in
set_option maxRecDepth 100000 in
theorem foghornlaw24_BoundTells.calls (k : Nat) (A0_0 : Option Addr) (c0_0 : Nat) (l0_0 : List (S41)) (A0_1 : Option Addr) (c0_1 : Nat) (l0_1 : List (S46)) (a0_2 : Int) (a0_3 : Int) (a1 : Int) (a2 : Int) (a3 : Int) (a4 : Int) (r : Bool) (w : World) (hG : GOK w) (hr0_0 : Kd.C k41 w A0_0 l0_0.length l0_0) (hc0_0 : l0_0.length ≤ c0_0) (hr0_1 : Kd.C k46 w A0_1 l0_1.length l0_1) (hc0_1 : l0_1.length ≤ c0_1) (h : foghornlaw24_BoundTells.f k l0_0 l0_1 a0_2 a0_3 a1 a2 a3 a4 = some r) (hrt_ : r = true := by rfl) :
  Calls Tryz.prog 3 #[.agg #[.slice A0_0 l0_0.length c0_0, .slice A0_1 l0_1.length c0_1, .int .i64 a0_2, .int .i64 a0_3], .int .i64 a1, .int .i64 a2, .int .i64 a3, .int .i64 a4] w fun e w' => e = .returned (.bool r) ∧ Below w.heap.size w w' := by
 have hu25 := Tryz.underlying25
 have HR0_0 := aA hr0_0
 have HC0_0 := aA hc0_0
 clear hr0_0 hc0_0
 have HR0_1 := aA hr0_1
 have HC0_1 := aA hc0_1
 clear hr0_1 hc0_1
 have HG := aA hG
 clear hG
 have HB := aA (Below.refl w.heap.size w)
 have H : ((foghornlaw24_few.f l0_0 l0_1 a0_2 a0_3).bind fun bt201 => ((bound_Step.f bt201.1 bt201.2.1 bt201.2.2.1 bt201.2.2.2).bind fun bt209 => ((bound_Alone.f bt201.1 bt201.2.1 bt201.2.2.1 bt201.2.2.2 a1).bind fun bt211 => ((bound_Many.f bt201.1 bt201.2.1 bt201.2.2.1 bt201.2.2.2 a2 a3).bind fun bt213 => ((bound_Life.f bt201.1 bt201.2.1 bt201.2.2.1 bt201.2.2.2 a4).bind fun bt215 => ((foghornref13_Right.f k bt201.1 bt201.2.1 bt201.2.2.1 bt201.2.2.2).bind fun t217 => (if t217 = true then (if bt209.2 = 0 then ((foghornref24_Step.f k bt201.1 bt201.2.1 bt201.2.2.1 bt201.2.2.2).bind fun t219 => (if bt209.1 = t219 then ((foghornlaw24_alive.f).bind fun t220 => (foghornlaw24_BoundTells.j0 k a1 a2 a3 a4 bt211.1 bt211.2 bt213.1 bt213.2 bt215.1 bt215.2 (!t220) bt201.1 bt201.2.1 bt201.2.2.1 bt201.2.2.2)) else (foghornlaw24_BoundTells.j0 k a1 a2 a3 a4 bt211.1 bt211.2 bt213.1 bt213.2 bt215.1 bt215.2 true bt201.1 bt201.2.1 bt201.2.2.1 bt201.2.2.2))) else (foghornlaw24_BoundTells.j0 k a1 a2 a3 a4 bt211.1 bt211.2 bt213.1 bt213.2 bt215.1 bt215.2 true bt201.1 bt201.2.1 bt201.2.2.1 bt201.2.2.2)) else ((foghornlaw24_alive.f).bind fun t218 => (if t218 = true then (if bt209.2 = 1 then (if bt211.2 = 1 then (if bt213.2 = 1 then (if bt215.2 = 1 then (if bt209.1 = 0 then (if bt211.1 = 0 then (if bt213.1 = 0 then (some (bt215.1 == 0)) else (some false)) else (some false)) else (some false)) else (some false)) else (some false)) else (some false)) else (some false)) else (some false)))))))))) = some r := h
 clear h
 replace H := Option.bind_eq_some_iff.mp H
 obtain ⟨⟨t201, t204, t207, t208⟩, A60, H⟩ := H
 have A6 := aA A60
 clear A60
 replace H := Option.bind_eq_some_iff.mp H
 obtain ⟨⟨t209, t210⟩, A70, H⟩ := H
 have A7 := aA A70
 clear A70
 replace H := Option.bind_eq_some_iff.mp H
 obtain ⟨⟨t211, t212⟩, A80, H⟩ := H
 have A8 := aA A80
 clear A80
 replace H := Option.bind_eq_some_iff.mp H
 obtain ⟨⟨t213, t214⟩, A90, H⟩ := H
 have A9 := aA A90
 clear A90
 replace H := Option.bind_eq_some_iff.mp H
 obtain ⟨⟨t215, t216⟩, A100, H⟩ := H
 have A10 := aA A100
 clear A100
 replace H := Option.bind_eq_some_iff.mp H
 obtain ⟨t217, A110, H⟩ := H
 have A11 := aA A110
 clear A110
 by_cases c12 : t217 = true
 ·subst c12
  have H1 : (if t210 = 0 then ((foghornref24_Step.f k t201 t204 t207 t208).bind fun t219 => (if t209 = t219 then ((foghornlaw24_alive.f).bind fun t220 => (foghornlaw24_BoundTells.j0 k a1 a2 a3 a4 t211 t212 t213 t214 t215 t216 (!t220) t201 t204 t207 t208)) else (foghornlaw24_BoundTells.j0 k a1 a2 a3 a4 t211 t212 t213 t214 t215 t216 true t201 t204 t207 t208))) else (foghornlaw24_BoundTells.j0 k a1 a2 a3 a4 t211 t212 t213 t214 t215 t216 true t201 t204 t207 t208)) = some r := by rw [if_pos rfl] at H; exact H
  clear H
  have H := H1
  clear H1
  have HC13 := aA H
  clear H
  go_enter Tryz.func3, Tryz.ntmps3
  go_upto_region 8 with (first | ((with_reducible refine gate_dst (N := 5) rfl ?_); (try (refine gate_guard (by rfl) ?_; dsimp only)); refine box_event ?hg (N := 5) ?hd (cs := #[.slice A0_0 l0_0.length c0_0, .slice A0_1 l0_1.length c0_1, .int .i64 a0_2, .int .i64 a0_3]) (t := 25) ?hr ?_; (case hd => rfl); (case hg => rfl); (case hr => first | (go_simp; done) | (go_simp; rfl)); intro gb200 hg w14 hbox hb; have n0_ := aA (below_step mB hb); have n1_ := aA (hbox); have n2_ := aA ((bZ hg mB)); have n3_ := aA ((bZ hg mB)); clear HB; have HB := n0_; have BK200 := n1_; have GW200 := n2_; have GE200 := n3_; clear n0_ n1_ n2_ n3_ hb hbox hg; obtain ⟨hcz15_0, hcz15_1, hcz15_2, hcz15_3⟩ := bC4 BK200.out; obtain ⟨hfz15_0, hfz15_1, hfz15_2, hfz15_3⟩ := bF4 BK200.out) | ((with_reducible refine gate_callee (f := 6) rfl ?_); refine goesL_ (some 20) rfl rfl Tryz.func6 (by kernel_rfl) rfl #[.agg #[.slice A0_0 l0_0.length c0_0, .slice A0_1 l0_1.length c0_1, .int .i64 a0_2, .int .i64 a0_3]] rfl mS ?_; (with_reducible refine (foghornlaw24_few.calls (fun k_ => k_ < w.heap.size) _ _ l0_0 (fun k_ => k_ < w.heap.size) _ _ l0_1 a0_2 a0_3 t201 t204 t207 t208 _ ?side1 ?side2 A6.out).mono ?_); (case side1 => exact Kd.V_mk HC0_0.out (Kd.F_below (Kd.C_F k41_heap HR0_0.out) (mD1 GE200.out))); (case side2 => exact Kd.V_mk HC0_1.out (Kd.F_below (Kd.C_F k46_heap HR0_1.out) (mD1 GE200.out))); rintro e w16 ⟨v202, v205, rfl, ho0, ho1, hb⟩; refine ⟨_, rfl, ?_⟩; have n0_ := aA (Kd.V_lower (Kd.V_mono (ok' := fun k_ => k_ ≠ gb200) ho0 (fun k_ hk_ => Or.elim hk_ (fun hs_ => Or.elim hs_ (fun hs_ => fun e_ => Nat.not_le.2 hs_ (by rw [e_]; exact GW200.out)) (fun hs_ => fun e_ => Nat.not_le.2 hs_ (by rw [e_]; exact GW200.out))) (fun hn_ => (Kd.freshB (g := gb200) (o := .cells #[.slice A0_0 l0_0.length c0_0, .slice A0_1 l0_1.length c0_1, .int .i64 a0_2, .int .i64 a0_3] 25 (0, 0)) (mK BK200.out) k_ hn_)))) (below_size (mD1 GE200.out))); have n1_ := aA (Kd.V_lower (Kd.V_mono (ok' := fun k_ => k_ ≠ gb200) ho1 (fun k_ hk_ => Or.elim hk_ (fun hs_ => Or.elim hs_ (fun hs_ => fun e_ => Nat.not_le.2 hs_ (by rw [e_]; exact GW200.out)) (fun hs_ => fun e_ => Nat.not_le.2 hs_ (by rw [e_]; exact GW200.out))) (fun hn_ => (Kd.freshB (g := gb200) (o := .cells #[.slice A0_0 l0_0.length c0_0, .slice A0_1 l0_1.length c0_1, .int .i64 a0_2, .int .i64 a0_3] 25 (0, 0)) (mK BK200.out) k_ hn_)))) (below_size (mD1 GE200.out))); have n2_ := aA (bB BK200.out hb); have n3_ := aA (below_step (mD1 GE200.out) hb); clear BK200 HB; have HO203 := n0_; have HO206 := n1_; have BK200 := n2_; have HB := n3_; clear n0_ n1_ n2_ n3_; (try clear hb); (try clear hb2); (try clear hk); (try clear hi); (try clear ho0); (try clear ho1); obtain ⟨Ao17, co17, eo17⟩ := Kd.V_slice HO203.out; subst eo17; obtain ⟨hcz18_0, hcz18_1, hcz18_2, hcz18_3⟩ := bC4 BK200.out; obtain ⟨hfz18_0, hfz18_1, hfz18_2, hfz18_3⟩ := bF4 BK200.out; obtain ⟨Ao19, co19, eo19⟩ := Kd.V_slice HO206.out; subst eo19) | ((with_reducible refine gate_callee (f := 7) rfl ?_); refine goesL_ (some 23) rfl rfl Tryz.func7 (by kernel_rfl) rfl #[.agg #[.slice Ao17 t201.length co17, .slice Ao19 t204.length co19, .int .i64 t207, .int .i64 t208]] rfl mS ?_; (with_reducible refine (bound_Step.calls _ _ t201 _ _ t204 t207 t208 t209 t210 _ ?side1 ?side2 ?side3 ?side4 A7.out).mono ?_); (case side1 => refine (Kd.V_reads' (e := 41) (base := w.heap.size) (ok := fun k_ => k_ ≠ gb200) (n := t201.length) (c := co17) ?_).2.2; exact (by (with_reducible repeat (first | apply Kd.V_alloc | apply Kd.V_drewN | apply Kd.V_drew)); exact (Kd.V_mono (Kd.V_far (p := ⟨gb200, 3, none⟩) (Kd.V_far (p := ⟨gb200, 2, none⟩) (Kd.V_far (p := ⟨gb200, 1, none⟩) (Kd.V_far (p := ⟨gb200, 0, none⟩) (Kd.V_mono HO203.out (fun k_ hk => (⟨hk, hk⟩ : _ ∧ k_ ≠ gb200))) (fun _ hk => hk.2) (.slice Ao17 t201.length co17)) (fun _ hk => hk.2) (.slice Ao19 t204.length co19)) (fun _ hk => hk.2) (.int .i64 t207)) (fun _ hk => hk.2) (.int .i64 t208)) (fun _ h_ => h_.1)))); (case side2 => exact (Kd.V_reads' HO203.out).2.1); (case side3 => refine (Kd.V_reads' (e := 46) (base := w.heap.size) (ok := fun k_ => k_ ≠ gb200) (n := t204.length) (c := co19) ?_).2.2; exact (by (with_reducible repeat (first | apply Kd.V_alloc | apply Kd.V_drewN | apply Kd.V_drew)); exact (Kd.V_mono (Kd.V_far (p := ⟨gb200, 3, none⟩) (Kd.V_far (p := ⟨gb200, 2, none⟩) (Kd.V_far (p := ⟨gb200, 1, none⟩) (Kd.V_far (p := ⟨gb200, 0, none⟩) (Kd.V_mono HO206.out (fun k_ hk => (⟨hk, hk⟩ : _ ∧ k_ ≠ gb200))) (fun _ hk => hk.2) (.slice Ao17 t201.length co17)) (fun _ hk => hk.2) (.slice Ao19 t204.length co19)) (fun _ hk => hk.2) (.int .i64 t207)) (fun _ hk => hk.2) (.int .i64 t208)) (fun _ h_ => h_.1)))); (case side4 => exact (Kd.V_reads' HO206.out).2.1); rintro e w20 ⟨rfl, hb⟩; refine ⟨_, rfl, ?_⟩; have n0_ := aA (Kd.V_below (by (with_reducible repeat (first | apply Kd.V_alloc | apply Kd.V_drewN | apply Kd.V_drew)); exact (Kd.V_mono (Kd.V_far (p := ⟨gb200, 3, none⟩) (Kd.V_far (p := ⟨gb200, 2, none⟩) (Kd.V_far (p := ⟨gb200, 1, none⟩) (Kd.V_far (p := ⟨gb200, 0, none⟩) (Kd.V_mono HO203.out (fun k_ hk => (⟨hk, hk⟩ : _ ∧ k_ ≠ gb200))) (fun _ hk => hk.2) (.slice Ao17 t201.length co17)) (fun _ hk => hk.2) (.slice Ao19 t204.length co19)) (fun _ hk => hk.2) (.int .i64 t207)) (fun _ hk => hk.2) (.int .i64 t208)) (fun _ h_ => h_.1))) hb); have n1_ := aA (Kd.V_below (by (with_reducible repeat (first | apply Kd.V_alloc | apply Kd.V_drewN | apply Kd.V_drew)); exact (Kd.V_mono (Kd.V_far (p := ⟨gb200, 3, none⟩) (Kd.V_far (p := ⟨gb200, 2, none⟩) (Kd.V_far (p := ⟨gb200, 1, none⟩) (Kd.V_far (p := ⟨gb200, 0, none⟩) (Kd.V_mono HO206.out (fun k_ hk => (⟨hk, hk⟩ : _ ∧ k_ ≠ gb200))) (fun _ hk => hk.2) (.slice Ao17 t201.length co17)) (fun _ hk => hk.2) (.slice Ao19 t204.length co19)) (fun _ hk => hk.2) (.int .i64 t207)) (fun _ hk => hk.2) (.int .i64 t208)) (fun _ h_ => h_.1))) hb); have n2_ := aA (blk_below (g := gb200) (o := .cells #[.slice Ao17 t201.length co17, .slice Ao19 t204.length co19, .int .i64 t207, .int .i64 t208] 25 (0, 0)) (by (with_reducible repeat (first | refine blk_drewN ?_ _ | refine blk_drew ?_ | refine blk_alloc ?_ _)); have h_ := BK200.out; exact pK 3 (pK 2 (pK 1 (pK 0 (h_))))) hb); have n3_ := aA (below_step (mD1 GE200.out) hb); clear HO203 HO206 BK200 HB; have HO203 := n0_; have HO206 := n1_; have BK200 := n2_; have HB := n3_; clear n0_ n1_ n2_ n3_; (try clear hb); (try clear hb2); (try clear hk); (try clear hi); obtain ⟨hcz21_0, hcz21_1, hcz21_2, hcz21_3⟩ := bC4 BK200.out; obtain ⟨hfz21_0, hfz21_1, hfz21_2, hfz21_3⟩ := bF4 BK200.out) | ((with_reducible refine gate_callee (f := 8) rfl ?_); refine goesL_ (some 29) rfl rfl Tryz.func8 (by kernel_rfl) rfl #[.agg #[.slice Ao17 t201.length co17, .slice Ao19 t204.length co19, .int .i64 t207, .int .i64 t208], .int .i64 a1] rfl mS ?_; (with_reducible refine (bound_Alone.calls _ _ t201 _ _ t204 t207 t208 a1 t211 t212 _ ?side1 ?side2 ?side3 ?side4 A8.out).mono ?_); (case side1 => exact mC ((Kd.V_reads' HO203.out).2.2)); (case side2 => exact (Kd.V_reads' HO203.out).2.1); (case side3 => exact mC ((Kd.V_reads' HO206.out).2.2)); (case side4 => exact (Kd.V_reads' HO206.out).2.1); rintro e w22 ⟨rfl, hb⟩; refine ⟨_, rfl, ?_⟩; have n0_ := aA (Kd.V_below (by (with_reducible repeat (first | apply Kd.V_alloc | apply Kd.V_drewN | apply Kd.V_drew)); exact HO203.out) hb); have n1_ := aA (Kd.V_below (by (with_reducible repeat (first | apply Kd.V_alloc | apply Kd.V_drewN | apply Kd.V_drew)); exact HO206.out) hb); have n2_ := aA (bB BK200.out hb); have n3_ := aA (below_step (mD1 GE200.out) hb); clear HO203 HO206 BK200 HB; have HO203 := n0_; have HO206 := n1_; have BK200 := n2_; have HB := n3_; clear n0_ n1_ n2_ n3_; (try clear hb); (try clear hb2); (try clear hk); (try clear hi); obtain ⟨hcz23_0, hcz23_1, hcz23_2, hcz23_3⟩ := bC4 BK200.out; obtain ⟨hfz23_0, hfz23_1, hfz23_2, hfz23_3⟩ := bF4 BK200.out) | ((with_reducible refine gate_callee (f := 9) rfl ?_); refine goesL_ (some 36) rfl rfl Tryz.func9 (by kernel_rfl) rfl #[.agg #[.slice Ao17 t201.length co17, .slice Ao19 t204.length co19, .int .i64 t207, .int .i64 t208], .int .i64 a2, .int .i64 a3] rfl mS ?_; (with_reducible refine (bound_Many.calls _ _ t201 _ _ t204 t207 t208 a2 a3 t213 t214 _ ?side1 ?side2 ?side3 ?side4 A9.out).mono ?_); (case side1 => exact mC ((Kd.V_reads' HO203.out).2.2)); (case side2 => exact (Kd.V_reads' HO203.out).2.1); (case side3 => exact mC ((Kd.V_reads' HO206.out).2.2)); (case side4 => exact (Kd.V_reads' HO206.out).2.1); rintro e w24 ⟨rfl, hb⟩; refine ⟨_, rfl, ?_⟩; have n0_ := aA (Kd.V_below (by (with_reducible repeat (first | apply Kd.V_alloc | apply Kd.V_drewN | apply Kd.V_drew)); exact HO203.out) hb); have n1_ := aA (Kd.V_below (by (with_reducible repeat (first | apply Kd.V_alloc | apply Kd.V_drewN | apply Kd.V_drew)); exact HO206.out) hb); have n2_ := aA (bB BK200.out hb); have n3_ := aA (below_step (mD1 GE200.out) hb); clear HO203 HO206 BK200 HB; have HO203 := n0_; have HO206 := n1_; have BK200 := n2_; have HB := n3_; clear n0_ n1_ n2_ n3_; (try clear hb); (try clear hb2); (try clear hk); (try clear hi); obtain ⟨hcz25_0, hcz25_1, hcz25_2, hcz25_3⟩ := bC4 BK200.out; obtain ⟨hfz25_0, hfz25_1, hfz25_2, hfz25_3⟩ := bF4 BK200.out) | ((with_reducible refine gate_callee (f := 10) rfl ?_); refine goesL_ (some 42) rfl rfl Tryz.func10 (by kernel_rfl) rfl #[.agg #[.slice Ao17 t201.length co17, .slice Ao19 t204.length co19, .int .i64 t207, .int .i64 t208], .int .i64 a4] rfl mS ?_; (with_reducible refine (bound_Life.calls _ _ t201 _ _ t204 t207 t208 a4 t215 t216 _ ?side1 ?side2 ?side3 ?side4 A10.out).mono ?_); (case side1 => exact mC ((Kd.V_reads' HO203.out).2.2)); (case side2 => exact (Kd.V_reads' HO203.out).2.1); (case side3 => exact mC ((Kd.V_reads' HO206.out).2.2)); (case side4 => exact (Kd.V_reads' HO206.out).2.1); rintro e w26 ⟨rfl, hb⟩; refine ⟨_, rfl, ?_⟩; have n0_ := aA (Kd.V_below (by (with_reducible repeat (first | apply Kd.V_alloc | apply Kd.V_drewN | apply Kd.V_drew)); exact HO203.out) hb); have n1_ := aA (Kd.V_below (by (with_reducible repeat (first | apply Kd.V_alloc | apply Kd.V_drewN | apply Kd.V_drew)); exact HO206.out) hb); have n2_ := aA (bB BK200.out hb); have n3_ := aA (below_step (mD1 GE200.out) hb); clear HO203 HO206 BK200 HB; have HO203 := n0_; have HO206 := n1_; have BK200 := n2_; have HB := n3_; clear n0_ n1_ n2_ n3_; (try clear hb); (try clear hb2); (try clear hk); (try clear hi); obtain ⟨hcz27_0, hcz27_1, hcz27_2, hcz27_3⟩ := bC4 BK200.out; obtain ⟨hfz27_0, hfz27_1, hfz27_2, hfz27_3⟩ := bF4 BK200.out) | ((with_reducible refine gate_callee (f := 11) rfl ?_); refine goesL_ (some 46) rfl rfl Tryz.func11 (by kernel_rfl) rfl #[.agg #[.slice Ao17 t201.length co17, .slice Ao19 t204.length co19, .int .i64 t207, .int .i64 t208]] rfl mS ?_; (with_reducible refine (foghornref13_Right.calls k _ _ t201 _ _ t204 t207 t208 true _ ?side1 ?side2 ?side3 ?side4 A11.out).mono ?_); (case side1 => exact mC ((Kd.V_reads' HO203.out).2.2)); (case side2 => exact (Kd.V_reads' HO203.out).2.1); (case side3 => exact mC ((Kd.V_reads' HO206.out).2.2)); (case side4 => exact (Kd.V_reads' HO206.out).2.1); rintro e w28 ⟨rfl, hb⟩; refine ⟨_, rfl, ?_⟩; have n0_ := aA (Kd.V_below (by (with_reducible repeat (first | apply Kd.V_alloc | apply Kd.V_drewN | apply Kd.V_drew)); exact HO203.out) hb); have n1_ := aA (Kd.V_below (by (with_reducible repeat (first | apply Kd.V_alloc | apply Kd.V_drewN | apply Kd.V_drew)); exact HO206.out) hb); have n2_ := aA (bB BK200.out hb); have n3_ := aA (below_step (mD1 GE200.out) hb); clear HO203 HO206 BK200 HB; have HO203 := n0_; have HO206 := n1_; have BK200 := n2_; have HB := n3_; clear n0_ n1_ n2_ n3_; (try clear hb); (try clear hb2); (try clear hk); (try clear hi)))
  (try simp only [Act.put, List.setIfInBounds_toArray, List.set_cons_zero, List.set_cons_succ])
  go_cut [92] (fun v92 wc => ∃ (kq : Nat) (x92_12 : Bool), v92 = .bool x92_12 ∧ Aside0 (foghornlaw24_BoundTells.j0 kq a1 a2 a3 a4 t211 t212 t213 t214 t215 t216 x92_12 t201 t204 t207 t208 = some r) ∧ Aside0 (kq ≤ k) ∧ Aside0 (Kd.V k41 41 wc w.heap.size (fun k_ => k_ ≠ gb200) (.slice Ao17 t201.length co17) t201) ∧ Aside0 (Kd.V k46 46 wc w.heap.size (fun k_ => k_ ≠ gb200) (.slice Ao19 t204.length co19) t204) ∧ Aside0 (wc.heap[gb200]? = some (.cells #[(.slice Ao17 t201.length co17), (.slice Ao19 t204.length co19), .int .i64 t207, .int .i64 t208] 25 (0, 0))) ∧ Aside0 (Below w.heap.size w wc))
  case first =>
   have H := HC13.out
   clear HC13
   by_cases c29 : t210 = 0
   ·rw [if_pos c29] at H
    have c29b0 : (t210 == 0) = true := beq_iff_eq.mpr c29
    have c29b1 : (t210 != 0) = false := bne_eq_false_iff_eq.mpr c29
    clear c29
    (first | rw [c29b0] | (simp only [i64_w, i32_w]; rw [c29b0]) | skip)
    replace H := Option.bind_eq_some_iff.mp H
    obtain ⟨t219, A300, H⟩ := H
    have A30 := aA A300
    clear A300
    by_cases c31 : t209 = t219
    ·rw [if_pos c31] at H
     have c31b0 : (t209 == t219) = true := beq_iff_eq.mpr c31
     have c31b1 : (t209 != t219) = false := bne_eq_false_iff_eq.mpr c31
     clear c31
     replace H := Option.bind_eq_some_iff.mp H
     obtain ⟨t220, A320, H⟩ := H
     have A32 := aA A320
     clear A320
     have H' := aA H
     clear H
     obtain ⟨hcz33_0, hcz33_1, hcz33_2, hcz33_3⟩ := bC4 BK200.out
     obtain ⟨hfz33_0, hfz33_1, hfz33_2, hfz33_3⟩ := bF4 BK200.out
     go_wp2_with (first | (go_at_call 13; (with_reducible refine (foghornref24_Step.calls k _ _ t201 _ _ t204 t207 t208 t219 _ ?side1 ?side2 ?side3 ?side4 A30.out).mono ?_); (case side1 => exact mC ((Kd.V_reads' HO203.out).2.2)); (case side2 => exact (Kd.V_reads' HO203.out).2.1); (case side3 => exact mC ((Kd.V_reads' HO206.out).2.2)); (case side4 => exact (Kd.V_reads' HO206.out).2.1); rintro e w34 ⟨rfl, hb⟩; have n0_ := aA (Kd.V_below (by (with_reducible repeat (first | apply Kd.V_alloc | apply Kd.V_drewN | apply Kd.V_drew)); exact HO203.out) hb); have n1_ := aA (Kd.V_below (by (with_reducible repeat (first | apply Kd.V_alloc | apply Kd.V_drewN | apply Kd.V_drew)); exact HO206.out) hb); have n2_ := aA (bB BK200.out hb); have n3_ := aA (below_step (mD1 GE200.out) hb); clear HO203 HO206 BK200 HB; have HO203 := n0_; have HO206 := n1_; have BK200 := n2_; have HB := n3_; clear n0_ n1_ n2_ n3_; (try clear hb); (try clear hb2); (try clear hk); (try clear hi)) | (go_at_call 12; (with_reducible refine (foghornlaw24_alive.calls  t220 _ ?side1 A32.out).mono ?_); (case side1 => exact gok_below HG.out (mD1 GE200.out)); rintro e w35 ⟨rfl, hb⟩; have n0_ := aA (Kd.V_below (by (with_reducible repeat (first | apply Kd.V_alloc | apply Kd.V_drewN | apply Kd.V_drew)); exact HO203.out) hb); have n1_ := aA (Kd.V_below (by (with_reducible repeat (first | apply Kd.V_alloc | apply Kd.V_drewN | apply Kd.V_drew)); exact HO206.out) hb); have n2_ := aA (bB BK200.out hb); have n3_ := aA (below_step (mD1 GE200.out) hb); clear HO203 HO206 BK200 HB; have HO203 := n0_; have HO206 := n1_; have BK200 := n2_; have HB := n3_; clear n0_ n1_ n2_ n3_; (try clear hb); (try clear hb2); (try clear hk); (try clear hi)))
     go_meet
     case rel => exact ⟨_, (!t220), (by first | rfl | (simp; done) | (simp [*]; done)), H', ⟨by first | omega | exact Nat.le_refl _⟩, ⟨by (with_reducible repeat (first | apply Kd.V_alloc | apply Kd.V_drewN | apply Kd.V_drew)); exact HO203.out⟩, ⟨by (with_reducible repeat (first | apply Kd.V_alloc | apply Kd.V_drewN | apply Kd.V_drew)); exact HO206.out⟩, ⟨by (with_reducible repeat (first | refine blk_drewN ?_ _ | refine blk_drew ?_ | refine blk_alloc ?_ _)); exact BK200.out⟩, ⟨by repeat (first | (with_reducible first | exact HB.out | apply below_alloc | apply pw_below_drewN | apply below_drew1 | refine below_set ?_ GE200.out) | exact HB.out)⟩⟩
    ·rw [if_neg c31] at H
     have c31b0 : (t209 == t219) = false := beq_eq_false_iff_ne.mpr c31
     have c31b1 : (t209 != t219) = true := bne_iff_ne.mpr c31
     have H' := aA H
     clear H
     obtain ⟨hcz36_0, hcz36_1, hcz36_2, hcz36_3⟩ := bC4 BK200.out
     obtain ⟨hfz36_0, hfz36_1, hfz36_2, hfz36_3⟩ := bF4 BK200.out
     go_wp2_with (first | (go_at_call 13; (with_reducible refine (foghornref24_Step.calls k _ _ t201 _ _ t204 t207 t208 t219 _ ?side1 ?side2 ?side3 ?side4 A30.out).mono ?_); (case side1 => exact mC ((Kd.V_reads' HO203.out).2.2)); (case side2 => exact (Kd.V_reads' HO203.out).2.1); (case side3 => exact mC ((Kd.V_reads' HO206.out).2.2)); (case side4 => exact (Kd.V_reads' HO206.out).2.1); rintro e w37 ⟨rfl, hb⟩; have n0_ := aA (Kd.V_below (by (with_reducible repeat (first | apply Kd.V_alloc | apply Kd.V_drewN | apply Kd.V_drew)); exact HO203.out) hb); have n1_ := aA (Kd.V_below (by (with_reducible repeat (first | apply Kd.V_alloc | apply Kd.V_drewN | apply Kd.V_drew)); exact HO206.out) hb); have n2_ := aA (bB BK200.out hb); have n3_ := aA (below_step (mD1 GE200.out) hb); clear HO203 HO206 BK200 HB; have HO203 := n0_; have HO206 := n1_; have BK200 := n2_; have HB := n3_; clear n0_ n1_ n2_ n3_; (try clear hb); (try clear hb2); (try clear hk); (try clear hi)))
     go_meet
     case rel => exact ⟨_, (true), (by first | rfl | (simp; done) | (simp [*]; done)), H', ⟨by first | omega | exact Nat.le_refl _⟩, ⟨by (with_reducible repeat (first | apply Kd.V_alloc | apply Kd.V_drewN | apply Kd.V_drew)); exact HO203.out⟩, ⟨by (with_reducible repeat (first | apply Kd.V_alloc | apply Kd.V_drewN | apply Kd.V_drew)); exact HO206.out⟩, ⟨by (with_reducible repeat (first | refine blk_drewN ?_ _ | refine blk_drew ?_ | refine blk_alloc ?_ _)); exact BK200.out⟩, ⟨by repeat (first | (with_reducible first | exact HB.out | apply below_alloc | apply pw_below_drewN | apply below_drew1 | refine below_set ?_ GE200.out) | exact HB.out)⟩⟩
   ·rw [if_neg c29] at H
    have c29b0 : (t210 == 0) = false := beq_eq_false_iff_ne.mpr c29
    have c29b1 : (t210 != 0) = true := bne_iff_ne.mpr c29
    (first | rw [c29b0] | (simp only [i64_w, i32_w]; rw [c29b0]) | skip)
    have H' := aA H
    clear H
    go_wp2
    go_meet
    case rel => exact ⟨_, (true), (by first | rfl | (simp; done) | (simp [*]; done)), H', ⟨by first | omega | exact Nat.le_refl _⟩, ⟨by (with_reducible repeat (first | apply Kd.V_alloc | apply Kd.V_drewN | apply Kd.V_drew)); exact HO203.out⟩, ⟨by (with_reducible repeat (first | apply Kd.V_alloc | apply Kd.V_drewN | apply Kd.V_drew)); exact HO206.out⟩, ⟨by (with_reducible repeat (first | refine blk_drewN ?_ _ | refine blk_drew ?_ | refine blk_alloc ?_ _)); exact BK200.out⟩, ⟨by repeat (first | (with_reducible first | exact HB.out | apply below_alloc | apply pw_below_drewN | apply below_drew1 | refine below_set ?_ GE200.out) | exact HB.out)⟩⟩
  case rest =>
   clear HC13
   try clear c1
   try clear c2
   try clear p2
   try clear c3
   try clear c6
   try clear c7
   try clear c8
   try clear c9
   try clear c10
   try clear c11
   try clear c12
   try clear c29
   try clear c29b0
   try clear c29b1
   try clear c31
   try clear c31b0
   try clear c31b1
   try clear hcz15_0 hcz15_1 hcz15_2 hcz15_3
   try clear hcz18_0 hcz18_1 hcz18_2 hcz18_3
   try clear hcz21_0 hcz21_1 hcz21_2 hcz21_3
   try clear hcz23_0 hcz23_1 hcz23_2 hcz23_3
   try clear hcz25_0 hcz25_1 hcz25_2 hcz25_3
   try clear hcz27_0 hcz27_1 hcz27_2 hcz27_3
   try clear hcz33_0 hcz33_1 hcz33_2 hcz33_3
   try clear hcz36_0 hcz36_1 hcz36_2 hcz36_3
   try clear hfz15_0 hfz15_1 hfz15_2 hfz15_3
   try clear hfz18_0 hfz18_1 hfz18_2 hfz18_3
   try clear hfz21_0 hfz21_1 hfz21_2 hfz21_3
   try clear hfz23_0 hfz23_1 hfz23_2 hfz23_3
   try clear hfz25_0 hfz25_1 hfz25_2 hfz25_3
   try clear hfz27_0 hfz27_1 hfz27_2 hfz27_3
   try clear hfz33_0 hfz33_1 hfz33_2 hfz33_3
   try clear hfz36_0 hfz36_1 hfz36_2 hfz36_3
   obtain ⟨kq, x92_12, rfl, HA, HJ12, HO_201000, HO_201001, BK200, HB⟩ := hcut
   cases kq with
   | zero => exact absurd HA.out (by simp [foghornlaw24_BoundTells.j0])
   | succ kj12 =>
    have H := HA.out
    clear HA
    simp only [foghornlaw24_BoundTells.j0] at H
    by_cases c38 : x92_12 = true
    ·subst c38
     have H1 : (some false) = some r := by rw [if_pos rfl] at H; exact H
     clear H
     have H := H1
     clear H1
     exact absurd (Option.some.inj H) (by rw [hrt_]; decide)
    ·replace c38 := Bool.eq_false_iff.mpr c38
     subst c38
     have H1 : (if a1 < 1 then (if t212 = 3 then (if t211 = 0 then (foghornlaw24_BoundTells.j1 kj12 a2 a3 a4 t213 t214 t215 t216 t201 t204 t207 t208) else (some false)) else (some false)) else (if t212 = 0 then ((foghornref24_Alone.f kj12 t201 t204 t207 t208 a1).bind fun t221 => (if t211 = t221 then (foghornlaw24_BoundTells.j1 kj12 a2 a3 a4 t213 t214 t215 t216 t201 t204 t207 t208) else (some false))) else (some false))) = some r := by rw [if_neg (show ¬ (false = true) by decide)] at H; exact H
     clear H
     have H := H1
     clear H1
     have HC39 := aA H
     clear H
     go_upto_if 94 with (fail)
     go_cut [] (fun wc => ∃ (kq : Nat), Aside0 (foghornlaw24_BoundTells.j1 kq a2 a3 a4 t213 t214 t215 t216 t201 t204 t207 t208 = some r) ∧ Aside0 (kq ≤ kj12) ∧ Aside0 (Kd.V k41 41 wc w.heap.size (fun k_ => k_ ≠ gb200) (.slice Ao17 t201.length co17) t201) ∧ Aside0 (Kd.V k46 46 wc w.heap.size (fun k_ => k_ ≠ gb200) (.slice Ao19 t204.length co19) t204) ∧ Aside0 (wc.heap[gb200]? = some (.cells #[(.slice Ao17 t201.length co17), (.slice Ao19 t204.length co19), .int .i64 t207, .int .i64 t208] 25 (0, 0))) ∧ Aside0 (Below w.heap.size w wc))
     case first =>
      have H := HC39.out
      clear HC39
      by_cases c40 : a1 < 1
      ·rw [if_pos c40] at H
       have c40b0 : decide (a1 < 1) = true := decide_eq_true c40
       clear c40
       (first | rw [c40b0] | (simp only [i64_w, i32_w]; rw [c40b0]) | skip)
       by_cases c41 : t212 = 3
       ·rw [if_pos c41] at H
        have c41b0 : (t212 == 3) = true := beq_iff_eq.mpr c41
        have c41b1 : (t212 != 3) = false := bne_eq_false_iff_eq.mpr c41
        clear c41
        by_cases c42 : t211 = 0
        ·rw [if_pos c42] at H
         have c42b0 : (t211 == 0) = true := beq_iff_eq.mpr c42
         have c42b1 : (t211 != 0) = false := bne_eq_false_iff_eq.mpr c42
         clear c42
         have H' := aA H
         clear H
         go_wp2
         go_meet
         case rel => exact ⟨_, H', ⟨by have := HJ12.out; first | omega | exact Nat.le_refl _⟩, ⟨by (with_reducible repeat (first | apply Kd.V_alloc | apply Kd.V_drewN | apply Kd.V_drew)); exact HO_201000.out⟩, ⟨by (with_reducible repeat (first | apply Kd.V_alloc | apply Kd.V_drewN | apply Kd.V_drew)); exact HO_201001.out⟩, ⟨by (with_reducible repeat (first | refine blk_drewN ?_ _ | refine blk_drew ?_ | refine blk_alloc ?_ _)); exact BK200.out⟩, ⟨by repeat (first | (with_reducible first | exact HB.out | apply below_alloc | apply pw_below_drewN | apply below_drew1 | refine below_set ?_ GE200.out) | exact HB.out)⟩⟩
        ·rw [if_neg c42] at H
         have c42b0 : (t211 == 0) = false := beq_eq_false_iff_ne.mpr c42
         have c42b1 : (t211 != 0) = true := bne_iff_ne.mpr c42
         exact absurd (Option.some.inj H) (by rw [hrt_]; decide)
       ·rw [if_neg c41] at H
        have c41b0 : (t212 == 3) = false := beq_eq_false_iff_ne.mpr c41
        have c41b1 : (t212 != 3) = true := bne_iff_ne.mpr c41
        exact absurd (Option.some.inj H) (by rw [hrt_]; decide)
      ·rw [if_neg c40] at H
       have c40b0 : decide (a1 < 1) = false := decide_eq_false c40
       clear c40
       (first | rw [c40b0] | (simp only [i64_w, i32_w]; rw [c40b0]) | skip)
       by_cases c43 : t212 = 0
       ·rw [if_pos c43] at H
        have c43b0 : (t212 == 0) = true := beq_iff_eq.mpr c43
        have c43b1 : (t212 != 0) = false := bne_eq_false_iff_eq.mpr c43
        clear c43
        replace H := Option.bind_eq_some_iff.mp H
        obtain ⟨t221, A440, H⟩ := H
        have A44 := aA A440
        clear A440
        by_cases c45 : t211 = t221
        ·rw [if_pos c45] at H
         have c45b0 : (t211 == t221) = true := beq_iff_eq.mpr c45
         have c45b1 : (t211 != t221) = false := bne_eq_false_iff_eq.mpr c45
         clear c45
         have H' := aA H
         clear H
         obtain ⟨hcz46_0, hcz46_1, hcz46_2, hcz46_3⟩ := bC4 BK200.out
         obtain ⟨hfz46_0, hfz46_1, hfz46_2, hfz46_3⟩ := bF4 BK200.out
         go_wp2_with (first | (go_at_call 14; (with_reducible refine (foghornref24_Alone.calls kj12 _ _ t201 _ _ t204 t207 t208 a1 t221 _ ?side1 ?side2 ?side3 ?side4 A44.out).mono ?_); (case side1 => exact mC ((Kd.V_reads' HO_201000.out).2.2)); (case side2 => exact (Kd.V_reads' HO_201000.out).2.1); (case side3 => exact mC ((Kd.V_reads' HO_201001.out).2.2)); (case side4 => exact (Kd.V_reads' HO_201001.out).2.1); rintro e w47 ⟨rfl, hb⟩; have n0_ := aA (Kd.V_below (by (with_reducible repeat (first | apply Kd.V_alloc | apply Kd.V_drewN | apply Kd.V_drew)); exact HO_201000.out) hb); have n1_ := aA (Kd.V_below (by (with_reducible repeat (first | apply Kd.V_alloc | apply Kd.V_drewN | apply Kd.V_drew)); exact HO_201001.out) hb); have n2_ := aA (bB BK200.out hb); have n3_ := aA (below_step (mD1 GE200.out) hb); clear HO_201000 HO_201001 BK200 HB; have HO_201000 := n0_; have HO_201001 := n1_; have BK200 := n2_; have HB := n3_; clear n0_ n1_ n2_ n3_; (try clear hb); (try clear hb2); (try clear hk); (try clear hi)))
         go_meet
         case rel => exact ⟨_, H', ⟨by have := HJ12.out; first | omega | exact Nat.le_refl _⟩, ⟨by (with_reducible repeat (first | apply Kd.V_alloc | apply Kd.V_drewN | apply Kd.V_drew)); exact HO_201000.out⟩, ⟨by (with_reducible repeat (first | apply Kd.V_alloc | apply Kd.V_drewN | apply Kd.V_drew)); exact HO_201001.out⟩, ⟨by (with_reducible repeat (first | refine blk_drewN ?_ _ | refine blk_drew ?_ | refine blk_alloc ?_ _)); exact BK200.out⟩, ⟨by repeat (first | (with_reducible first | exact HB.out | apply below_alloc | apply pw_below_drewN | apply below_drew1 | refine below_set ?_ GE200.out) | exact HB.out)⟩⟩
        ·rw [if_neg c45] at H
         have c45b0 : (t211 == t221) = false := beq_eq_false_iff_ne.mpr c45
         have c45b1 : (t211 != t221) = true := bne_iff_ne.mpr c45
         exact absurd (Option.some.inj H) (by rw [hrt_]; decide)
       ·rw [if_neg c43] at H
        have c43b0 : (t212 == 0) = false := beq_eq_false_iff_ne.mpr c43
        have c43b1 : (t212 != 0) = true := bne_iff_ne.mpr c43
        exact absurd (Option.some.inj H) (by rw [hrt_]; decide)
     case rest =>
      clear HC39
      try clear c1
      try clear c2
      try clear p2
      try clear c3
      try clear c4
      try clear c6
      try clear c7
      try clear c8
      try clear c9
      try clear c10
      try clear c11
      try clear c12
      try clear c29
      try clear c29b0
      try clear c29b1
      try clear c31
      try clear c31b0
      try clear c31b1
      try clear c38
      try clear c40
      try clear c40b0
      try clear c41
      try clear c41b0
      try clear c41b1
      try clear c42
      try clear c42b0
      try clear c42b1
      try clear c43
      try clear c43b0
      try clear c43b1
      try clear c45
      try clear c45b0
      try clear c45b1
      try clear hcz15_0 hcz15_1 hcz15_2 hcz15_3
      try clear hcz18_0 hcz18_1 hcz18_2 hcz18_3
      try clear hcz21_0 hcz21_1 hcz21_2 hcz21_3
      try clear hcz23_0 hcz23_1 hcz23_2 hcz23_3
      try clear hcz25_0 hcz25_1 hcz25_2 hcz25_3
      try clear hcz27_0 hcz27_1 hcz27_2 hcz27_3
      try clear hcz33_0 hcz33_1 hcz33_2 hcz33_3
      try clear hcz36_0 hcz36_1 hcz36_2 hcz36_3
      try clear hcz46_0 hcz46_1 hcz46_2 hcz46_3
      try clear hcz48_0 hcz48_1 hcz48_2 hcz48_3
      try clear hfz15_0 hfz15_1 hfz15_2 hfz15_3
      try clear hfz18_0 hfz18_1 hfz18_2 hfz18_3
      try clear hfz21_0 hfz21_1 hfz21_2 hfz21_3
      try clear hfz23_0 hfz23_1 hfz23_2 hfz23_3
      try clear hfz25_0 hfz25_1 hfz25_2 hfz25_3
      try clear hfz27_0 hfz27_1 hfz27_2 hfz27_3
      try clear hfz33_0 hfz33_1 hfz33_2 hfz33_3
      try clear hfz36_0 hfz36_1 hfz36_2 hfz36_3
      try clear hfz46_0 hfz46_1 hfz46_2 hfz46_3
      try clear hfz48_0 hfz48_1 hfz48_2 hfz48_3
      try clear p2
      obtain ⟨kq, HA, HJ38, HO_201000, HO_201001, BK200, HB⟩ := hcut
      cases kq with
      | zero => exact absurd HA.out (by simp [foghornlaw24_BoundTells.j1])
      | succ kj38 =>
       have H := HA.out
       clear HA
       simp only [foghornlaw24_BoundTells.j1] at H
       have HC50 := aA H
       clear H
       go_upto_region 15 with (fail)
       go_cut [122] (fun v122 wc => ∃ (kq : Nat) (x122_49 : Bool), v122 = .bool x122_49 ∧ Aside0 (foghornlaw24_BoundTells.j2 kq a2 a3 a4 t213 t214 t215 t216 x122_49 t201 t204 t207 t208 = some r) ∧ Aside0 (kq ≤ kj38) ∧ Aside0 (Kd.V k41 41 wc w.heap.size (fun k_ => k_ ≠ gb200) (.slice Ao17 t201.length co17) t201) ∧ Aside0 (Kd.V k46 46 wc w.heap.size (fun k_ => k_ ≠ gb200) (.slice Ao19 t204.length co19) t204) ∧ Aside0 (wc.heap[gb200]? = some (.cells #[(.slice Ao17 t201.length co17), (.slice Ao19 t204.length co19), .int .i64 t207, .int .i64 t208] 25 (0, 0))) ∧ Aside0 (Below w.heap.size w wc))
       case first =>
        have H := HC50.out
        clear HC50
        by_cases c51 : a2 < 0
        ·rw [if_pos c51] at H
         have c51b0 : decide (a2 < 0) = true := decide_eq_true c51
         clear c51
         (first | rw [c51b0] | (simp only [i64_w, i32_w]; rw [c51b0]) | skip)
         have H' := aA H
         clear H
         go_wp2
         go_meet
         case rel => exact ⟨_, (true), (by first | rfl | (simp; done) | (simp [*]; done)), H', ⟨by have := HJ12.out; have := HJ38.out; first | omega | exact Nat.le_refl _⟩, ⟨by (with_reducible repeat (first | apply Kd.V_alloc | apply Kd.V_drewN | apply Kd.V_drew)); exact HO_201000.out⟩, ⟨by (with_reducible repeat (first | apply Kd.V_alloc | apply Kd.V_drewN | apply Kd.V_drew)); exact HO_201001.out⟩, ⟨by (with_reducible repeat (first | refine blk_drewN ?_ _ | refine blk_drew ?_ | refine blk_alloc ?_ _)); exact BK200.out⟩, ⟨by repeat (first | (with_reducible first | exact HB.out | apply below_alloc | apply pw_below_drewN | apply below_drew1 | refine below_set ?_ GE200.out) | exact HB.out)⟩⟩
        ·rw [if_neg c51] at H
         have c51b0 : decide (a2 < 0) = false := decide_eq_false c51
         clear c51
         (first | rw [c51b0] | (simp only [i64_w, i32_w]; rw [c51b0]) | skip)
         by_cases c52 : a2 ≥ (t201.length : Int)
         ·rw [if_pos c52] at H
          have c52b0 : decide ((t201.length : Int) ≤ a2) = true := decide_eq_true c52
          clear c52
          have H' := aA H
          clear H
          obtain ⟨hcz53_0, hcz53_1, hcz53_2, hcz53_3⟩ := bC4 BK200.out
          obtain ⟨hfz53_0, hfz53_1, hfz53_2, hfz53_3⟩ := bF4 BK200.out
          go_wp2
          go_meet
          case rel => exact ⟨_, (true), (by first | rfl | (simp; done) | (simp [*]; done)), H', ⟨by have := HJ12.out; have := HJ38.out; first | omega | exact Nat.le_refl _⟩, ⟨by (with_reducible repeat (first | apply Kd.V_alloc | apply Kd.V_drewN | apply Kd.V_drew)); exact HO_201000.out⟩, ⟨by (with_reducible repeat (first | apply Kd.V_alloc | apply Kd.V_drewN | apply Kd.V_drew)); exact HO_201001.out⟩, ⟨by (with_reducible repeat (first | refine blk_drewN ?_ _ | refine blk_drew ?_ | refine blk_alloc ?_ _)); exact BK200.out⟩, ⟨by repeat (first | (with_reducible first | exact HB.out | apply below_alloc | apply pw_below_drewN | apply below_drew1 | refine below_set ?_ GE200.out) | exact HB.out)⟩⟩
         ·rw [if_neg c52] at H
          have c52b0 : decide ((t201.length : Int) ≤ a2) = false := decide_eq_false c52
          clear c52
          have H' := aA H
          clear H
          obtain ⟨hcz54_0, hcz54_1, hcz54_2, hcz54_3⟩ := bC4 BK200.out
          obtain ⟨hfz54_0, hfz54_1, hfz54_2, hfz54_3⟩ := bF4 BK200.out
          go_wp2
          go_meet
          case rel => exact ⟨_, (decide (a3 < 1)), (by first | rfl | (simp; done) | (simp [*]; done)), H', ⟨by have := HJ12.out; have := HJ38.out; first | omega | exact Nat.le_refl _⟩, ⟨by (with_reducible repeat (first | apply Kd.V_alloc | apply Kd.V_drewN | apply Kd.V_drew)); exact HO_201000.out⟩, ⟨by (with_reducible repeat (first | apply Kd.V_alloc | apply Kd.V_drewN | apply Kd.V_drew)); exact HO_201001.out⟩, ⟨by (with_reducible repeat (first | refine blk_drewN ?_ _ | refine blk_drew ?_ | refine blk_alloc ?_ _)); exact BK200.out⟩, ⟨by repeat (first | (with_reducible first | exact HB.out | apply below_alloc | apply pw_below_drewN | apply below_drew1 | refine below_set ?_ GE200.out) | exact HB.out)⟩⟩
       case rest =>
        clear HC50
        try clear c1
        try clear c2
        try clear p2
        try clear c3
        try clear c4
        try clear c5
        try clear c6
        try clear c7
        try clear c8
        try clear c9
        try clear c10
        try clear c11
        try clear c12
        try clear c29
        try clear c29b0
        try clear c29b1
        try clear c31
        try clear c31b0
        try clear c31b1
        try clear c38
        try clear c40
        try clear c40b0
        try clear c41
        try clear c41b0
        try clear c41b1
        try clear c42
        try clear c42b0
        try clear c42b1
        try clear c43
        try clear c43b0
        try clear c43b1
        try clear c45
        try clear c45b0
        try clear c45b1
        try clear c51
        try clear c51b0
        try clear c52
        try clear c52b0
        try clear hcz15_0 hcz15_1 hcz15_2 hcz15_3
        try clear hcz18_0 hcz18_1 hcz18_2 hcz18_3
        try clear hcz21_0 hcz21_1 hcz21_2 hcz21_3
        try clear hcz23_0 hcz23_1 hcz23_2 hcz23_3
        try clear hcz25_0 hcz25_1 hcz25_2 hcz25_3
        try clear hcz27_0 hcz27_1 hcz27_2 hcz27_3
        try clear hcz33_0 hcz33_1 hcz33_2 hcz33_3
        try clear hcz36_0 hcz36_1 hcz36_2 hcz36_3
        try clear hcz46_0 hcz46_1 hcz46_2 hcz46_3
        try clear hcz48_0 hcz48_1 hcz48_2 hcz48_3
        try clear hcz53_0 hcz53_1 hcz53_2 hcz53_3
        try clear hcz54_0 hcz54_1 hcz54_2 hcz54_3
        try clear hfz15_0 hfz15_1 hfz15_2 hfz15_3
        try clear hfz18_0 hfz18_1 hfz18_2 hfz18_3
        try clear hfz21_0 hfz21_1 hfz21_2 hfz21_3
        try clear hfz23_0 hfz23_1 hfz23_2 hfz23_3
        try clear hfz25_0 hfz25_1 hfz25_2 hfz25_3
        try clear hfz27_0 hfz27_1 hfz27_2 hfz27_3
        try clear hfz33_0 hfz33_1 hfz33_2 hfz33_3
        try clear hfz36_0 hfz36_1 hfz36_2 hfz36_3
        try clear hfz46_0 hfz46_1 hfz46_2 hfz46_3
        try clear hfz48_0 hfz48_1 hfz48_2 hfz48_3
        try clear hfz53_0 hfz53_1 hfz53_2 hfz53_3
        try clear hfz54_0 hfz54_1 hfz54_2 hfz54_3
        try clear p2
        obtain ⟨kq, x122_49, rfl, HA, HJ49, HO_201000, HO_201001, BK200, HB⟩ := hcut
        cases kq with
        | zero => exact absurd HA.out (by simp [foghornlaw24_BoundTells.j2])
        | succ kj49 =>
         have H := HA.out
         clear HA
         simp only [foghornlaw24_BoundTells.j2] at H
         by_cases c55 : x122_49 = true
         ·subst c55
          have H1 : (if t214 = 3 then (foghornlaw24_BoundTells.j3 kj49 a4 t215 t216 (t213 != 0) t201 t204 t207 t208) else (foghornlaw24_BoundTells.j3 kj49 a4 t215 t216 true t201 t204 t207 t208)) = some r := by rw [if_pos rfl] at H; exact H
          clear H
          have H := H1
          clear H1
          have HC56 := aA H
          clear H
          go_upto_region 16 with (fail)
          go_cut [128] (fun v128 wc => ∃ (kq : Nat) (x128_55 : Bool), v128 = .bool x128_55 ∧ Aside0 (foghornlaw24_BoundTells.j3 kq a4 t215 t216 x128_55 t201 t204 t207 t208 = some r) ∧ Aside0 (kq ≤ kj49) ∧ Aside0 (Kd.V k41 41 wc w.heap.size (fun k_ => k_ ≠ gb200) (.slice Ao17 t201.length co17) t201) ∧ Aside0 (Kd.V k46 46 wc w.heap.size (fun k_ => k_ ≠ gb200) (.slice Ao19 t204.length co19) t204) ∧ Aside0 (wc.heap[gb200]? = some (.cells #[(.slice Ao17 t201.length co17), (.slice Ao19 t204.length co19), .int .i64 t207, .int .i64 t208] 25 (0, 0))) ∧ Aside0 (Below w.heap.size w wc))
          case first =>
           have H := HC56.out
           clear HC56
           by_cases c57 : t214 = 3
           ·rw [if_pos c57] at H
            have c57b0 : (t214 == 3) = true := beq_iff_eq.mpr c57
            have c57b1 : (t214 != 3) = false := bne_eq_false_iff_eq.mpr c57
            clear c57
            (first | rw [c57b0] | (simp only [i64_w, i32_w]; rw [c57b0]) | skip)
            have H' := aA H
            clear H
            go_wp2
            go_meet
            case rel => exact ⟨_, ((t213 != 0)), (by first | rfl | (simp; done) | (simp [*]; done)), H', ⟨by have := HJ12.out; have := HJ38.out; have := HJ49.out; first | omega | exact Nat.le_refl _⟩, ⟨by (with_reducible repeat (first | apply Kd.V_alloc | apply Kd.V_drewN | apply Kd.V_drew)); exact HO_201000.out⟩, ⟨by (with_reducible repeat (first | apply Kd.V_alloc | apply Kd.V_drewN | apply Kd.V_drew)); exact HO_201001.out⟩, ⟨by (with_reducible repeat (first | refine blk_drewN ?_ _ | refine blk_drew ?_ | refine blk_alloc ?_ _)); exact BK200.out⟩, ⟨by repeat (first | (with_reducible first | exact HB.out | apply below_alloc | apply pw_below_drewN | apply below_drew1 | refine below_set ?_ GE200.out) | exact HB.out)⟩⟩
           ·rw [if_neg c57] at H
            have c57b0 : (t214 == 3) = false := beq_eq_false_iff_ne.mpr c57
            have c57b1 : (t214 != 3) = true := bne_iff_ne.mpr c57
            (first | rw [c57b0] | (simp only [i64_w, i32_w]; rw [c57b0]) | skip)
            have H' := aA H
            clear H
            go_wp2
            go_meet
            case rel => exact ⟨_, (true), (by first | rfl | (simp; done) | (simp [*]; done)), H', ⟨by have := HJ12.out; have := HJ38.out; have := HJ49.out; first | omega | exact Nat.le_refl _⟩, ⟨by (with_reducible repeat (first | apply Kd.V_alloc | apply Kd.V_drewN | apply Kd.V_drew)); exact HO_201000.out⟩, ⟨by (with_reducible repeat (first | apply Kd.V_alloc | apply Kd.V_drewN | apply Kd.V_drew)); exact HO_201001.out⟩, ⟨by (with_reducible repeat (first | refine blk_drewN ?_ _ | refine blk_drew ?_ | refine blk_alloc ?_ _)); exact BK200.out⟩, ⟨by repeat (first | (with_reducible first | exact HB.out | apply below_alloc | apply pw_below_drewN | apply below_drew1 | refine below_set ?_ GE200.out) | exact HB.out)⟩⟩
          case rest =>
           clear HC56
           try clear c1
           try clear c2
           try clear p2
           try clear c3
           try clear c4
           try clear c5
           try clear c6
           try clear c7
           try clear c8
           try clear c9
           try clear c10
           try clear c11
           try clear c12
           try clear c29
           try clear c29b0
           try clear c29b1
           try clear c31
           try clear c31b0
           try clear c31b1
           try clear c38
           try clear c40
           try clear c40b0
           try clear c41
           try clear c41b0
           try clear c41b1
           try clear c42
           try clear c42b0
           try clear c42b1
           try clear c43
           try clear c43b0
           try clear c43b1
           try clear c45
           try clear c45b0
           try clear c45b1
           try clear c51
           try clear c51b0
           try clear c52
           try clear c52b0
           try clear c55
           try clear c57
           try clear c57b0
           try clear c57b1
           try clear hcz15_0 hcz15_1 hcz15_2 hcz15_3
           try clear hcz18_0 hcz18_1 hcz18_2 hcz18_3
           try clear hcz21_0 hcz21_1 hcz21_2 hcz21_3
           try clear hcz23_0 hcz23_1 hcz23_2 hcz23_3
           try clear hcz25_0 hcz25_1 hcz25_2 hcz25_3
           try clear hcz27_0 hcz27_1 hcz27_2 hcz27_3
           try clear hcz33_0 hcz33_1 hcz33_2 hcz33_3
           try clear hcz36_0 hcz36_1 hcz36_2 hcz36_3
           try clear hcz46_0 hcz46_1 hcz46_2 hcz46_3
           try clear hcz48_0 hcz48_1 hcz48_2 hcz48_3
           try clear hcz53_0 hcz53_1 hcz53_2 hcz53_3
           try clear hcz54_0 hcz54_1 hcz54_2 hcz54_3
           try clear hfz15_0 hfz15_1 hfz15_2 hfz15_3
           try clear hfz18_0 hfz18_1 hfz18_2 hfz18_3
           try clear hfz21_0 hfz21_1 hfz21_2 hfz21_3
           try clear hfz23_0 hfz23_1 hfz23_2 hfz23_3
           try clear hfz25_0 hfz25_1 hfz25_2 hfz25_3
           try clear hfz27_0 hfz27_1 hfz27_2 hfz27_3
           try clear hfz33_0 hfz33_1 hfz33_2 hfz33_3
           try clear hfz36_0 hfz36_1 hfz36_2 hfz36_3
           try clear hfz46_0 hfz46_1 hfz46_2 hfz46_3
           try clear hfz48_0 hfz48_1 hfz48_2 hfz48_3
           try clear hfz53_0 hfz53_1 hfz53_2 hfz53_3
           try clear hfz54_0 hfz54_1 hfz54_2 hfz54_3
           try clear p2
           obtain ⟨kq, x128_55, rfl, HA, HJ55, HO_201000, HO_201001, BK200, HB⟩ := hcut
           cases kq with
           | zero => exact absurd HA.out (by simp [foghornlaw24_BoundTells.j3])
           | succ kj55 =>
            have H := HA.out
            clear HA
            simp only [foghornlaw24_BoundTells.j3] at H
            by_cases c58 : x128_55 = true
            ·subst c58
             have H1 : (some false) = some r := by rw [if_pos rfl] at H; exact H
             clear H
             have H := H1
             clear H1
             exact absurd (Option.some.inj H) (by rw [hrt_]; decide)
            ·replace c58 := Bool.eq_false_iff.mpr c58
             subst c58
             have H1 : (if a4 < 0 then (if t216 = 3 then (some (t215 == 0)) else (some false)) else (if t216 = 0 then ((foghornref24_Life.f t201 t204 t207 t208 a4).bind fun t222 => (some (t215 == t222))) else (some false))) = some r := by rw [if_neg (show ¬ (false = true) by decide)] at H; exact H
             clear H
             have H := H1
             clear H1
             by_cases c59 : a4 < 0
             ·rw [if_pos c59] at H
              have c59b0 : decide (a4 < 0) = true := decide_eq_true c59
              clear c59
              by_cases c60 : t216 = 3
              ·rw [if_pos c60] at H
               have c60b0 : (t216 == 3) = true := beq_iff_eq.mpr c60
               have c60b1 : (t216 != 3) = false := bne_eq_false_iff_eq.mpr c60
               clear c60
               obtain rfl := Option.some.inj H
               go_wp2
               go_ret
               exact ⟨by first | rfl | (simp [errW_none, errW_some] <;> rfl) | (simp [*, errW_none, errW_some] <;> rfl), by repeat (first | (with_reducible first | exact HB.out | apply below_alloc | apply pw_below_drewN | apply below_drew1 | refine below_set ?_ GE200.out) | exact HB.out)⟩
              ·rw [if_neg c60] at H
               have c60b0 : (t216 == 3) = false := beq_eq_false_iff_ne.mpr c60
               have c60b1 : (t216 != 3) = true := bne_iff_ne.mpr c60
               exact absurd (Option.some.inj H) (by rw [hrt_]; decide)
             ·rw [if_neg c59] at H
              have c59b0 : decide (a4 < 0) = false := decide_eq_false c59
              clear c59
              by_cases c61 : t216 = 0
              ·rw [if_pos c61] at H
               have c61b0 : (t216 == 0) = true := beq_iff_eq.mpr c61
               have c61b1 : (t216 != 0) = false := bne_eq_false_iff_eq.mpr c61
               clear c61
               replace H := Option.bind_eq_some_iff.mp H
               obtain ⟨t222, A620, H⟩ := H
               have A62 := aA A620
               clear A620
               obtain rfl := Option.some.inj H
               obtain ⟨hcz63_0, hcz63_1, hcz63_2, hcz63_3⟩ := bC4 BK200.out
               obtain ⟨hfz63_0, hfz63_1, hfz63_2, hfz63_3⟩ := bF4 BK200.out
               go_wp2_with (first | (go_at_call 16; (with_reducible refine (foghornref24_Life.calls _ _ t201 _ _ t204 t207 t208 a4 t222 _ ?side1 ?side2 ?side3 ?side4 A62.out).mono ?_); (case side1 => exact mC ((Kd.V_reads' HO_201000.out).2.2)); (case side2 => exact (Kd.V_reads' HO_201000.out).2.1); (case side3 => exact mC ((Kd.V_reads' HO_201001.out).2.2)); (case side4 => exact (Kd.V_reads' HO_201001.out).2.1); rintro e w64 ⟨rfl, hb⟩; have n0_ := aA (Kd.V_below (by (with_reducible repeat (first | apply Kd.V_alloc | apply Kd.V_drewN | apply Kd.V_drew)); exact HO_201000.out) hb); have n1_ := aA (Kd.V_below (by (with_reducible repeat (first | apply Kd.V_alloc | apply Kd.V_drewN | apply Kd.V_drew)); exact HO_201001.out) hb); have n2_ := aA (bB BK200.out hb); have n3_ := aA (below_step (mD1 GE200.out) hb); clear HO_201000 HO_201001 BK200 HB; have HO_201000 := n0_; have HO_201001 := n1_; have BK200 := n2_; have HB := n3_; clear n0_ n1_ n2_ n3_; (try clear hb); (try clear hb2); (try clear hk); (try clear hi)))
               go_ret
               exact ⟨by first | rfl | (simp [errW_none, errW_some] <;> rfl) | (simp [*, errW_none, errW_some] <;> rfl), by repeat (first | (with_reducible first | exact HB.out | apply below_alloc | apply pw_below_drewN | apply below_drew1 | refine below_set ?_ GE200.out) | exact HB.out)⟩
              ·rw [if_neg c61] at H
               have c61b0 : (t216 == 0) = false := beq_eq_false_iff_ne.mpr c61
               have c61b1 : (t216 != 0) = true := bne_iff_ne.mpr c61
               exact absurd (Option.some.inj H) (by rw [hrt_]; decide)
         ·replace c55 := Bool.eq_false_iff.mpr c55
          subst c55
          have H1 : (if t214 = 0 then ((foghornref24_Many.f t201 t204 t207 t208 a2 a3).bind fun t223 => (foghornlaw24_BoundTells.j4 kj49 a4 t215 t216 (t213 != t223) t201 t204 t207 t208)) else (foghornlaw24_BoundTells.j4 kj49 a4 t215 t216 true t201 t204 t207 t208)) = some r := by rw [if_neg (show ¬ (false = true) by decide)] at H; exact H
          clear H
          have H := H1
          clear H1
          have HC65 := aA H
          clear H
          go_upto_region 18 with (fail)
          go_cut [138] (fun v138 wc => ∃ (kq : Nat) (x138_64 : Bool), v138 = .bool x138_64 ∧ Aside0 (foghornlaw24_BoundTells.j4 kq a4 t215 t216 x138_64 t201 t204 t207 t208 = some r) ∧ Aside0 (kq ≤ kj49) ∧ Aside0 (Kd.V k41 41 wc w.heap.size (fun k_ => k_ ≠ gb200) (.slice Ao17 t201.length co17) t201) ∧ Aside0 (Kd.V k46 46 wc w.heap.size (fun k_ => k_ ≠ gb200) (.slice Ao19 t204.length co19) t204) ∧ Aside0 (wc.heap[gb200]? = some (.cells #[(.slice Ao17 t201.length co17), (.slice Ao19 t204.length co19), .int .i64 t207, .int .i64 t208] 25 (0, 0))) ∧ Aside0 (Below w.heap.size w wc))
          case first =>
           have H := HC65.out
           clear HC65
           by_cases c66 : t214 = 0
           ·rw [if_pos c66] at H
            have c66b0 : (t214 == 0) = true := beq_iff_eq.mpr c66
            have c66b1 : (t214 != 0) = false := bne_eq_false_iff_eq.mpr c66
            clear c66
            (first | rw [c66b0] | (simp only [i64_w, i32_w]; rw [c66b0]) | skip)
            replace H := Option.bind_eq_some_iff.mp H
            obtain ⟨t223, A670, H⟩ := H
            have A67 := aA A670
            clear A670
            have H' := aA H
            clear H
            obtain ⟨hcz68_0, hcz68_1, hcz68_2, hcz68_3⟩ := bC4 BK200.out
            obtain ⟨hfz68_0, hfz68_1, hfz68_2, hfz68_3⟩ := bF4 BK200.out
            go_wp2_with (first | (go_at_call 15; (with_reducible refine (foghornref24_Many.calls _ _ t201 _ _ t204 t207 t208 a2 a3 t223 _ ?side1 ?side2 ?side3 ?side4 A67.out).mono ?_); (case side1 => exact mC ((Kd.V_reads' HO_201000.out).2.2)); (case side2 => exact (Kd.V_reads' HO_201000.out).2.1); (case side3 => exact mC ((Kd.V_reads' HO_201001.out).2.2)); (case side4 => exact (Kd.V_reads' HO_201001.out).2.1); rintro e w69 ⟨rfl, hb⟩; have n0_ := aA (Kd.V_below (by (with_reducible repeat (first | apply Kd.V_alloc | apply Kd.V_drewN | apply Kd.V_drew)); exact HO_201000.out) hb); have n1_ := aA (Kd.V_below (by (with_reducible repeat (first | apply Kd.V_alloc | apply Kd.V_drewN | apply Kd.V_drew)); exact HO_201001.out) hb); have n2_ := aA (bB BK200.out hb); have n3_ := aA (below_step (mD1 GE200.out) hb); clear HO_201000 HO_201001 BK200 HB; have HO_201000 := n0_; have HO_201001 := n1_; have BK200 := n2_; have HB := n3_; clear n0_ n1_ n2_ n3_; (try clear hb); (try clear hb2); (try clear hk); (try clear hi)))
            go_meet
            case rel => exact ⟨_, ((t213 != t223)), (by first | rfl | (simp; done) | (simp [*]; done)), H', ⟨by have := HJ12.out; have := HJ38.out; have := HJ49.out; first | omega | exact Nat.le_refl _⟩, ⟨by (with_reducible repeat (first | apply Kd.V_alloc | apply Kd.V_drewN | apply Kd.V_drew)); exact HO_201000.out⟩, ⟨by (with_reducible repeat (first | apply Kd.V_alloc | apply Kd.V_drewN | apply Kd.V_drew)); exact HO_201001.out⟩, ⟨by (with_reducible repeat (first | refine blk_drewN ?_ _ | refine blk_drew ?_ | refine blk_alloc ?_ _)); exact BK200.out⟩, ⟨by repeat (first | (with_reducible first | exact HB.out | apply below_alloc | apply pw_below_drewN | apply below_drew1 | refine below_set ?_ GE200.out) | exact HB.out)⟩⟩
           ·rw [if_neg c66] at H
            have c66b0 : (t214 == 0) = false := beq_eq_false_iff_ne.mpr c66
            have c66b1 : (t214 != 0) = true := bne_iff_ne.mpr c66
            (first | rw [c66b0] | (simp only [i64_w, i32_w]; rw [c66b0]) | skip)
            have H' := aA H
            clear H
            go_wp2
            go_meet
            case rel => exact ⟨_, (true), (by first | rfl | (simp; done) | (simp [*]; done)), H', ⟨by have := HJ12.out; have := HJ38.out; have := HJ49.out; first | omega | exact Nat.le_refl _⟩, ⟨by (with_reducible repeat (first | apply Kd.V_alloc | apply Kd.V_drewN | apply Kd.V_drew)); exact HO_201000.out⟩, ⟨by (with_reducible repeat (first | apply Kd.V_alloc | apply Kd.V_drewN | apply Kd.V_drew)); exact HO_201001.out⟩, ⟨by (with_reducible repeat (first | refine blk_drewN ?_ _ | refine blk_drew ?_ | refine blk_alloc ?_ _)); exact BK200.out⟩, ⟨by repeat (first | (with_reducible first | exact HB.out | apply below_alloc | apply pw_below_drewN | apply below_drew1 | refine below_set ?_ GE200.out) | exact HB.out)⟩⟩
          case rest =>
           clear HC65
           try clear c1
           try clear c2
           try clear p2
           try clear c3
           try clear c4
           try clear c5
           try clear c6
           try clear c7
           try clear c8
           try clear c9
           try clear c10
           try clear c11
           try clear c12
           try clear c29
           try clear c29b0
           try clear c29b1
           try clear c31
           try clear c31b0
           try clear c31b1
           try clear c38
           try clear c40
           try clear c40b0
           try clear c41
           try clear c41b0
           try clear c41b1
           try clear c42
           try clear c42b0
           try clear c42b1
           try clear c43
           try clear c43b0
           try clear c43b1
           try clear c45
           try clear c45b0
           try clear c45b1
           try clear c51
           try clear c51b0
           try clear c52
           try clear c52b0
           try clear c55
           try clear c57
           try clear c57b0
           try clear c57b1
           try clear c58
           try clear c59
           try clear c59b0
           try clear c60
           try clear c60b0
           try clear c60b1
           try clear c61
           try clear c61b0
           try clear c61b1
           try clear c66
           try clear c66b0
           try clear c66b1
           try clear hcz15_0 hcz15_1 hcz15_2 hcz15_3
           try clear hcz18_0 hcz18_1 hcz18_2 hcz18_3
           try clear hcz21_0 hcz21_1 hcz21_2 hcz21_3
           try clear hcz23_0 hcz23_1 hcz23_2 hcz23_3
           try clear hcz25_0 hcz25_1 hcz25_2 hcz25_3
           try clear hcz27_0 hcz27_1 hcz27_2 hcz27_3
           try clear hcz33_0 hcz33_1 hcz33_2 hcz33_3
           try clear hcz36_0 hcz36_1 hcz36_2 hcz36_3
           try clear hcz46_0 hcz46_1 hcz46_2 hcz46_3
           try clear hcz48_0 hcz48_1 hcz48_2 hcz48_3
           try clear hcz53_0 hcz53_1 hcz53_2 hcz53_3
           try clear hcz54_0 hcz54_1 hcz54_2 hcz54_3
           try clear hcz63_0 hcz63_1 hcz63_2 hcz63_3
           try clear hcz68_0 hcz68_1 hcz68_2 hcz68_3
           try clear hfz15_0 hfz15_1 hfz15_2 hfz15_3
           try clear hfz18_0 hfz18_1 hfz18_2 hfz18_3
           try clear hfz21_0 hfz21_1 hfz21_2 hfz21_3
           try clear hfz23_0 hfz23_1 hfz23_2 hfz23_3
           try clear hfz25_0 hfz25_1 hfz25_2 hfz25_3
           try clear hfz27_0 hfz27_1 hfz27_2 hfz27_3
           try clear hfz33_0 hfz33_1 hfz33_2 hfz33_3
           try clear hfz36_0 hfz36_1 hfz36_2 hfz36_3
           try clear hfz46_0 hfz46_1 hfz46_2 hfz46_3
           try clear hfz48_0 hfz48_1 hfz48_2 hfz48_3
           try clear hfz53_0 hfz53_1 hfz53_2 hfz53_3
           try clear hfz54_0 hfz54_1 hfz54_2 hfz54_3
           try clear hfz63_0 hfz63_1 hfz63_2 hfz63_3
           try clear hfz68_0 hfz68_1 hfz68_2 hfz68_3
           try clear p2
           obtain ⟨kq, x138_64, rfl, HA, HJ64, HO_201000, HO_201001, BK200, HB⟩ := hcut
           cases kq with
           | zero => exact absurd HA.out (by simp [foghornlaw24_BoundTells.j4])
           | succ kj64 =>
            have H := HA.out
            clear HA
            simp only [foghornlaw24_BoundTells.j4] at H
            by_cases c70 : x138_64 = true
            ·subst c70
             have H1 : (some false) = some r := by rw [if_pos rfl] at H; exact H
             clear H
             have H := H1
             clear H1
             exact absurd (Option.some.inj H) (by rw [hrt_]; decide)
            ·replace c70 := Bool.eq_false_iff.mpr c70
             subst c70
             have H1 : (if a4 < 0 then (if t216 = 3 then (some (t215 == 0)) else (some false)) else (if t216 = 0 then ((foghornref24_Life.f t201 t204 t207 t208 a4).bind fun t224 => (some (t215 == t224))) else (some false))) = some r := by rw [if_neg (show ¬ (false = true) by decide)] at H; exact H
             clear H
             have H := H1
             clear H1
             by_cases c71 : a4 < 0
             ·rw [if_pos c71] at H
              have c71b0 : decide (a4 < 0) = true := decide_eq_true c71
              clear c71
              by_cases c72 : t216 = 3
              ·rw [if_pos c72] at H
               have c72b0 : (t216 == 3) = true := beq_iff_eq.mpr c72
               have c72b1 : (t216 != 3) = false := bne_eq_false_iff_eq.mpr c72
               clear c72
               obtain rfl := Option.some.inj H
               go_wp2
               go_ret
               exact ⟨by first | rfl | (simp [errW_none, errW_some] <;> rfl) | (simp [*, errW_none, errW_some] <;> rfl), by repeat (first | (with_reducible first | exact HB.out | apply below_alloc | apply pw_below_drewN | apply below_drew1 | refine below_set ?_ GE200.out) | exact HB.out)⟩
              ·rw [if_neg c72] at H
               have c72b0 : (t216 == 3) = false := beq_eq_false_iff_ne.mpr c72
               have c72b1 : (t216 != 3) = true := bne_iff_ne.mpr c72
               exact absurd (Option.some.inj H) (by rw [hrt_]; decide)
             ·rw [if_neg c71] at H
              have c71b0 : decide (a4 < 0) = false := decide_eq_false c71
              clear c71
              by_cases c73 : t216 = 0
              ·rw [if_pos c73] at H
               have c73b0 : (t216 == 0) = true := beq_iff_eq.mpr c73
               have c73b1 : (t216 != 0) = false := bne_eq_false_iff_eq.mpr c73
               clear c73
               replace H := Option.bind_eq_some_iff.mp H
               obtain ⟨t224, A740, H⟩ := H
               have A74 := aA A740
               clear A740
               obtain rfl := Option.some.inj H
               obtain ⟨hcz75_0, hcz75_1, hcz75_2, hcz75_3⟩ := bC4 BK200.out
               obtain ⟨hfz75_0, hfz75_1, hfz75_2, hfz75_3⟩ := bF4 BK200.out
               go_wp2_with (first | (go_at_call 16; (with_reducible refine (foghornref24_Life.calls _ _ t201 _ _ t204 t207 t208 a4 t224 _ ?side1 ?side2 ?side3 ?side4 A74.out).mono ?_); (case side1 => exact mC ((Kd.V_reads' HO_201000.out).2.2)); (case side2 => exact (Kd.V_reads' HO_201000.out).2.1); (case side3 => exact mC ((Kd.V_reads' HO_201001.out).2.2)); (case side4 => exact (Kd.V_reads' HO_201001.out).2.1); rintro e w76 ⟨rfl, hb⟩; have n0_ := aA (Kd.V_below (by (with_reducible repeat (first | apply Kd.V_alloc | apply Kd.V_drewN | apply Kd.V_drew)); exact HO_201000.out) hb); have n1_ := aA (Kd.V_below (by (with_reducible repeat (first | apply Kd.V_alloc | apply Kd.V_drewN | apply Kd.V_drew)); exact HO_201001.out) hb); have n2_ := aA (bB BK200.out hb); have n3_ := aA (below_step (mD1 GE200.out) hb); clear HO_201000 HO_201001 BK200 HB; have HO_201000 := n0_; have HO_201001 := n1_; have BK200 := n2_; have HB := n3_; clear n0_ n1_ n2_ n3_; (try clear hb); (try clear hb2); (try clear hk); (try clear hi)))
               go_ret
               exact ⟨by first | rfl | (simp [errW_none, errW_some] <;> rfl) | (simp [*, errW_none, errW_some] <;> rfl), by repeat (first | (with_reducible first | exact HB.out | apply below_alloc | apply pw_below_drewN | apply below_drew1 | refine below_set ?_ GE200.out) | exact HB.out)⟩
              ·rw [if_neg c73] at H
               have c73b0 : (t216 == 0) = false := beq_eq_false_iff_ne.mpr c73
               have c73b1 : (t216 != 0) = true := bne_iff_ne.mpr c73
               exact absurd (Option.some.inj H) (by rw [hrt_]; decide)
 ·replace c12 := Bool.eq_false_iff.mpr c12
  subst c12
  have H1 : ((foghornlaw24_alive.f).bind fun t218 => (if t218 = true then (if t210 = 1 then (if t212 = 1 then (if t214 = 1 then (if t216 = 1 then (if t209 = 0 then (if t211 = 0 then (if t213 = 0 then (some (t215 == 0)) else (some false)) else (some false)) else (some false)) else (some false)) else (some false)) else (some false)) else (some false)) else (some false))) = some r := by rw [if_neg (show ¬ (false = true) by decide)] at H; exact H
  clear H
  have H := H1
  clear H1
  replace H := Option.bind_eq_some_iff.mp H
  obtain ⟨t218, A770, H⟩ := H
  have A77 := aA A770
  clear A770
  by_cases c78 : t218 = true
  ·subst c78
   have H1 : (if t210 = 1 then (if t212 = 1 then (if t214 = 1 then (if t216 = 1 then (if t209 = 0 then (if t211 = 0 then (if t213 = 0 then (some (t215 == 0)) else (some false)) else (some false)) else (some false)) else (some false)) else (some false)) else (some false)) else (some false)) = some r := by rw [if_pos rfl] at H; exact H
   clear H
   have H := H1
   clear H1
   by_cases c79 : t210 = 1
   ·rw [if_pos c79] at H
    have c79b0 : (t210 == 1) = true := beq_iff_eq.mpr c79
    have c79b1 : (t210 != 1) = false := bne_eq_false_iff_eq.mpr c79
    clear c79
    by_cases c80 : t212 = 1
    ·rw [if_pos c80] at H
     have c80b0 : (t212 == 1) = true := beq_iff_eq.mpr c80
     have c80b1 : (t212 != 1) = false := bne_eq_false_iff_eq.mpr c80
     clear c80
     by_cases c81 : t214 = 1
     ·rw [if_pos c81] at H
      have c81b0 : (t214 == 1) = true := beq_iff_eq.mpr c81
      have c81b1 : (t214 != 1) = false := bne_eq_false_iff_eq.mpr c81
      clear c81
      by_cases c82 : t216 = 1
      ·rw [if_pos c82] at H
       have c82b0 : (t216 == 1) = true := beq_iff_eq.mpr c82
       have c82b1 : (t216 != 1) = false := bne_eq_false_iff_eq.mpr c82
       clear c82
       by_cases c83 : t209 = 0
       ·rw [if_pos c83] at H
        have c83b0 : (t209 == 0) = true := beq_iff_eq.mpr c83
        have c83b1 : (t209 != 0) = false := bne_eq_false_iff_eq.mpr c83
        clear c83
        by_cases c84 : t211 = 0
        ·rw [if_pos c84] at H
         have c84b0 : (t211 == 0) = true := beq_iff_eq.mpr c84
         have c84b1 : (t211 != 0) = false := bne_eq_false_iff_eq.mpr c84
         clear c84
         by_cases c85 : t213 = 0
         ·rw [if_pos c85] at H
          have c85b0 : (t213 == 0) = true := beq_iff_eq.mpr c85
          have c85b1 : (t213 != 0) = false := bne_eq_false_iff_eq.mpr c85
          clear c85
          obtain rfl := Option.some.inj H
          go_enter Tryz.func3, Tryz.ntmps3
          go_wp2_with (first | ((with_reducible refine gate_dst (N := 5) rfl ?_); (try (refine gate_guard (by rfl) ?_; dsimp only)); refine box_event ?hg (N := 5) ?hd (cs := #[.slice A0_0 l0_0.length c0_0, .slice A0_1 l0_1.length c0_1, .int .i64 a0_2, .int .i64 a0_3]) (t := 25) ?hr ?_; (case hd => rfl); (case hg => rfl); (case hr => first | (go_simp; done) | (go_simp; rfl)); intro gb200 hg w86 hbox hb; have n0_ := aA (below_step mB hb); have n1_ := aA (hbox); have n2_ := aA ((bZ hg mB)); have n3_ := aA ((bZ hg mB)); clear HB; have HB := n0_; have BK200 := n1_; have GW200 := n2_; have GE200 := n3_; clear n0_ n1_ n2_ n3_ hb hbox hg; obtain ⟨hcz87_0, hcz87_1, hcz87_2, hcz87_3⟩ := bC4 BK200.out; obtain ⟨hfz87_0, hfz87_1, hfz87_2, hfz87_3⟩ := bF4 BK200.out) | ((with_reducible refine gate_callee (f := 6) rfl ?_); refine goesL_ (some 20) rfl rfl Tryz.func6 (by kernel_rfl) rfl #[.agg #[.slice A0_0 l0_0.length c0_0, .slice A0_1 l0_1.length c0_1, .int .i64 a0_2, .int .i64 a0_3]] rfl mS ?_; (with_reducible refine (foghornlaw24_few.calls (fun k_ => k_ < w.heap.size) _ _ l0_0 (fun k_ => k_ < w.heap.size) _ _ l0_1 a0_2 a0_3 t201 t204 t207 t208 _ ?side1 ?side2 A6.out).mono ?_); (case side1 => exact Kd.V_mk HC0_0.out (Kd.F_below (Kd.C_F k41_heap HR0_0.out) (mD1 GE200.out))); (case side2 => exact Kd.V_mk HC0_1.out (Kd.F_below (Kd.C_F k46_heap HR0_1.out) (mD1 GE200.out))); rintro e w88 ⟨v202, v205, rfl, ho0, ho1, hb⟩; refine ⟨_, rfl, ?_⟩; have n0_ := aA (Kd.V_lower (Kd.V_mono (ok' := fun k_ => k_ ≠ gb200) ho0 (fun k_ hk_ => Or.elim hk_ (fun hs_ => Or.elim hs_ (fun hs_ => fun e_ => Nat.not_le.2 hs_ (by rw [e_]; exact GW200.out)) (fun hs_ => fun e_ => Nat.not_le.2 hs_ (by rw [e_]; exact GW200.out))) (fun hn_ => (Kd.freshB (g := gb200) (o := .cells #[.slice A0_0 l0_0.length c0_0, .slice A0_1 l0_1.length c0_1, .int .i64 a0_2, .int .i64 a0_3] 25 (0, 0)) (mK BK200.out) k_ hn_)))) (below_size (mD1 GE200.out))); have n1_ := aA (Kd.V_lower (Kd.V_mono (ok' := fun k_ => k_ ≠ gb200) ho1 (fun k_ hk_ => Or.elim hk_ (fun hs_ => Or.elim hs_ (fun hs_ => fun e_ => Nat.not_le.2 hs_ (by rw [e_]; exact GW200.out)) (fun hs_ => fun e_ => Nat.not_le.2 hs_ (by rw [e_]; exact GW200.out))) (fun hn_ => (Kd.freshB (g := gb200) (o := .cells #[.slice A0_0 l0_0.length c0_0, .slice A0_1 l0_1.length c0_1, .int .i64 a0_2, .int .i64 a0_3] 25 (0, 0)) (mK BK200.out) k_ hn_)))) (below_size (mD1 GE200.out))); have n2_ := aA (bB BK200.out hb); have n3_ := aA (below_step (mD1 GE200.out) hb); clear BK200 HB; have HO203 := n0_; have HO206 := n1_; have BK200 := n2_; have HB := n3_; clear n0_ n1_ n2_ n3_; (try clear hb); (try clear hb2); (try clear hk); (try clear hi); (try clear ho0); (try clear ho1); obtain ⟨Ao89, co89, eo89⟩ := Kd.V_slice HO203.out; subst eo89; obtain ⟨hcz90_0, hcz90_1, hcz90_2, hcz90_3⟩ := bC4 BK200.out; obtain ⟨hfz90_0, hfz90_1, hfz90_2, hfz90_3⟩ := bF4 BK200.out; obtain ⟨Ao91, co91, eo91⟩ := Kd.V_slice HO206.out; subst eo91) | ((with_reducible refine gate_callee (f := 7) rfl ?_); refine goesL_ (some 23) rfl rfl Tryz.func7 (by kernel_rfl) rfl #[.agg #[.slice Ao89 t201.length co89, .slice Ao91 t204.length co91, .int .i64 t207, .int .i64 t208]] rfl mS ?_; (with_reducible refine (bound_Step.calls _ _ t201 _ _ t204 t207 t208 t209 t210 _ ?side1 ?side2 ?side3 ?side4 A7.out).mono ?_); (case side1 => refine (Kd.V_reads' (e := 41) (base := w.heap.size) (ok := fun k_ => k_ ≠ gb200) (n := t201.length) (c := co89) ?_).2.2; exact (by (with_reducible repeat (first | apply Kd.V_alloc | apply Kd.V_drewN | apply Kd.V_drew)); exact (Kd.V_mono (Kd.V_far (p := ⟨gb200, 3, none⟩) (Kd.V_far (p := ⟨gb200, 2, none⟩) (Kd.V_far (p := ⟨gb200, 1, none⟩) (Kd.V_far (p := ⟨gb200, 0, none⟩) (Kd.V_mono HO203.out (fun k_ hk => (⟨hk, hk⟩ : _ ∧ k_ ≠ gb200))) (fun _ hk => hk.2) (.slice Ao89 t201.length co89)) (fun _ hk => hk.2) (.slice Ao91 t204.length co91)) (fun _ hk => hk.2) (.int .i64 t207)) (fun _ hk => hk.2) (.int .i64 t208)) (fun _ h_ => h_.1)))); (case side2 => exact (Kd.V_reads' HO203.out).2.1); (case side3 => refine (Kd.V_reads' (e := 46) (base := w.heap.size) (ok := fun k_ => k_ ≠ gb200) (n := t204.length) (c := co91) ?_).2.2; exact (by (with_reducible repeat (first | apply Kd.V_alloc | apply Kd.V_drewN | apply Kd.V_drew)); exact (Kd.V_mono (Kd.V_far (p := ⟨gb200, 3, none⟩) (Kd.V_far (p := ⟨gb200, 2, none⟩) (Kd.V_far (p := ⟨gb200, 1, none⟩) (Kd.V_far (p := ⟨gb200, 0, none⟩) (Kd.V_mono HO206.out (fun k_ hk => (⟨hk, hk⟩ : _ ∧ k_ ≠ gb200))) (fun _ hk => hk.2) (.slice Ao89 t201.length co89)) (fun _ hk => hk.2) (.slice Ao91 t204.length co91)) (fun _ hk => hk.2) (.int .i64 t207)) (fun _ hk => hk.2) (.int .i64 t208)) (fun _ h_ => h_.1)))); (case side4 => exact (Kd.V_reads' HO206.out).2.1); rintro e w92 ⟨rfl, hb⟩; refine ⟨_, rfl, ?_⟩; have n0_ := aA (Kd.V_below (by (with_reducible repeat (first | apply Kd.V_alloc | apply Kd.V_drewN | apply Kd.V_drew)); exact (Kd.V_mono (Kd.V_far (p := ⟨gb200, 3, none⟩) (Kd.V_far (p := ⟨gb200, 2, none⟩) (Kd.V_far (p := ⟨gb200, 1, none⟩) (Kd.V_far (p := ⟨gb200, 0, none⟩) (Kd.V_mono HO203.out (fun k_ hk => (⟨hk, hk⟩ : _ ∧ k_ ≠ gb200))) (fun _ hk => hk.2) (.slice Ao89 t201.length co89)) (fun _ hk => hk.2) (.slice Ao91 t204.length co91)) (fun _ hk => hk.2) (.int .i64 t207)) (fun _ hk => hk.2) (.int .i64 t208)) (fun _ h_ => h_.1))) hb); have n1_ := aA (Kd.V_below (by (with_reducible repeat (first | apply Kd.V_alloc | apply Kd.V_drewN | apply Kd.V_drew)); exact (Kd.V_mono (Kd.V_far (p := ⟨gb200, 3, none⟩) (Kd.V_far (p := ⟨gb200, 2, none⟩) (Kd.V_far (p := ⟨gb200, 1, none⟩) (Kd.V_far (p := ⟨gb200, 0, none⟩) (Kd.V_mono HO206.out (fun k_ hk => (⟨hk, hk⟩ : _ ∧ k_ ≠ gb200))) (fun _ hk => hk.2) (.slice Ao89 t201.length co89)) (fun _ hk => hk.2) (.slice Ao91 t204.length co91)) (fun _ hk => hk.2) (.int .i64 t207)) (fun _ hk => hk.2) (.int .i64 t208)) (fun _ h_ => h_.1))) hb); have n2_ := aA (blk_below (g := gb200) (o := .cells #[.slice Ao89 t201.length co89, .slice Ao91 t204.length co91, .int .i64 t207, .int .i64 t208] 25 (0, 0)) (by (with_reducible repeat (first | refine blk_drewN ?_ _ | refine blk_drew ?_ | refine blk_alloc ?_ _)); have h_ := BK200.out; exact pK 3 (pK 2 (pK 1 (pK 0 (h_))))) hb); have n3_ := aA (below_step (mD1 GE200.out) hb); clear HO203 HO206 BK200 HB; have HO203 := n0_; have HO206 := n1_; have BK200 := n2_; have HB := n3_; clear n0_ n1_ n2_ n3_; (try clear hb); (try clear hb2); (try clear hk); (try clear hi); obtain ⟨hcz93_0, hcz93_1, hcz93_2, hcz93_3⟩ := bC4 BK200.out; obtain ⟨hfz93_0, hfz93_1, hfz93_2, hfz93_3⟩ := bF4 BK200.out) | ((with_reducible refine gate_callee (f := 8) rfl ?_); refine goesL_ (some 29) rfl rfl Tryz.func8 (by kernel_rfl) rfl #[.agg #[.slice Ao89 t201.length co89, .slice Ao91 t204.length co91, .int .i64 t207, .int .i64 t208], .int .i64 a1] rfl mS ?_; (with_reducible refine (bound_Alone.calls _ _ t201 _ _ t204 t207 t208 a1 t211 t212 _ ?side1 ?side2 ?side3 ?side4 A8.out).mono ?_); (case side1 => exact mC ((Kd.V_reads' HO203.out).2.2)); (case side2 => exact (Kd.V_reads' HO203.out).2.1); (case side3 => exact mC ((Kd.V_reads' HO206.out).2.2)); (case side4 => exact (Kd.V_reads' HO206.out).2.1); rintro e w94 ⟨rfl, hb⟩; refine ⟨_, rfl, ?_⟩; have n0_ := aA (Kd.V_below (by (with_reducible repeat (first | apply Kd.V_alloc | apply Kd.V_drewN | apply Kd.V_drew)); exact HO203.out) hb); have n1_ := aA (Kd.V_below (by (with_reducible repeat (first | apply Kd.V_alloc | apply Kd.V_drewN | apply Kd.V_drew)); exact HO206.out) hb); have n2_ := aA (bB BK200.out hb); have n3_ := aA (below_step (mD1 GE200.out) hb); clear HO203 HO206 BK200 HB; have HO203 := n0_; have HO206 := n1_; have BK200 := n2_; have HB := n3_; clear n0_ n1_ n2_ n3_; (try clear hb); (try clear hb2); (try clear hk); (try clear hi); obtain ⟨hcz95_0, hcz95_1, hcz95_2, hcz95_3⟩ := bC4 BK200.out; obtain ⟨hfz95_0, hfz95_1, hfz95_2, hfz95_3⟩ := bF4 BK200.out) | ((with_reducible refine gate_callee (f := 9) rfl ?_); refine goesL_ (some 36) rfl rfl Tryz.func9 (by kernel_rfl) rfl #[.agg #[.slice Ao89 t201.length co89, .slice Ao91 t204.length co91, .int .i64 t207, .int .i64 t208], .int .i64 a2, .int .i64 a3] rfl mS ?_; (with_reducible refine (bound_Many.calls _ _ t201 _ _ t204 t207 t208 a2 a3 t213 t214 _ ?side1 ?side2 ?side3 ?side4 A9.out).mono ?_); (case side1 => exact mC ((Kd.V_reads' HO203.out).2.2)); (case side2 => exact (Kd.V_reads' HO203.out).2.1); (case side3 => exact mC ((Kd.V_reads' HO206.out).2.2)); (case side4 => exact (Kd.V_reads' HO206.out).2.1); rintro e w96 ⟨rfl, hb⟩; refine ⟨_, rfl, ?_⟩; have n0_ := aA (Kd.V_below (by (with_reducible repeat (first | apply Kd.V_alloc | apply Kd.V_drewN | apply Kd.V_drew)); exact HO203.out) hb); have n1_ := aA (Kd.V_below (by (with_reducible repeat (first | apply Kd.V_alloc | apply Kd.V_drewN | apply Kd.V_drew)); exact HO206.out) hb); have n2_ := aA (bB BK200.out hb); have n3_ := aA (below_step (mD1 GE200.out) hb); clear HO203 HO206 BK200 HB; have HO203 := n0_; have HO206 := n1_; have BK200 := n2_; have HB := n3_; clear n0_ n1_ n2_ n3_; (try clear hb); (try clear hb2); (try clear hk); (try clear hi); obtain ⟨hcz97_0, hcz97_1, hcz97_2, hcz97_3⟩ := bC4 BK200.out; obtain ⟨hfz97_0, hfz97_1, hfz97_2, hfz97_3⟩ := bF4 BK200.out) | ((with_reducible refine gate_callee (f := 10) rfl ?_); refine goesL_ (some 42) rfl rfl Tryz.func10 (by kernel_rfl) rfl #[.agg #[.slice Ao89 t201.length co89, .slice Ao91 t204.length co91, .int .i64 t207, .int .i64 t208], .int .i64 a4] rfl mS ?_; (with_reducible refine (bound_Life.calls _ _ t201 _ _ t204 t207 t208 a4 t215 t216 _ ?side1 ?side2 ?side3 ?side4 A10.out).mono ?_); (case side1 => exact mC ((Kd.V_reads' HO203.out).2.2)); (case side2 => exact (Kd.V_reads' HO203.out).2.1); (case side3 => exact mC ((Kd.V_reads' HO206.out).2.2)); (case side4 => exact (Kd.V_reads' HO206.out).2.1); rintro e w98 ⟨rfl, hb⟩; refine ⟨_, rfl, ?_⟩; have n0_ := aA (Kd.V_below (by (with_reducible repeat (first | apply Kd.V_alloc | apply Kd.V_drewN | apply Kd.V_drew)); exact HO203.out) hb); have n1_ := aA (Kd.V_below (by (with_reducible repeat (first | apply Kd.V_alloc | apply Kd.V_drewN | apply Kd.V_drew)); exact HO206.out) hb); have n2_ := aA (bB BK200.out hb); have n3_ := aA (below_step (mD1 GE200.out) hb); clear HO203 HO206 BK200 HB; have HO203 := n0_; have HO206 := n1_; have BK200 := n2_; have HB := n3_; clear n0_ n1_ n2_ n3_; (try clear hb); (try clear hb2); (try clear hk); (try clear hi); obtain ⟨hcz99_0, hcz99_1, hcz99_2, hcz99_3⟩ := bC4 BK200.out; obtain ⟨hfz99_0, hfz99_1, hfz99_2, hfz99_3⟩ := bF4 BK200.out) | ((with_reducible refine gate_callee (f := 11) rfl ?_); refine goesL_ (some 46) rfl rfl Tryz.func11 (by kernel_rfl) rfl #[.agg #[.slice Ao89 t201.length co89, .slice Ao91 t204.length co91, .int .i64 t207, .int .i64 t208]] rfl mS ?_; (with_reducible refine (foghornref13_Right.calls k _ _ t201 _ _ t204 t207 t208 false _ ?side1 ?side2 ?side3 ?side4 A11.out).mono ?_); (case side1 => exact mC ((Kd.V_reads' HO203.out).2.2)); (case side2 => exact (Kd.V_reads' HO203.out).2.1); (case side3 => exact mC ((Kd.V_reads' HO206.out).2.2)); (case side4 => exact (Kd.V_reads' HO206.out).2.1); rintro e w100 ⟨rfl, hb⟩; refine ⟨_, rfl, ?_⟩; have n0_ := aA (Kd.V_below (by (with_reducible repeat (first | apply Kd.V_alloc | apply Kd.V_drewN | apply Kd.V_drew)); exact HO203.out) hb); have n1_ := aA (Kd.V_below (by (with_reducible repeat (first | apply Kd.V_alloc | apply Kd.V_drewN | apply Kd.V_drew)); exact HO206.out) hb); have n2_ := aA (bB BK200.out hb); have n3_ := aA (below_step (mD1 GE200.out) hb); clear HO203 HO206 BK200 HB; have HO203 := n0_; have HO206 := n1_; have BK200 := n2_; have HB := n3_; clear n0_ n1_ n2_ n3_; (try clear hb); (try clear hb2); (try clear hk); (try clear hi)) | ((with_reducible refine gate_callee (f := 12) rfl ?_); refine goesL_ (some 48) rfl rfl Tryz.func12 (by kernel_rfl) rfl #[] rfl mS ?_; (with_reducible refine (foghornlaw24_alive.calls  true _ ?side1 A77.out).mono ?_); (case side1 => exact gok_below HG.out (mD1 GE200.out)); rintro e w101 ⟨rfl, hb⟩; refine ⟨_, rfl, ?_⟩; have n0_ := aA (Kd.V_below (by (with_reducible repeat (first | apply Kd.V_alloc | apply Kd.V_drewN | apply Kd.V_drew)); exact HO203.out) hb); have n1_ := aA (Kd.V_below (by (with_reducible repeat (first | apply Kd.V_alloc | apply Kd.V_drewN | apply Kd.V_drew)); exact HO206.out) hb); have n2_ := aA (bB BK200.out hb); have n3_ := aA (below_step (mD1 GE200.out) hb); clear HO203 HO206 BK200 HB; have HO203 := n0_; have HO206 := n1_; have BK200 := n2_; have HB := n3_; clear n0_ n1_ n2_ n3_; (try clear hb); (try clear hb2); (try clear hk); (try clear hi)))
          go_ret
          exact ⟨by first | rfl | (simp [errW_none, errW_some] <;> rfl) | (simp [*, errW_none, errW_some] <;> rfl), by repeat (first | (with_reducible first | exact HB.out | apply below_alloc | apply pw_below_drewN | apply below_drew1 | refine below_set ?_ GE200.out) | exact HB.out)⟩
         ·rw [if_neg c85] at H
          have c85b0 : (t213 == 0) = false := beq_eq_false_iff_ne.mpr c85
          have c85b1 : (t213 != 0) = true := bne_iff_ne.mpr c85
          exact absurd (Option.some.inj H) (by rw [hrt_]; decide)
        ·rw [if_neg c84] at H
         have c84b0 : (t211 == 0) = false := beq_eq_false_iff_ne.mpr c84
         have c84b1 : (t211 != 0) = true := bne_iff_ne.mpr c84
         exact absurd (Option.some.inj H) (by rw [hrt_]; decide)
       ·rw [if_neg c83] at H
        have c83b0 : (t209 == 0) = false := beq_eq_false_iff_ne.mpr c83
        have c83b1 : (t209 != 0) = true := bne_iff_ne.mpr c83
        exact absurd (Option.some.inj H) (by rw [hrt_]; decide)
      ·rw [if_neg c82] at H
       have c82b0 : (t216 == 1) = false := beq_eq_false_iff_ne.mpr c82
       have c82b1 : (t216 != 1) = true := bne_iff_ne.mpr c82
       exact absurd (Option.some.inj H) (by rw [hrt_]; decide)
     ·rw [if_neg c81] at H
      have c81b0 : (t214 == 1) = false := beq_eq_false_iff_ne.mpr c81
      have c81b1 : (t214 != 1) = true := bne_iff_ne.mpr c81
      exact absurd (Option.some.inj H) (by rw [hrt_]; decide)
    ·rw [if_neg c80] at H
     have c80b0 : (t212 == 1) = false := beq_eq_false_iff_ne.mpr c80
     have c80b1 : (t212 != 1) = true := bne_iff_ne.mpr c80
     exact absurd (Option.some.inj H) (by rw [hrt_]; decide)
   ·rw [if_neg c79] at H
    have c79b0 : (t210 == 1) = false := beq_eq_false_iff_ne.mpr c79
    have c79b1 : (t210 != 1) = true := bne_iff_ne.mpr c79
    exact absurd (Option.some.inj H) (by rw [hrt_]; decide)
  ·replace c78 := Bool.eq_false_iff.mpr c78
   subst c78
   have H1 : (some false) = some r := by rw [if_neg (show ¬ (false = true) by decide)] at H; exact H
   clear H
   have H := H1
   clear H1
   exact absurd (Option.some.inj H) (by rw [hrt_]; decide)
end Go.Proofs.YtejdpjmfnpbadaaGreatDoorQ.P
namespace Go.Proofs.YtejdpjmfnpbadaaGreatDoorQ.P
open Go.RowKit Go.Proofs.YtejdpjmfnpbadaaGreatDoorW.PrintWords Go.Proofs.YtejdpjmfnpbadaaGreatDoorW.PrintLast Go.Proofs.YtejdpjmfnpbadaaGreatDoorW.PrintMore Go.Proofs.YtejdpjmfnpbadaaGreatDoor
theorem name_l (s : ByteArray) (hs : s.size ≤ 9223372036854775807) (d : Nat) : ∀ (k i : Nat), i + d = s.data.toList.length → d < k → (s.data.toList.take i).all azB = true → foghornref10_Name.l0 k s (i : Int) = some (nameB s) := by
  have hl := len_data s
  induction d with
  | zero =>
    intro k i hi hk ha
    obtain ⟨k, rfl⟩ : ∃ q, k = q + 1 := ⟨k - 1, by omega⟩
    rw [List.take_of_length_le (by omega)] at ha
    rw [foghornref10_Name.l0, if_neg (by omega)]
    unfold nameB
    rw [ha, Bool.true_and]
    split
    · rw [decide_eq_true (p := 1 ≤ s.size) (by omega), Bool.true_and]
      congr 1
      exact decide_eq_decide.2 (by omega)
    · rw [decide_eq_false (p := 1 ≤ s.size) (by omega), Bool.false_and]
  | succ d ih =>
    intro k i hi hk ha
    obtain ⟨k, rfl⟩ : ∃ q, k = q + 1 := ⟨k - 1, by omega⟩
    have hlt : i < s.data.toList.length := by omega
    rw [foghornref10_Name.l0, if_pos (by omega), if_pos (by omega), bt_list hlt]
    have bad : azB (s.data.toList[i]) = false → nameB s = false := by
      intro h
      unfold nameB
      rw [all_no hlt h]
      rfl
    split
    · rw [bad (az_no (by omega))]
    · split
      · rw [bad (az_no (by omega))]
      · rw [w64s (by omega)]
        exact ih k (i + 1) (by omega) (by omega) (all_yes hlt ha (az_yes (by omega)))
theorem name_fb {s : ByteArray} (hs : s.size ≤ 9223372036854775807) {k : Nat} (hk : s.size < k) : foghornref10_Name.f k s = some (nameB s) :=
  name_l s hs s.data.toList.length k 0 (by omega) (by rw [len_data]; omega) (by simp)
end Go.Proofs.YtejdpjmfnpbadaaGreatDoorQ.P
namespace Go.Proofs.YtejdpjmfnpbadaaGreatDoorQ.P
open Go.RowKit Go.Proofs.YtejdpjmfnpbadaaGreatDoorW.PrintWords Go.Proofs.YtejdpjmfnpbadaaGreatDoorW.PrintLast Go.Proofs.YtejdpjmfnpbadaaGreatDoorW.PrintMore Go.Proofs.YtejdpjmfnpbadaaGreatDoor
theorem r06_f (a b c : Int) : foghornref06_Right.f a b c = some (rngB a 1 1048576 && rngB b a 1073741824 && rngB c 0 1048576) := by
  unfold foghornref06_Right.f rngB
  by_cases h1 : a ≥ 1
  · by_cases h2 : a ≤ 1048576
    · by_cases h3 : b ≥ a
      · by_cases h4 : b ≤ 1073741824
        · by_cases h5 : c ≥ 0
          · rw [if_pos h1, if_pos h2, if_pos h3, if_pos h4, if_pos h5, decide_eq_true (show 1 ≤ a from h1), decide_eq_true h2, decide_eq_true (show a ≤ b from h3), decide_eq_true h4, decide_eq_true (show 0 ≤ c from h5)]
            rfl
          · rw [if_pos h1, if_pos h2, if_pos h3, if_pos h4, if_neg h5, decide_eq_false (show ¬ 0 ≤ c from h5)]
            simp
        · rw [if_pos h1, if_pos h2, if_pos h3, if_neg h4, decide_eq_false h4]
          simp
      · rw [if_pos h1, if_pos h2, if_neg h3, decide_eq_false (show ¬ a ≤ b from h3)]
        simp
    · rw [if_pos h1, if_neg h2, decide_eq_false h2]
      simp
  · rw [if_neg h1, decide_eq_false (show ¬ 1 ≤ a from h1)]
    simp
theorem r07_f (k : Nat) (a b : Int) : foghornref07_Right.f (k + 1) a b 0 0 0 = some (rngB a 1 100 && rngB b 1 1048576) := by
  unfold foghornref07_Right.f rngB
  by_cases h1 : a < 1
  · rw [if_pos h1, foghornref07_Right.j0, if_pos rfl, decide_eq_false (show ¬ 1 ≤ a by omega)]
    simp
  by_cases h2 : a > 100
  · rw [if_neg h1, if_pos h2, foghornref07_Right.j0, if_pos rfl, decide_eq_false (show ¬ a ≤ 100 by omega)]
    simp
  by_cases h3 : b < 1
  · rw [if_neg h1, if_neg h2, if_pos h3, foghornref07_Right.j0, if_pos rfl, decide_eq_false (show ¬ 1 ≤ b by omega)]
    simp
  rw [if_neg h1, if_neg h2, if_neg h3, decide_eq_true (show 1 ≤ a by omega), decide_eq_true (show a ≤ 100 by omega), decide_eq_true (show 1 ≤ b by omega)]
  by_cases h4 : b ≤ 1048576
  · rw [decide_eq_false (show ¬ b > 1048576 by omega), decide_eq_true h4, foghornref07_Right.j0, if_neg (by simp), if_pos rfl, if_pos (by omega), if_pos (by omega)]
    rfl
  · rw [decide_eq_true (show b > 1048576 by omega), decide_eq_false h4, foghornref07_Right.j0, if_pos rfl]
    rfl
theorem r08_f (a b : Int) : foghornref08_Right.f a b 0 0 = some (rngB a 1 100 && rngB b 1 1048576) := by
  have h5 : foghornref05_Right.f 0 = some true := by decide
  unfold foghornref08_Right.f rngB
  by_cases h1 : a ≥ 1
  · by_cases h2 : a ≤ 100
    · by_cases h3 : b ≥ 1
      · by_cases h4 : b ≤ 1048576
        · rw [if_pos h1, if_pos h2, if_pos h3, if_pos h4, if_pos (by omega), if_pos (by omega), h5, decide_eq_true (show 1 ≤ a from h1), decide_eq_true h2, decide_eq_true (show 1 ≤ b from h3), decide_eq_true h4]
          rfl
        · rw [if_pos h1, if_pos h2, if_pos h3, if_neg h4, decide_eq_false h4]
          simp
      · rw [if_pos h1, if_pos h2, if_neg h3, decide_eq_false (show ¬ 1 ≤ b from h3)]
        simp
    · rw [if_pos h1, if_neg h2, decide_eq_false h2]
      simp
  · rw [if_neg h1, decide_eq_false (show ¬ 1 ≤ a from h1)]
    simp
theorem rrcv_f {x : Rcv} {k : Nat} (h : x.name.size ≤ maxLen) (hk : x.name.size < k) : foghornref13_receiver.f k x.name x.base x.top x.jit x.tries x.fails x.opn x.burst x.every = some (rcvB x) := by
  unfold maxLen at h
  obtain ⟨k, rfl⟩ : ∃ q, k = q + 1 := ⟨k - 1, by omega⟩
  unfold foghornref13_receiver.f
  rw [name_fb (by omega) hk, Option.bind_some]
  unfold rcvB
  cases nameB x.name
  · simp
  rw [if_pos rfl]
  by_cases hn : x.name.data.toList = ifT
  · rw [if_pos (by rw [ByteArray.toList_eq]; exact hn), decide_eq_false (by simpa using hn)]
    simp
  rw [if_neg (by rw [ByteArray.toList_eq]; exact hn), decide_eq_true (by simpa using hn), r06_f, Option.bind_some]
  cases (rngB x.base 1 1048576 && rngB x.top x.base 1073741824 && rngB x.jit 0 1048576)
  · simp
  rw [if_pos rfl]
  by_cases t1 : x.tries ≥ 1
  · by_cases t2 : x.tries ≤ 100
    · rw [if_pos t1, if_pos t2, r07_f, Option.bind_some, r08_f]
      have e : rngB x.tries 1 100 = true := by unfold rngB; rw [decide_eq_true (show 1 ≤ x.tries from t1), decide_eq_true t2]; rfl
      rw [e]
      cases (rngB x.fails 1 100 && rngB x.opn 1 1048576) <;> cases (rngB x.burst 1 100 && rngB x.every 1 1048576) <;> simp
    · have e : rngB x.tries 1 100 = false := by unfold rngB; rw [decide_eq_false t2, Bool.and_false]
      rw [if_pos t1, if_neg t2, e]
      simp
  · have e : rngB x.tries 1 100 = false := by unfold rngB; rw [decide_eq_false (show ¬ 1 ≤ x.tries from t1), Bool.false_and]
    rw [if_neg t1, e]
    simp
theorem rdR {l : List S41} {i : Nat} (h : i < l.length) : rd_T41 l (i : Int) = l[i] := getD_cast h
theorem rplace_l (n : ByteArray) (l : List S41) (hl : l.length ≤ 9223372036854775807) (d : Nat) : ∀ (k i : Nat), i + d = l.length → d < k → (∀ j (h : j < l.length), j < i → namedB n (toRcv l[j]) = false) → foghornref13_place.l0 k n l (l.length : Int) (i : Int) = some (placeL (l.map toRcv) n) := by
  induction d with
  | zero =>
    intro k i hi hk ha
    obtain ⟨k, rfl⟩ : ∃ q, k = q + 1 := ⟨k - 1, by omega⟩
    rw [foghornref13_place.l0, if_neg (by omega)]
    unfold placeL
    rw [idxOf_none fun j hj => by rw [List.getElem_map]; exact ha j (by simpa using hj) (by simp at hj; omega)]
  | succ d ih =>
    intro k i hi hk ha
    obtain ⟨k, rfl⟩ : ∃ q, k = q + 1 := ⟨k - 1, by omega⟩
    have hlt : i < l.length := by omega
    rw [foghornref13_place.l0, if_pos (by omega), if_pos (by omega), if_pos (by omega), rdR hlt]
    by_cases hn : l[i].f0.toList = n.toList
    · rw [if_pos hn]
      unfold placeL
      rw [idxOf_found (i := i) (by simpa using hlt) (by rw [List.getElem_map]; unfold namedB; exact beq_iff_eq.2 hn) fun j hj => by rw [List.getElem_map]; exact ha j (by omega) hj]
    · rw [if_neg hn, w64s (by omega)]
      refine ih k (i + 1) (by omega) (by omega) fun j h hj => ?_
      rcases Nat.lt_succ_iff_lt_or_eq.1 hj with g | rfl
      · exact ha j h g
      · exact beq_eq_false_iff_ne.2 hn
theorem rplace_f {l : List S41} (n : ByteArray) (hl : l.length ≤ 9223372036854775807) {k : Nat} (hk : l.length < k) : foghornref13_place.f k l n = some (placeL (l.map toRcv) n) := by
  unfold foghornref13_place.f
  exact rplace_l n l hl l.length k 0 (by omega) hk (fun j h hj => by omega)
end Go.Proofs.YtejdpjmfnpbadaaGreatDoorQ.P
namespace Go.Proofs.YtejdpjmfnpbadaaGreatDoorQ.P
open Go.RowKit Go.Proofs.YtejdpjmfnpbadaaGreatDoorW.PrintWords Go.Proofs.YtejdpjmfnpbadaaGreatDoorW.PrintLast Go.Proofs.YtejdpjmfnpbadaaGreatDoorW.PrintMore Go.Proofs.YtejdpjmfnpbadaaGreatDoor
theorem rdI {l : List Int} {i : Nat} (h : i < l.length) : rd l (i : Int) = l[i] := getD_cast h
section
variable {n : Int} {c : List Int} {a : List S173}
theorem rroute_in (v : Int) (i : Nat) (L : Int) (t : List Int) (hl : t.length ≤ 9223372036854775807) (e : Nat) : ∀ (k j : Nat), j + e = t.length → e < k → (∀ q (h : q < t.length), q < j → t[q] ≠ v) →
    (v ∈ t ∧ foghornref13_route.l1 k n v c L (i : Int) t (t.length : Int) (j : Int) c a = some false) ∨ (v ∉ t ∧ foghornref13_route.l1 k n v c L (i : Int) t (t.length : Int) (j : Int) c a = foghornref13_route.l0 (k - e - 1) n c L (wrap64 ((i : Int) + 1)) c a) := by
  induction e with
  | zero =>
    intro k j hj hk ha
    obtain ⟨k, rfl⟩ : ∃ q, k = q + 1 := ⟨k - 1, by omega⟩
    refine .inr ⟨fun h => ?_, ?_⟩
    · obtain ⟨q, hq, he⟩ := List.mem_iff_getElem.1 h
      exact ha q hq (by omega) he
    · rw [foghornref13_route.l1, if_neg (by omega)]
      rfl
  | succ e ih =>
    intro k j hj hk ha
    obtain ⟨k, rfl⟩ : ∃ q, k = q + 1 := ⟨k - 1, by omega⟩
    have hlt : j < t.length := by omega
    rw [foghornref13_route.l1, if_pos (by omega), if_pos (by omega), if_pos (by omega), rdI hlt]
    by_cases he : t[j] = v
    · exact .inl ⟨he ▸ List.getElem_mem hlt, if_pos he⟩
    · rw [if_neg he, w64s (by omega)]
      have := ih k (j + 1) (by omega) (by omega) fun q h hq => by
        rcases Nat.lt_succ_iff_lt_or_eq.1 hq with g | rfl
        · exact ha q h g
        · exact he
      rw [show k + 1 - (e + 1) - 1 = k - e - 1 by omega]
      exact this
theorem rte_true {x : Rte} {n : Int} (h : chainB n [] x.chain = true) : rteB x n = (decide (1 ≤ x.chain.length) && decide (x.chain.length ≤ 4) && matsB x.asked) := by
  unfold rteB matsB
  rw [h, Bool.true_and, Bool.and_assoc]
theorem rroute_l (hl : c.length ≤ 9223372036854775807) (hm : matsOkB a = true) (d : Nat) : ∀ (k i : Nat), i + d = c.length → (d + 1) * (c.length + 3) < k → (∀ j (h : j < c.length), j < i → c[j] ∉ c.take j ∧ 0 ≤ c[j] ∧ c[j] < n) →
    foghornref13_route.l0 k n c (c.length : Int) (i : Int) c a = some (rteB ⟨c, a.map toMat⟩ n) := by
  induction d with
  | zero =>
    intro k i hi hk ha
    obtain ⟨k, rfl⟩ : ∃ q, k = q + 1 := ⟨k - 1, by omega⟩
    have hc : chainB n [] c = true := chainB_of c [] fun j h => by rw [List.nil_append]; exact ha j h (by omega)
    rw [foghornref13_route.l0, if_neg (by omega), rte_true hc]
    dsimp only
    by_cases h1 : 1 ≤ c.length
    · by_cases h2 : c.length ≤ 4
      · rw [if_pos (by omega), if_pos (by omega), decide_eq_true h1, decide_eq_true h2]
        unfold foghornref10_Matchers.f
        rw [if_pos hm]
        rfl
      · rw [if_pos (by omega), if_neg (by omega), decide_eq_false h2, Bool.and_false, Bool.false_and]
    · rw [if_neg (by omega), decide_eq_false h1, Bool.false_and, Bool.false_and]
  | succ d ih =>
    intro k i hi hk ha
    have hk2 : (d + 1) * (c.length + 3) + (c.length + 3) < k := by
      rw [Nat.succ_mul (d + 1)] at hk
      exact hk
    obtain ⟨k, rfl⟩ : ∃ q, k = q + 2 := ⟨k - 2, by omega⟩
    have hlt : i < c.length := by omega
    rw [foghornref13_route.l0, if_pos (by omega), if_pos (by omega), if_pos (by omega), rdI hlt]
    by_cases hneg : c[i] < 0
    · rw [if_pos hneg, foghornref13_route.j1, if_pos rfl, ← rte_bad (x := ⟨c, a.map toMat⟩) (chain_bad hlt (.inr (.inl hneg)))]
    rw [if_neg hneg]
    by_cases hge : n ≤ c[i]
    · rw [decide_eq_true (show c[i] ≥ n from hge), foghornref13_route.j1, if_pos rfl, ← rte_bad (x := ⟨c, a.map toMat⟩) (chain_bad hlt (.inr (.inr hge)))]
    rw [decide_eq_false (show ¬ c[i] ≥ n from hge), foghornref13_route.j1, if_neg (by simp), if_pos (by omega), if_pos (by omega), Int.toNat_natCast]
    have htl : (c.take i).length = i := by rw [List.length_take]; omega
    rcases rroute_in (n := n) (c := c) (a := a) c[i] i (c.length : Int) (c.take i) (by omega) i k 0 (by omega) (by omega) (fun q h hq => by omega) with ⟨hin, e⟩ | ⟨hin, e⟩
    · refine e.trans ?_
      rw [← rte_bad (x := ⟨c, a.map toMat⟩) (chain_bad hlt (.inl hin))]
    · refine e.trans ?_
      rw [w64s (by omega)]
      refine ih (k - i - 1) (i + 1) (by omega) (by omega) fun j h hj => ?_
      rcases Nat.lt_succ_iff_lt_or_eq.1 hj with g | rfl
      · exact ha j h g
      · exact ⟨hin, by omega, by omega⟩
theorem rroute_f (hl : c.length ≤ 9223372036854775807) (hm : matsOkB a = true) {k : Nat} (hk : (c.length + 1) * (c.length + 3) < k) : foghornref13_route.f k c a n = some (rteB ⟨c, a.map toMat⟩ n) := by
  unfold foghornref13_route.f
  exact rroute_l hl hm c.length k 0 (by omega) hk (fun j h hj => by omega)
end
theorem roften_f (a : Int) : foghornref13_often.f a = some (oftenB a) := by
  unfold foghornref13_often.f oftenB rngB
  by_cases h1 : a ≥ 1
  · rw [if_pos h1, decide_eq_true (show 1 ≤ a from h1), Bool.true_and]
  · rw [if_neg h1, decide_eq_false (show ¬ 1 ≤ a from h1), Bool.false_and]
section
variable {l0 : List S41} {l1 : List S46} {a2 a3 : Int}
def tailB (n m : Nat) (a2 a3 : Int) : Bool := (decide (1 ≤ n) && decide (n ≤ 4) && decide (1 ≤ m) && decide (m ≤ 4)) && oftenB a2 && oftenB a3
theorem rright_l1 (hl1 : l1.length ≤ 9223372036854775807) (hs : ∀ t ∈ l1, t.f0.length ≤ 9223372036854775807 ∧ matsOkB t.f1 = true) (d : Nat) : ∀ (k i : Nat), i + d = l1.length → (∀ t ∈ l1, (t.f0.length + 1) * (t.f0.length + 3) + d + 1 < k) → 1 ≤ k →
    foghornref13_Right.l1 k l1 (l1.length : Int) (i : Int) l0 l1 a2 a3 = some ((l1.drop i).all (fun t => rteB (toRte t) (l0.length : Int)) && tailB l0.length l1.length a2 a3) := by
  induction d with
  | zero =>
    intro k i hi hk hk1
    obtain ⟨k, rfl⟩ : ∃ q, k = q + 1 := ⟨k - 1, by omega⟩
    rw [foghornref13_Right.l1, if_neg (by omega), drop_end (by omega)]
    unfold tailB
    rw [List.all_nil, Bool.true_and]
    by_cases h1 : 1 ≤ l0.length
    · by_cases h2 : l0.length ≤ 4
      · by_cases h3 : 1 ≤ l1.length
        · by_cases h4 : l1.length ≤ 4
          · rw [if_pos (by omega), if_pos (by omega), if_pos (by omega), if_pos (by omega), roften_f, Option.bind_some, roften_f, decide_eq_true h1, decide_eq_true h2, decide_eq_true h3, decide_eq_true h4]
            cases oftenB a2 <;> simp
          · rw [if_pos (by omega), if_pos (by omega), if_pos (by omega), if_neg (by omega), decide_eq_false h4]
            simp
        · rw [if_pos (by omega), if_pos (by omega), if_neg (by omega), decide_eq_false h3]
          simp
      · rw [if_pos (by omega), if_neg (by omega), decide_eq_false h2]
        simp
    · rw [if_neg (by omega), decide_eq_false h1]
      simp
  | succ d ih =>
    intro k i hi hk hk1
    obtain ⟨k, rfl⟩ : ∃ q, k = q + 1 := ⟨k - 1, by omega⟩
    have hlt : i < l1.length := by omega
    have hr : rd_T46 l1 (i : Int) = l1[i] := getD_cast hlt
    have hh := hk l1[i] (List.getElem_mem hlt)
    have hz := hs l1[i] (List.getElem_mem hlt)
    rw [foghornref13_Right.l1, if_pos (by omega), if_pos (by omega), if_pos (by omega), hr, rroute_f hz.1 hz.2 (by omega), Option.bind_some, drop_cons hlt, List.all_cons]
    have e : rteB (toRte l1[i]) (l0.length : Int) = rteB ⟨l1[i].f0, l1[i].f1.map toMat⟩ (l0.length : Int) := rfl
    rw [e]
    cases rteB ⟨l1[i].f0, l1[i].f1.map toMat⟩ (l0.length : Int)
    · rfl
    · rw [if_pos rfl, w64s (by omega), Bool.true_and]
      exact ih k (i + 1) (by omega) (fun t ht => by have := hk t ht; omega) (by omega)
theorem rright_l0 (hl0 : l0.length ≤ 9223372036854775807) (hl1 : l1.length ≤ 9223372036854775807) (hz : ∀ x ∈ l0, x.f0.size ≤ maxLen) (hs : ∀ t ∈ l1, t.f0.length ≤ 9223372036854775807 ∧ matsOkB t.f1 = true) (d : Nat) : ∀ (k i : Nat), i + d = l0.length →
    (∀ x ∈ l0, x.f0.size + d + 1 < k) → (∀ t ∈ l1, (t.f0.length + 1) * (t.f0.length + 3) + l1.length + d + 2 < k) → l0.length + l1.length + d + 2 < k →
    foghornref13_Right.l0 k l0 (l0.length : Int) (i : Int) l0 l1 a2 a3 = some (rcvsB ((l0.map toRcv).take i) ((l0.map toRcv).drop i) && (l1.all (fun t => rteB (toRte t) (l0.length : Int)) && tailB l0.length l1.length a2 a3)) := by
  induction d with
  | zero =>
    intro k i hi hk hk1 hk2
    obtain ⟨k, rfl⟩ : ∃ q, k = q + 1 := ⟨k - 1, by omega⟩
    rw [foghornref13_Right.l0, if_neg (by omega), drop_end (xs := l0.map toRcv) (by rw [List.length_map]; omega)]
    have := rright_l1 (l0 := l0) (a2 := a2) (a3 := a3) hl1 hs l1.length k 0 (by omega) (fun t ht => by have := hk1 t ht; omega) (by omega)
    rw [List.drop_zero] at this
    refine this.trans ?_
    rfl
  | succ d ih =>
    intro k i hi hk hk1 hk2
    obtain ⟨k, rfl⟩ : ∃ q, k = q + 1 := ⟨k - 1, by omega⟩
    have hlt : i < l0.length := by omega
    have hlt' : i < (l0.map toRcv).length := by rw [List.length_map]; exact hlt
    have hh := hk l0[i] (List.getElem_mem hlt)
    have e1 : (l0.map toRcv)[i] = toRcv l0[i] := List.getElem_map _
    have hrc := rrcv_f (x := toRcv l0[i]) (k := k) (hz _ (List.getElem_mem hlt)) (by show l0[i].f0.size < k; omega)
    have htl : (l0.take i).length = i := by rw [List.length_take]; omega
    rw [foghornref13_Right.l0, if_pos (by omega), if_pos (by omega), if_pos (by omega), rdR hlt]
    refine (congrArg (fun o => Option.bind o _) hrc).trans ?_
    rw [Option.bind_some, drop_cons hlt', e1]
    have e2 : rcvsB ((l0.map toRcv).take i) (toRcv l0[i] :: (l0.map toRcv).drop (i + 1)) = (rcvB (toRcv l0[i]) && decide (placeL ((l0.map toRcv).take i) (toRcv l0[i]).name < 0) && rcvsB ((l0.map toRcv).take i ++ [toRcv l0[i]]) ((l0.map toRcv).drop (i + 1))) := rfl
    rw [e2]
    cases rcvB (toRcv l0[i])
    · rfl
    rw [if_pos rfl, if_pos (by omega), Int.toNat_natCast, rplace_f _ (by omega) (by omega), Option.bind_some, List.map_take]
    have e3 : (toRcv l0[i]).name = l0[i].f0 := rfl
    rw [e3]
    by_cases hp : placeL ((l0.map toRcv).take i) l0[i].f0 ≥ 0
    · rw [if_pos hp, decide_eq_false (by omega)]
      rfl
    · rw [if_neg hp, decide_eq_true (by omega), w64s (by omega), ih k (i + 1) (by omega) (fun x hx => by have := hk x hx; omega) (fun t ht => by have := hk1 t ht; omega) (by omega)]
      rw [List.take_succ_eq_append_getElem hlt', e1]
      rfl
def rndR (l0 : List S41) (l1 : List S46) : Nat :=
  (l0.map fun x => x.f0.size).sum + (l1.map fun t => (t.f0.length + 1) * (t.f0.length + 3)).sum + 3 * l0.length + 3 * l1.length + 10
theorem not_any {α : Type} (p : α → Bool) : ∀ l : List α, (!l.any fun x => !p x) = l.all p := by
  intro l
  induction l with
  | nil => rfl
  | cons x l ih =>
    rw [List.any_cons, List.all_cons, ← ih]
    cases p x <;> rfl
theorem le_sum {α : Type} (f : α → Nat) : ∀ {l : List α} {x : α}, x ∈ l → f x ≤ (l.map f).sum := by
  intro l
  induction l with
  | nil => intro x h; cases h
  | cons y l ih =>
    intro x h
    rw [List.map_cons, List.sum_cons]
    rcases List.mem_cons.1 h with rfl | h
    · omega
    · have := ih h
      omega
theorem rright_f (hl0 : l0.length ≤ 9223372036854775807) (hl1 : l1.length ≤ 9223372036854775807) (hz : cfgSzB l0 l1 = true) {k : Nat} (hk : rndR l0 l1 ≤ k) : foghornref13_Right.f k l0 l1 a2 a3 = some (Cfg.okB ⟨l0.map toRcv, l1.map toRte, a2, a3⟩) := by
  unfold cfgSzB at hz
  rw [Bool.and_eq_true, List.all_eq_true, List.all_eq_true] at hz
  unfold rndR at hk
  have g0 : ∀ x ∈ l0, x.f0.size ≤ maxLen := fun x hx => by simpa using hz.1 x hx
  have g1 : ∀ t ∈ l1, t.f0.length ≤ 9223372036854775807 ∧ matsOkB t.f1 = true := fun t ht => by
    have := hz.2 t ht
    unfold rteSzB at this
    rw [Bool.and_eq_true, Bool.and_eq_true] at this
    exact ⟨by have := of_decide_eq_true this.1.2; unfold maxLen at this; omega, this.1.1⟩
  unfold foghornref13_Right.f
  have := rright_l0 (a2 := a2) (a3 := a3) hl0 hl1 g0 g1 l0.length k 0 (by omega) (fun x hx => by have := le_sum (fun x : S41 => x.f0.size) hx; omega) (fun t ht => by have := le_sum (fun t : S46 => (t.f0.length + 1) * (t.f0.length + 3)) ht; omega) (by omega)
  refine this.trans ?_
  congr 1
  rw [List.take_zero, List.drop_zero]
  unfold Cfg.okB tailB
  have e : (!(l1.map toRte).any fun t => !rteB t ((l0.map toRcv).length : Int)) = l1.all fun t => rteB (toRte t) (l0.length : Int) := by
    rw [List.length_map, List.any_map]
    exact not_any _ l1
  dsimp only
  rw [e, List.length_map, List.length_map]
  simp only [Bool.and_assoc]
end
end Go.Proofs.YtejdpjmfnpbadaaGreatDoorQ.P
namespace Go.Proofs.YtejdpjmfnpbadaaGreatDoorQ.P
open Go.RowKit Go.Proofs.YtejdpjmfnpbadaaGreatDoorW.PrintWords Go.Proofs.YtejdpjmfnpbadaaGreatDoorW.PrintLast Go.Proofs.YtejdpjmfnpbadaaGreatDoorW.PrintMore Go.Proofs.YtejdpjmfnpbadaaGreatDoor
def timesV (a b : Int) : Int := if a > 0 then (if b > (1099511627776 : Int) / a then 1099511627776 else a * b) else a * b
theorem times_in {a b : Int} (ha : 0 ≤ a) (ha' : a ≤ 1099511627776) (hb : 0 ≤ b) (hb' : b ≤ 1099511627776) : 0 ≤ timesV a b ∧ timesV a b ≤ 1099511627776 := by
  unfold timesV
  by_cases hp : a > 0
  · rw [if_pos hp]
    by_cases hq : b > (1099511627776 : Int) / a
    · rw [if_pos hq]; omega
    · rw [if_neg hq]
      have h1 := Int.mul_le_of_le_ediv hp (show b ≤ (1099511627776 : Int) / a by omega)
      rw [Int.mul_comm] at h1
      exact ⟨Int.mul_nonneg ha hb, h1⟩
  · rw [if_neg hp]
    have : a = 0 := by omega
    subst this
    rw [Int.zero_mul]
    omega
theorem times_g {a b : Int} (ha : 0 ≤ a) (ha' : a ≤ 1099511627776) (hb : 0 ≤ b) (hb' : b ≤ 1099511627776) : tick_Times.f a b = some (timesV a b, 0) ∧ foghornref05_Times.f a b = some (timesV a b) := by
  have hin := times_in ha ha' hb hb'
  unfold tick_Times.f foghornref05_Times.f
  rw [all2_f ha ha' hb hb', Option.bind_some, if_pos rfl]
  unfold timesV at hin ⊢
  by_cases hp : a > 0
  · have d0 : 0 ≤ (1099511627776 : Int) / a := Int.ediv_nonneg (by omega) ha
    have d1 : (1099511627776 : Int) / a ≤ 1099511627776 := Int.ediv_le_self _ (by omega)
    rw [if_pos hp] at hin ⊢
    rw [if_pos hp, if_pos hp, if_neg (show ¬ a = 0 by omega), if_neg (show ¬ a = 0 by omega), w64 (x := (1099511627776 : Int) / a) (by omega) (by omega)]
    by_cases hq : b > (1099511627776 : Int) / a
    · rw [if_pos hq, if_pos hq, if_pos hq]
      exact ⟨rfl, rfl⟩
    · rw [if_neg hq] at hin ⊢
      rw [if_neg hq, if_neg hq, w64 (x := a * b) (by omega) (by omega)]
      exact ⟨rfl, rfl⟩
  · rw [if_neg hp] at hin ⊢
    rw [if_neg hp, if_neg hp, w64 (x := a * b) (by omega) (by omega)]
    exact ⟨rfl, rfl⟩
def moreV (n s : Int) : Int := min (1 + timesV (min n 1099511627776) s) 1099511627776
theorem more_g {n s : Int} (h0 : 0 ≤ n) (s0 : 0 ≤ s) (s1 : s ≤ 1099511627776) : bound_after.f n s = some (moreV n s, 0) ∧ foghornref24_more.f n s = some (moreV n s) := by
  obtain ⟨t1, t2⟩ := times_g (a := min n 1099511627776) (b := s) (by omega) (by omega) s0 s1
  have hin := times_in (a := min n 1099511627776) (b := s) (by omega) (by omega) s0 s1
  unfold bound_after.f foghornref24_more.f foghornref05_Add.f moreV
  rw [mn_eq n, t1, t2, Option.bind_some, Option.bind_some]
  dsimp only
  rw [add_f (by omega) (by omega) hin.1 hin.2, Option.bind_some, Option.bind_some]
  dsimp only
  rw [w64 (by omega) (by omega), mn_eq]
  exact ⟨rfl, rfl⟩
section
variable {l0 : List S41} {l1 : List S46} {a2 a3 : Int}
theorem rstep_l (hl : l0.length ≤ 9223372036854775807) (hr : ∀ x ∈ l0, waitV (toRcv x) = x.f1.f1 + x.f1.f2 ∨ True) (d : Nat) : ∀ (k i : Nat) (o : Int), i + d = l0.length → d < k → o = mostL ((l0.take i).map toRcv) → foghornref24_Step.l0 k o l0 (l0.length : Int) (i : Int) = some (mostL (l0.map toRcv)) := by
  induction d with
  | zero =>
    intro k i o hi hk ho
    obtain ⟨k, rfl⟩ : ∃ q, k = q + 1 := ⟨k - 1, by omega⟩
    rw [foghornref24_Step.l0, if_neg (by omega), ho, List.take_of_length_le (by omega)]
  | succ d ih =>
    intro k i o hi hk ho
    obtain ⟨k, rfl⟩ : ∃ q, k = q + 1 := ⟨k - 1, by omega⟩
    have hlt : i < l0.length := by omega
    rw [foghornref24_Step.l0, if_pos (by omega), if_pos (by omega), if_pos (by omega), rd_rcv hlt, w64s (by omega)]
    refine ih k (i + 1) _ (by omega) (by omega) ?_
    rw [List.take_succ_eq_append_getElem hlt, List.map_append]
    show _ = mostL ((l0.take i).map toRcv ++ [toRcv l0[i]])
    rw [mostL_snoc, ← ho]
    have e : allR (toRcv l0[i]) = mx (mx (wrap64 (l0[i].f1.f1 + l0[i].f1.f2)) l0[i].f6) l0[i].f4 := rfl
    rw [e, mx_eq, mx_eq, mx_eq, mx_eq, mx_eq, mx_eq]
    omega
theorem rstep_f (hl : l0.length ≤ 100) {k : Nat} (hk : 100 < k) : foghornref24_Step.f k l0 l1 a2 a3 = some (mostL (l0.map toRcv)) := by
  unfold foghornref24_Step.f
  exact rstep_l (by omega) (fun _ _ => .inr trivial) l0.length k 0 0 (by omega) (by omega) rfl
theorem alone_g (hz : cfgSzB l0 l1 = true) (hok : Cfg.okB ⟨l0.map toRcv, l1.map toRte, a2, a3⟩ = true) {K : Int} (h1 : 1 ≤ K) (h2 : K ≤ 9223372036854775807) : bound_Alone.f l0 l1 a2 a3 K = some (moreV (K - 1) (mostL (l0.map toRcv)), 0) := by
  obtain ⟨m0, m1, _⟩ := most_bounds (ok_rcvs hok)
  unfold bound_Alone.f
  rw [step_f hz, Option.bind_some, hok]
  show (if (0 : Int) = 0 then (if K < 1 then some ((0 : Int), (3 : Int)) else (bound_after.f (wrap64 (K - 1)) (mostL (l0.map toRcv))).bind fun bt => some (bt.1, bt.2)) else _) = _
  rw [if_pos rfl, if_neg (by omega), w64 (by omega) (by omega), (more_g (by omega) m0 (by omega)).1]
  rfl
theorem alone_no (hz : cfgSzB l0 l1 = true) (hok : Cfg.okB ⟨l0.map toRcv, l1.map toRte, a2, a3⟩ = true) {K : Int} (h1 : K < 1) : bound_Alone.f l0 l1 a2 a3 K = some (0, 3) := by
  unfold bound_Alone.f
  rw [step_f hz, Option.bind_some, hok]
  show (if (0 : Int) = 0 then (if K < 1 then some ((0 : Int), (3 : Int)) else _) else _) = _
  rw [if_pos rfl, if_pos h1]
theorem ralone_g (hl : l0.length ≤ 100) (hok : Cfg.okB ⟨l0.map toRcv, l1.map toRte, a2, a3⟩ = true) {K : Int} (h1 : 1 ≤ K) (h2 : K ≤ 9223372036854775807) {k : Nat} (hk : 100 < k) : foghornref24_Alone.f k l0 l1 a2 a3 K = some (moreV (K - 1) (mostL (l0.map toRcv))) := by
  obtain ⟨m0, m1, _⟩ := most_bounds (ok_rcvs hok)
  unfold foghornref24_Alone.f
  rw [rstep_f hl hk, Option.bind_some, w64 (by omega) (by omega), (more_g (by omega) m0 (by omega)).2]
  rfl
theorem every_in (hok : Cfg.okB ⟨l0.map toRcv, l1.map toRte, a2, a3⟩ = true) {who : Nat} (hw : who < l0.length) : 0 ≤ l0[who].f6 ∧ l0[who].f6 ≤ 1048576 := by
  have hb := rcv_bounds (ok_rcvs hok (toRcv l0[who]) (List.mem_map_of_mem (List.getElem_mem hw)))
  have e : (toRcv l0[who]).every = l0[who].f6 := rfl
  omega
theorem many_g (hz : cfgSzB l0 l1 = true) (hok : Cfg.okB ⟨l0.map toRcv, l1.map toRte, a2, a3⟩ = true) {who : Nat} (hw : who < l0.length) {n : Int} (h1 : 1 ≤ n) (h2 : n ≤ 9223372036854775807) : bound_Many.f l0 l1 a2 a3 who n = some (moreV (n - 1) l0[who].f6, 0) ∧ foghornref24_Many.f l0 l1 a2 a3 who n = some (moreV (n - 1) l0[who].f6) := by
  have hb := every_in hok hw
  obtain ⟨g1, g2⟩ := more_g (n := n - 1) (s := l0[who].f6) (by omega) hb.1 (by omega)
  constructor
  · unfold bound_Many.f
    rw [right_f hz, Option.bind_some, hok, if_pos rfl, if_neg (by omega), if_neg (by omega), if_neg (by omega), if_pos (by omega), if_pos (by omega), rd_rcv hw, w64 (by omega) (by omega), g1]
    rfl
  · unfold foghornref24_Many.f
    rw [if_pos (by omega), if_pos (by omega), rd_rcv hw, w64 (by omega) (by omega), g2]
    rfl
theorem many_few (hz : cfgSzB l0 l1 = true) (hok : Cfg.okB ⟨l0.map toRcv, l1.map toRte, a2, a3⟩ = true) {who n : Int} (h0 : ¬ who < 0) (h1 : ¬ who ≥ (l0.length : Int)) (h2 : n < 1) : bound_Many.f l0 l1 a2 a3 who n = some (0, 3) := by
  unfold bound_Many.f
  rw [right_f hz, Option.bind_some, hok, if_pos rfl, if_neg h0, if_neg h1, if_pos h2]
theorem life_g (hz : cfgSzB l0 l1 = true) (hok : Cfg.okB ⟨l0.map toRcv, l1.map toRte, a2, a3⟩ = true) {off : Int} (h1 : 0 ≤ off) : bound_Life.f l0 l1 a2 a3 off = some (min (a3 + min off 1099511627776) 1099511627776, 0) ∧ foghornref24_Life.f l0 l1 a2 a3 off = some (min (a3 + min off 1099511627776) 1099511627776) := by
  have hb := rng_of (okB_parts hok).2.2.2.2.2.2.2
  dsimp only at hb
  constructor
  · unfold bound_Life.f
    rw [right_f hz, Option.bind_some, hok, if_pos rfl, if_neg (by omega), mn_eq, add_f (by omega) (by omega) (by omega) (by omega), Option.bind_some]
  · unfold foghornref24_Life.f foghornref05_Add.f
    rw [mn_eq off, w64 (by omega) (by omega), mn_eq, Option.bind_some]
theorem life_no (hz : cfgSzB l0 l1 = true) (hok : Cfg.okB ⟨l0.map toRcv, l1.map toRte, a2, a3⟩ = true) {off : Int} (h1 : off < 0) : bound_Life.f l0 l1 a2 a3 off = some (0, 3) := by
  unfold bound_Life.f
  rw [right_f hz, Option.bind_some, hok, if_pos rfl, if_pos h1]
theorem no_cfg (hz : cfgSzB l0 l1 = true) (hok : Cfg.okB ⟨l0.map toRcv, l1.map toRte, a2, a3⟩ = false) (K who n off : Int) : bound_Alone.f l0 l1 a2 a3 K = some (0, 1) ∧ bound_Many.f l0 l1 a2 a3 who n = some (0, 1) ∧ bound_Life.f l0 l1 a2 a3 off = some (0, 1) := by
  refine ⟨?_, ?_, ?_⟩
  · unfold bound_Alone.f
    rw [step_f hz, Option.bind_some, hok]
    rfl
  · unfold bound_Many.f
    rw [right_f hz, Option.bind_some, hok]
    rfl
  · unfold bound_Life.f
    rw [right_f hz, Option.bind_some, hok]
    rfl
theorem tells_life (hz : cfgSzB l0 l1 = true) (hok : Cfg.okB ⟨l0.map toRcv, l1.map toRte, a2, a3⟩ = true) (off : Int) : ∃ l g, bound_Life.f l0 l1 a2 a3 off = some (l, g) ∧ ∀ k, foghornlaw24_BoundTells.j3 (k + 1) off l g false l0 l1 a2 a3 = some true ∧ foghornlaw24_BoundTells.j4 (k + 1) off l g false l0 l1 a2 a3 = some true := by
  by_cases h : off < 0
  · refine ⟨0, 3, life_no hz hok h, fun k => ⟨?_, ?_⟩⟩
    · rw [foghornlaw24_BoundTells.j3, if_neg (by simp), if_pos h, if_pos rfl]
      rfl
    · rw [foghornlaw24_BoundTells.j4, if_neg (by simp), if_pos h, if_pos rfl]
      rfl
  · obtain ⟨g1, g2⟩ := life_g hz hok (off := off) (by omega)
    refine ⟨_, _, g1, fun k => ⟨?_, ?_⟩⟩
    · rw [foghornlaw24_BoundTells.j3, if_neg (by simp), if_neg h, if_pos rfl, g2, Option.bind_some]
      simp
    · rw [foghornlaw24_BoundTells.j4, if_neg (by simp), if_neg h, if_pos rfl, g2, Option.bind_some]
      simp
theorem tells_many (hz : cfgSzB l0 l1 = true) (hok : Cfg.okB ⟨l0.map toRcv, l1.map toRte, a2, a3⟩ = true) (who n off : Int) (hn : n ≤ 9223372036854775807) {l g : Int} (hj : ∀ k, foghornlaw24_BoundTells.j3 (k + 1) off l g false l0 l1 a2 a3 = some true ∧ foghornlaw24_BoundTells.j4 (k + 1) off l g false l0 l1 a2 a3 = some true) :
    ∃ b f, bound_Many.f l0 l1 a2 a3 who n = some (b, f) ∧ ∀ k, foghornlaw24_BoundTells.j1 (k + 3) who n off b f l g l0 l1 a2 a3 = some true := by
  by_cases h0 : who < 0
  · refine ⟨0, 3, many_no hz hok (.inl h0), fun k => ?_⟩
    rw [foghornlaw24_BoundTells.j1, if_pos h0, foghornlaw24_BoundTells.j2, if_pos rfl, if_pos rfl]
    exact (hj k).1
  by_cases h1 : who ≥ (l0.length : Int)
  · refine ⟨0, 3, many_no hz hok (.inr h1), fun k => ?_⟩
    rw [foghornlaw24_BoundTells.j1, if_neg h0, if_pos h1, foghornlaw24_BoundTells.j2, if_pos rfl, if_pos rfl]
    exact (hj k).1
  by_cases h2 : n < 1
  · refine ⟨0, 3, many_few hz hok h0 h1 h2, fun k => ?_⟩
    rw [foghornlaw24_BoundTells.j1, if_neg h0, if_neg h1, decide_eq_true h2, foghornlaw24_BoundTells.j2, if_pos rfl, if_pos rfl]
    exact (hj k).1
  · obtain ⟨q, rfl⟩ : ∃ q : Nat, who = q := ⟨who.toNat, by omega⟩
    obtain ⟨g1, g2⟩ := many_g hz hok (who := q) (by omega) (n := n) (by omega) hn
    refine ⟨_, _, g1, fun k => ?_⟩
    rw [foghornlaw24_BoundTells.j1, if_neg h0, if_neg h1, decide_eq_false h2, foghornlaw24_BoundTells.j2, if_neg (by simp), if_pos rfl, g2, Option.bind_some, bne_self_eq_false]
    exact (hj k).2
end
theorem boundTells_pure (l0 : List S41) (l1 : List S46) (a2 a3 b1 b2 b3 b4 : Int) (hz0 : cfgSzB l0 l1 = true) (h1 : b1 ≤ 9223372036854775807) (h3 : b3 ≤ 9223372036854775807) :
    foghornlaw24_BoundTells.f (rndR (l0.take 6) (l1.take 6) + 200) l0 l1 a2 a3 b1 b2 b3 b4 = some true := by
  have hz := sz_take hz0 6 6
  have hl : (l0.take 6).length ≤ 100 := by rw [List.length_take]; omega
  have hl1 : (l1.take 6).length ≤ 100 := by rw [List.length_take]; omega
  unfold foghornlaw24_BoundTells.f
  rw [few_f, Option.bind_some]
  dsimp only
  generalize l0.take 6 = m0 at hz hl ⊢
  generalize l1.take 6 = m1 at hz hl1 ⊢
  rw [step_f hz, Option.bind_some]
  cases hok : Cfg.okB ⟨m0.map toRcv, m1.map toRte, a2, a3⟩
  · obtain ⟨g1, g2, g3⟩ := no_cfg hz hok b1 b2 b3 b4
    rw [g1, g2, g3, Option.bind_some, Option.bind_some, Option.bind_some, rright_f (by omega) (by omega) hz (by omega), hok, Option.bind_some, if_neg (by simp), alive24_f, Option.bind_some, if_pos rfl]
    rfl
  · obtain ⟨l, g, gl, hj⟩ := tells_life hz hok b4
    obtain ⟨b, f, gm, hm⟩ := tells_many hz hok b2 b3 b4 h3 hj
    obtain ⟨k, hk⟩ : ∃ k, rndR m0 m1 + 200 = k + 4 + 101 := ⟨rndR m0 m1 + 95, by omega⟩
    by_cases hb : b1 < 1
    · rw [alone_no hz hok hb, Option.bind_some, gm, Option.bind_some, gl, Option.bind_some, rright_f (by omega) (by omega) hz (by omega), hok, Option.bind_some, if_pos rfl, if_pos (show (stepF true (m0.map toRcv)).2 = 0 from rfl), rstep_f hl (by omega), Option.bind_some, if_pos (show (stepF true (m0.map toRcv)).1 = mostL (m0.map toRcv) from rfl), alive24_f, Option.bind_some, hk]
      show foghornlaw24_BoundTells.j0 ((k + 101 + 3) + 1) b1 b2 b3 b4 0 3 b f l g false m0 m1 a2 a3 = some true
      rw [foghornlaw24_BoundTells.j0, if_neg (by simp), if_pos hb, if_pos rfl, if_pos rfl]
      exact hm _
    · rw [alone_g hz hok (by omega) h1, Option.bind_some, gm, Option.bind_some, gl, Option.bind_some, rright_f (by omega) (by omega) hz (by omega), hok, Option.bind_some, if_pos rfl, if_pos (show (stepF true (m0.map toRcv)).2 = 0 from rfl), rstep_f hl (by omega), Option.bind_some, if_pos (show (stepF true (m0.map toRcv)).1 = mostL (m0.map toRcv) from rfl), alive24_f, Option.bind_some, hk]
      show foghornlaw24_BoundTells.j0 ((k + 101 + 3) + 1) b1 b2 b3 b4 (moreV (b1 - 1) (mostL (m0.map toRcv))) 0 b f l g false m0 m1 a2 a3 = some true
      rw [foghornlaw24_BoundTells.j0, if_neg (by simp), if_neg hb, if_pos rfl, ralone_g hl hok (by omega) h1 (by omega), Option.bind_some, if_pos rfl]
      exact hm _
end Go.Proofs.YtejdpjmfnpbadaaGreatDoorQ.P
namespace Go.Proofs.YtejdpjmfnpbadaaGreatDoorQ.P
open Go.RowKit Go.Proofs.YtejdpjmfnpbadaaGreatDoorW.PrintWords Go.Proofs.YtejdpjmfnpbadaaGreatDoor
theorem wf_i64b {a : Int} (h : (Lit.int .i64 a).wf = true) : -9223372036854775808 ≤ a ∧ a ≤ 9223372036854775807 := by
  simp [Lit.wf, IntKind.min, IntKind.max, IntKind.signed, IntKind.bits] at h
  omega
theorem wf_max {n : Int} (h : (Lit.int .i64 n).wf = true) : n ≤ 9223372036854775807 := (wf_i64b h).2
theorem BoundTells_walk (v0 : Value) (c : CfgA) (a1 a2 a3 a4 : Int) (w : World) (hG : GOK w) (h0 : CfgV v0 w c) (h1 : (Lit.int .i64 a1).wf = true) (h2 : (Lit.int .i64 a2).wf = true) (h3 : (Lit.int .i64 a3).wf = true) (h4 : (Lit.int .i64 a4).wf = true) :
    Calls Tryz.prog 3 #[v0, .int .i64 a1, .int .i64 a2, .int .i64 a3, .int .i64 a4] w fun e w' => e = .returned (.bool true) ∧ Below w.heap.size w w' := by
  obtain ⟨⟨A0, c0, A1, c1, rfl, h0', k0, h1', k1⟩, hz⟩ := h0
  exact foghornlaw24_BoundTells.calls _ A0 c0 c.l A1 c1 c.t c.a c.b a1 a2 a3 a4 true w hG k0 h0' k1 h1' (boundTells_pure _ _ _ _ _ _ _ _ hz (wf_max h1) (wf_max h3))
end Go.Proofs.YtejdpjmfnpbadaaGreatDoorQ.P
namespace Go.Proofs.YtejdpjmfnpbadaaGreatDoor.boundTells
open Go.ChangeShapes Go.WideShapes Go.ChangeAt Go.WideMaps Go.WideElems Go.RowKit Go.Proofs.YtejdpjmfnpbadaaGreatDoorQ.P Go.Proofs.YtejdpjmfnpbadaaGreatDoorQ
open Go.ChangeMaps (open_string shut_string)
theorem own : ownKnob Tryz.prog.godebug = none := by kernel_rfl
theorem laidOut : laidOutB Tryz.prog = true := by kernel_rfl
def laidL : List (String × DataW Unit) := [("math/bits.deBruijn32tab", Rows.laid_math_bits_deBruijn32tab), ("math/bits.deBruijn64tab", Rows.laid_math_bits_deBruijn64tab), ("internal/strconv.uint64pow10", Rows.laid_internal_strconv_uint64pow10), ("unicode/utf8.acceptRanges", Rows.laid_unicode_utf8_acceptRanges), ("strconv.ErrRange", Rows.laid_strconv_ErrRange), ("strconv.ErrSyntax", Rows.laid_strconv_ErrSyntax), ("unicode/utf8.first", Rows.laid_unicode_utf8_first)]
theorem laid_met (os : Os) (args : Array Value) : laidMetH Tryz.prog laidL ((World.laidAll Tryz.prog os laidL).forCall (fun _ _ => 0) ⟨#[], args, []⟩).memory := by
  rw [MakeChecks.laidMetH_plain _ _ _ (by kernel_rfl)]; exact laidMet_laidAll _ (by kernel_rfl) (by kernel_rfl)
set_option maxRecDepth 100000 in
theorem starErr : "*" ++ "errors.errorString" = "*errors.errorString" := by decide
theorem rowErr (u : TypeId) (h : Tryz.prog.typeName? 3 u = some "*errors.errorString") : u = 320 := typeName_ptr_named (nm := "errors.errorString") (by rw [starErr]; kernel_rfl) (by kernel_rfl) (by decide) u (by rw [starErr]; exact h)
set_option maxRecDepth 100000 in
theorem gok_of {W : World} (h : laidMetH Tryz.prog laidL W) (hs : W.ShapedOpen Tryz.prog) : GOK W := by
  rw [MakeChecks.laidMetH_plain _ _ _ (by kernel_rfl)] at h
  have h00 := h
  obtain ⟨ps, ⟨g0, t0, cs0, f0, p0, q0, hg0, ht0, hv0, hd0, ⟨g1, t1, cs1, f1, p1, q1, hg1, ht1, hv1, hd1, ⟨g2, t2, cs2, f2, p2, q2, hg2, ht2, hv2, hd2, ⟨g3, t3, cs3, f3, p3, q3, hg3, ht3, hv3, hd3, ⟨g4, t4, cs4, f4, p4, q4, hg4, ht4, hv4, hd4, ⟨g5, t5, cs5, f5, p5, q5, hg5, ht5, hv5, hd5, ⟨g6, t6, cs6, f6, p6, q6, hg6, ht6, hv6, hd6, _, _⟩, _⟩, _⟩, _⟩, _⟩, _⟩, _⟩, _, _⟩ := h
  have k1 : Lib.TabIs Tryz.prog W "math/bits.deBruijn64tab" .u8 tab_math_bits_deBruijn64tab := by
    obtain rfl := Option.some.inj ((show Tryz.prog.globalNamed "math/bits.deBruijn64tab" = some 7 by kernel_rfl).symm.trans hg1)
    obtain rfl := Option.some.inj ((show (Tryz.prog.globals[7]?).map (·.type) = some 324 by kernel_rfl).symm.trans ht1)
    unfold Lib.TabIs
    have hd' := Lib.cells_of_tab (zs := tab_math_bits_deBruijn64tab) (k := .u8) Tryz.underlying324 Tryz.underlying5 (by kernel_rfl) (by kernel_rfl) hd1
    rw [hv1, ← hd']
  have k2 : Lib.TabIs Tryz.prog W "internal/strconv.uint64pow10" .u64 tab_internal_strconv_uint64pow10 := by
    obtain rfl := Option.some.inj ((show Tryz.prog.globalNamed "internal/strconv.uint64pow10" = some 3 by kernel_rfl).symm.trans hg2)
    obtain rfl := Option.some.inj ((show (Tryz.prog.globals[3]?).map (·.type) = some 308 by kernel_rfl).symm.trans ht2)
    unfold Lib.TabIs
    have hd' := Lib.cells_of_tab (zs := tab_internal_strconv_uint64pow10) (k := .u64) Tryz.underlying308 Tryz.underlying42 (by kernel_rfl) (by kernel_rfl) hd2
    rw [hv2, ← hd']
  have kmax : ∃ m, W.cell? ⟨0, 0, none⟩ = some (.int .i64 m) := Go.Proofs.cell_of_shapedOpen_int hs (of_decide_eq_true (by kernel_rfl)) (show ((begin Tryz.prog (fun _ _ => 0) default).world.heap[0]?).bind Obj.row? = some (#[.int .i64 0], 3) by kernel_rfl) rfl (by kernel_rfl) (by kernel_rfl) Tryz.underlying3
  have kerrsyntax : ∃ t p, W.cell? ⟨4, 0, none⟩ = some (.iface t p) := by
    obtain ⟨a, s, hv, _⟩ := laid_sentinel (tp := 320) (te := 322) (ts := 9) (laidMet.tail (laidMet.tail (laidMet.tail (laidMet.tail (laidMet.tail (h00)))))) (show Tryz.prog.globalNamed "strconv.ErrSyntax" = some 4 by kernel_rfl) (show (Tryz.prog.globals[4]?).map (·.type) = some 252 by kernel_rfl) Tryz.underlying252 rowErr Tryz.underlying320 Tryz.underlying322 rfl rfl Tryz.underlying9 (by kernel_rfl) (by kernel_rfl)
    have h0 := World.var?_cell (show Tryz.prog.globalNamed "strconv.ErrSyntax" = some 4 by kernel_rfl) hv 0
    exact ⟨_, _, by simpa using h0⟩
  have kerrrange : ∃ t p, W.cell? ⟨5, 0, none⟩ = some (.iface t p) := by
    obtain ⟨a, s, hv, _⟩ := laid_sentinel (tp := 320) (te := 322) (ts := 9) (laidMet.tail (laidMet.tail (laidMet.tail (laidMet.tail (h00))))) (show Tryz.prog.globalNamed "strconv.ErrRange" = some 5 by kernel_rfl) (show (Tryz.prog.globals[5]?).map (·.type) = some 252 by kernel_rfl) Tryz.underlying252 rowErr Tryz.underlying320 Tryz.underlying322 rfl rfl Tryz.underlying9 (by kernel_rfl) (by kernel_rfl)
    have h0 := World.var?_cell (show Tryz.prog.globalNamed "strconv.ErrRange" = some 5 by kernel_rfl) hv 0
    exact ⟨_, _, by simpa using h0⟩
  exact ⟨k1, k2, kmax, kerrsyntax, kerrrange, trivial⟩
set_option maxRecDepth 100000 in
theorem lifted (os : Os) (started : os.Started) (H : Type) (enc : TypeId × Value → H) :
    ReturnsInHanded {} Tryz.checked os 3 .any (fun w args => (Rows.boundTellsSpec.pre enc Tryz.prog Tryz.f3 [] false w args ∧ laidMetH Tryz.prog laidL w) ∧ sizedMet enc Tryz.prog Tryz.f3 (OpenSpec.ofChange Rows.boundTellsSpec) false w args) (Rows.boundTellsSpec.post enc Tryz.prog Tryz.f3 false true false false) := by
  refine handed_and_shaped (C := Tryz.checked) (X := fun w _ => laidMetH Tryz.prog laidL w) (fun _ _ _ hh h => h.of_heap hh) own started (by kernel_rfl) Tryz.func3
    (ChangeSpec.witness_shaped (enc := enc) (C := Tryz.checked) (os := os) (X := fun w _ => laidMetH Tryz.prog laidL w) false (World.laidAll Tryz.prog os laidL) #[.agg #[.slice none 0 0, .slice none 0 0, .int .i64 0, .int .i64 0], .int .i64 0, .int .i64 0, .int .i64 0, .int .i64 0] 8 (World.laidAll_os _ _ _) (World.shaped_of_ZipB (by kernel_rfl) (by kernel_rfl)) (by kernel_rfl) (by kernel_rfl) (by kernel_rfl) (laid_met os _)) ?_
  intro W base args ds gs before hval0 hW _ _ hL hSh _
  have hG := gok_of hL hSh
  have hval : ∀ (j : Nat) t v, Tryz.f3.params[j]? = some t → args[j]? = some v → Value.okWide Tryz.prog W .any base t v := hval0
  have hW' := hW
  obtain ⟨p, q, hA0, hV, rfl, hfz, hnd⟩ := hW
  have hA : DataW.TrodAll enc Tryz.prog W 0 (fun _ => true) true Tryz.f3.params.toList args.toList ds p := hA0
  rw [Tryz.params3] at hA hval
  obtain ⟨v0, vs0, d0, ds0, p0, q0, hargs, rfl, rfl, h0, r0⟩ := trodAll_cons hA
  obtain ⟨v1, vs1, d1, ds1, p1, q1, rfl, rfl, rfl, h1, r1⟩ := trodAll_cons r0
  obtain ⟨v2, vs2, d2, ds2, p2, q2, rfl, rfl, rfl, h2, r2⟩ := trodAll_cons r1
  obtain ⟨v3, vs3, d3, ds3, p3, q3, rfl, rfl, rfl, h3, r3⟩ := trodAll_cons r2
  obtain ⟨v4, vs4, d4, ds4, p4, q4, rfl, rfl, rfl, h4, r4⟩ := trodAll_cons r3
  obtain ⟨rfl, rfl, rfl⟩ := trodAll_nil r4
  obtain rfl : args = #[v0, v1, v2, v3, v4] := by cases args; simp_all
  obtain ⟨rfl, rfl⟩ := trodVars_none hV
  have lt0 : ∀ x ∈ p0, x.block < W.heap.size := by obtain ⟨m, hm⟩ := h0; exact DataW.trod_lt m _ _ _ hm
  have k0 := h0
  have lt1 : ∀ x ∈ p1, x.block < W.heap.size := by obtain ⟨m, hm⟩ := h1; exact DataW.trod_lt m _ _ _ hm
  have k1 := h1
  have lt2 : ∀ x ∈ p2, x.block < W.heap.size := by obtain ⟨m, hm⟩ := h2; exact DataW.trod_lt m _ _ _ hm
  have k2 := h2
  have lt3 : ∀ x ∈ p3, x.block < W.heap.size := by obtain ⟨m, hm⟩ := h3; exact DataW.trod_lt m _ _ _ hm
  have k3 := h3
  have lt4 : ∀ x ∈ p4, x.block < W.heap.size := by obtain ⟨m, hm⟩ := h4; exact DataW.trod_lt m _ _ _ hm
  have k4 := h4
  obtain ⟨a0, w0⟩ := argCfg (hval 0 25 v0 rfl rfl) h0
  obtain ⟨a1, rfl, rfl, rfl, w1⟩ := open_int Tryz.underlying3 (hval 1 3 v1 rfl rfl) h1
  obtain ⟨a2, rfl, rfl, rfl, w2⟩ := open_int Tryz.underlying3 (hval 2 3 v2 rfl rfl) h2
  obtain ⟨a3, rfl, rfl, rfl, w3⟩ := open_int Tryz.underlying3 (hval 3 3 v3 rfl rfl) h3
  obtain ⟨a4, rfl, rfl, rfl, w4⟩ := open_int Tryz.underlying3 (hval 4 3 v4 rfl rfl) h4
  clear hA0 hval0
  refine (BoundTells_walk v0 a0 a1 a2 a3 a4 W hG w0 w1 w2 w3 w4).mono fun e W' ⟨he, bel⟩ => ?_
  subst he
  exact ⟨_, rfl, _, _, _, [], _, [], hW', trodAll_mk1 (shut_bool Tryz.underlying4 _), (trodAll_cons_mk (Below.trod laidOut (by kernel_rfl) (of_decide_eq_true (by kernel_rfl)) k0 bel lt0) (trodAll_cons_mk (Below.trod laidOut (by kernel_rfl) (of_decide_eq_true (by kernel_rfl)) k1 bel lt1) (trodAll_cons_mk (Below.trod laidOut (by kernel_rfl) (of_decide_eq_true (by kernel_rfl)) k2 bel lt2) (trodAll_cons_mk (Below.trod laidOut (by kernel_rfl) (of_decide_eq_true (by kernel_rfl)) k3 bel lt3) (trodAll_cons_mk (Below.trod laidOut (by kernel_rfl) (of_decide_eq_true (by kernel_rfl)) k4 bel lt4) trodAll_mk0))))), rfl, bel.frame _, fun h => by cases h⟩
theorem over : Rows.BoundTellsSaid :=
  OpenClaim.holds_of_wide 3 Tryz.f3 rfl rfl rfl rfl rfl rfl rfl ⟨rfl, rfl, rfl, rfl, rfl⟩ rfl rfl rfl rfl rfl (by kernel_rfl) Tryz.func3 (by kernel_rfl)
    (of_decide_eq_true (by kernel_rfl)) (by unfold Func.isWrapper; first | (rw [if_pos (by decide +kernel)]; kernel_rfl) | (rw [if_neg (by decide +kernel)]; exact ⟨rfl, rfl⟩))
    (fun os started H enc _ => lifted os started H enc)
end Go.Proofs.YtejdpjmfnpbadaaGreatDoor.boundTells
namespace Go.Proofs.YtejdpjmfnpbadaaGreatDoor
theorem boundTells_holds : Rows.BoundTellsCardSaid :=
  Claim7.holds_tied_plain_at .later [] [.data, .data, .data, .data, .sentinel, .sentinel, .pinned] true (true, "9f7c8d4ed5b2bdafecac772380d7baa63e311e3db5aef929390f112c2e770879") true boundTells.over (fun _ h => by cases h) (by kernel_rfl) (fun _ h => by cases h) boundTells_row_tie rfl ⟨rfl, rfl⟩ (by kernel_rfl) rfl
    (fun f fn hf hfn => by
      obtain rfl : f = 3 := Option.some.inj ((show Tryz.prog.funcNamed "foghorn/foghornlaw24.BoundTells" = some 3 by kernel_rfl).symm.trans hf) |>.symm
      obtain rfl : fn = Tryz.f3 := (Option.some.inj (Tryz.func3.symm.trans hfn)).symm
      exact ⟨by kernel_rfl, fun j t ht => by
        rw [Tryz.params3] at ht
        have hm : t ∈ [25, 3, 3, 3, 3] := by simpa using Array.mem_of_getElem? ht
        have hall : ([25, 3, 3, 3, 3].all fun u => !Tryz.prog.wantsStandIn u) = true := by kernel_rfl
        exact (show Tryz.prog.wantsStandIn t = false by simpa using List.all_eq_true.1 hall t hm)⟩)
    (by kernel_rfl)
#print axioms boundTells_holds
end Go.Proofs.YtejdpjmfnpbadaaGreatDoor
