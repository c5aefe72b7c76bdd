/- The statement 'ConfigParses': for every input the law returns true, and each argument reads behind the call as it read before; the library's tables are tied to the program's text. No condition. -/
import Derived.ProofKit
import Derived.OpenShut
import Derived.Laws.IdiomArrays
import Derived.HandedShaped
import Derived.SizedLaws
import Derived.LaidMore
import Derived.Test.YtjfknmlchdifjaaGreatDoorRows
import Derived.Test.YtjfknmlchdifjaaGreatDoorCards
import Derived.Test.YtjfknmlchdifjaaGreatDoorTie
import Derived.WalkKit
import Derived.ShutString
import Derived.Below
import Derived.Carry
import Derived.Stop.Joined
import Derived.Stop.LaidErr
import Derived.SevenTiedAt
import Derived.Lib.LaidTab
import Derived.Lay
import Derived.LaidOnce
import Derived.Shelf.Vars
import Derived.Test.YtjfknmlchdifjaaGreatDoorWcp1
import Derived.Test.YtjfknmlchdifjaaGreatDoorWcp2
import Derived.Test.YtjfknmlchdifjaaGreatDoorWcp3
import Derived.Test.YtjfknmlchdifjaaGreatDoorWcp4
import Derived.Test.YtjfknmlchdifjaaGreatDoorWcp5
set_option linter.unusedVariables false
set_option linter.unusedSimpArgs false
namespace Go.Proofs.YtjfknmlchdifjaaGreatDoorQ.P
open Go.RowKit Go.Proofs.YtjfknmlchdifjaaGreatDoorW.PrintWords Go.Proofs.YtjfknmlchdifjaaGreatDoorW.PrintLast Go.Proofs.YtjfknmlchdifjaaGreatDoorW.PrintMore
attribute [local go_sem] max2_int min2_int max_two min_two max_three min_three max_four min_four
def foghornlaw13_ConfigParses.f (k : Nat) (a0 : ByteArray) : Option (Bool) := if 0 ≤ (mn (a0.size : Int) 1500) then (if (mn (a0.size : Int) 1500) ≤ (a0.size : Int) then ((config_Parse.f (a0.extract 0 ((mn (a0.size : Int) 1500) : Int).toNat)).bind fun bt127 => ((foghornref13_Parse.f (a0.extract 0 ((mn (a0.size : Int) 1500) : Int).toNat)).bind fun bt138 => ((foghornlaw13_alive.f).bind fun t149 => (if t149 = true then (if bt127.2.2.2.2.2 = bt138.2.2.2.2.2 then (if bt127.2.2.2.2.1 = bt138.2.2.2.2.1 then ((foghornref13_Same.f k bt127.1 bt127.2.1 bt127.2.2.1 bt127.2.2.2.1 bt138.1 bt138.2.1 bt138.2.2.1 bt138.2.2.2.1).bind fun t150 => (some t150)) else (some false)) else (some false)) else (some false))))) else (none)) else (none)
set_option maxHeartbeats 8000000 in
set_option maxRecDepth 100000 in
theorem foghornlaw13_ConfigParses.calls (k : Nat) (a0 : ByteArray) (r : Bool) (w : World) (hG : GOK w) (h : foghornlaw13_ConfigParses.f k a0 = some r) (hrt_ : r = true := by rfl) :
  Calls Tryz.prog 7 #[.string a0] w fun e w' => e = .returned (.bool r) ∧ Below w.heap.size w w' := by
 have hu57 := Tryz.underlying57
 have HG := aA hG
 clear hG
 have HB := aA (Below.refl w.heap.size w)
 have H : (if 0 ≤ (mn (a0.size : Int) 1500) then (if (mn (a0.size : Int) 1500) ≤ (a0.size : Int) then ((config_Parse.f (a0.extract 0 ((mn (a0.size : Int) 1500) : Int).toNat)).bind fun bt127 => ((foghornref13_Parse.f (a0.extract 0 ((mn (a0.size : Int) 1500) : Int).toNat)).bind fun bt138 => ((foghornlaw13_alive.f).bind fun t149 => (if t149 = true then (if bt127.2.2.2.2.2 = bt138.2.2.2.2.2 then (if bt127.2.2.2.2.1 = bt138.2.2.2.2.1 then ((foghornref13_Same.f k bt127.1 bt127.2.1 bt127.2.2.1 bt127.2.2.2.1 bt138.1 bt138.2.1 bt138.2.2.1 bt138.2.2.2.1).bind fun t150 => (some t150)) else (some false)) else (some false)) else (some false))))) else (none)) else (none)) = some r := h
 clear h
 obtain ⟨ji2, hji2⟩ : ∃ j_ : Int, (mn (a0.size : Int) 1500) = j_ := ⟨_, rfl⟩
 replace H : (if 0 ≤ (ji2) then (if (ji2) ≤ (a0.size : Int) then ((config_Parse.f (a0.extract 0 ((ji2) : Int).toNat)).bind fun bt127 => ((foghornref13_Parse.f (a0.extract 0 ((ji2) : Int).toNat)).bind fun bt138 => ((foghornlaw13_alive.f).bind fun t149 => (if t149 = true then (if bt127.2.2.2.2.2 = bt138.2.2.2.2.2 then (if bt127.2.2.2.2.1 = bt138.2.2.2.2.1 then ((foghornref13_Same.f k bt127.1 bt127.2.1 bt127.2.2.1 bt127.2.2.2.1 bt138.1 bt138.2.1 bt138.2.2.1 bt138.2.2.2.1).bind fun t150 => (some t150)) else (some false)) else (some false)) else (some false))))) else (none)) else (none)) = some r := by first | (rw [hji2] at H; exact H) | (simp only [hji2] at H ⊢; exact H)
 (try (have hji2h : ji2 ≤ 1500 := by (rw [← hji2]; unfold mn; (repeat' split) <;> omega)))
 (try (have hji2g : ji2 ≤ 64 := by omega))
 (try (have hji2l : 0 ≤ ji2 := by (rw [← hji2]; unfold mn; (repeat' split) <;> omega)))
 (try (have hji2m : 0 ≤ ji2 := by omega))
 have hji2_ : (if 1500 < (a0.size : Int) then 1500 else (a0.size : Int)) = ji2 := hji2
 by_cases c3 : 0 ≤ (ji2)
 ·rw [if_pos c3] at H
  have c3b0 := eq_true c3
  have c3b1 := decide_eq_true c3
  clear c3
  by_cases c4 : (ji2) ≤ (a0.size : Int)
  ·rw [if_pos c4] at H
   have c4b0 := eq_true c4
   have c4b1 := decide_eq_true c4
   clear c4
   replace H := Option.bind_eq_some_iff.mp H
   obtain ⟨⟨t127, t130, t133, t134, t135, t136⟩, A50, H⟩ := H
   have A5 := aA A50
   clear A50
   replace H := Option.bind_eq_some_iff.mp H
   obtain ⟨⟨t138, t141, t144, t145, t146, t147⟩, A60, H⟩ := H
   have A6 := aA A60
   clear A60
   replace H := Option.bind_eq_some_iff.mp H
   obtain ⟨t149, A70, H⟩ := H
   have A7 := aA A70
   clear A70
   by_cases c8 : t149 = true
   ·subst c8
    have H1 : (if t136 = t147 then (if t135 = t146 then ((foghornref13_Same.f k t127 t130 t133 t134 t138 t141 t144 t145).bind fun t150 => (some t150)) else (some false)) else (some false)) = some r := by rw [if_pos rfl] at H; exact H
    clear H
    have H := H1
    clear H1
    by_cases c9 : t136 = t147
    ·rw [if_pos c9] at H
     have c9b0 : (t136 == t147) = true := beq_iff_eq.mpr c9
     have c9b1 : (t136 != t147) = false := bne_eq_false_iff_eq.mpr c9
     clear c9
     by_cases c10 : t135 = t146
     ·rw [if_pos c10] at H
      have c10b0 : (t135 == t146) = true := beq_iff_eq.mpr c10
      have c10b1 : (t135 != t146) = false := bne_eq_false_iff_eq.mpr c10
      clear c10
      replace H := Option.bind_eq_some_iff.mp H
      obtain ⟨t150, A110, H⟩ := H
      have A11 := aA A110
      clear A110
      obtain rfl := Option.some.inj H
      go_enter Tryz.func7, Tryz.ntmps7
      go_wp2_with (first | ((with_reducible refine gate_callee (f := 25) rfl ?_); refine goesL_ (some 16) rfl rfl Tryz.func25 (by kernel_rfl) rfl #[.string (a0.extract 0 ((ji2) : Int).toNat)] rfl (by (try simp only [List.map_toArray, List.map_cons, List.map_nil]); first | done | (simp only [hji2]; rfl) | rfl | (simp only [List.length_drop, List.length_take]; rfl)) ?_; (with_reducible refine (config_Parse.calls (a0.extract 0 ((ji2) : Int).toNat) t127 t130 t133 t134 t135 t136 _ ?side1 A5.out).mono ?_); (case side1 => exact gok_below HG.out mB); rintro e w12 ⟨v128, v131, rfl, ho0, ho1, hb⟩; refine ⟨_, rfl, ?_⟩; have n0_ := aA (Kd.R_lower ho0 (below_size mB)); have n1_ := aA (Kd.S_lower ho1 (below_size mB)); have n2_ := aA (below_step mB hb); clear HB; have HO129 := n0_; have HO132 := n1_; have HB := n2_; clear n0_ n1_ n2_; (try clear hb); (try clear hb2); (try clear hk); (try clear hi); (try clear ho0); (try clear ho1)) | ((with_reducible refine gate_dst (N := 3) rfl ?_); refine box_event ?hg (N := 3) ?hd (cs := #[.slice none 0 0, .slice none 0 0, .int .i64 0, .int .i64 0]) (t := 57) ?hr ?_; (case hd => rfl); (case hg => rfl); (case hr => first | (go_simp; done) | (go_simp; rfl)); intro gb137 hg w13 hbox hb; have n0_ := aA (Kd.R_below (mR HO129.out) hb); have n1_ := aA (Kd.S_below (by (with_reducible repeat (first | apply Kd.S_alloc | apply Kd.S_drewN | apply Kd.S_drew)); exact HO132.out) hb); have n2_ := aA (below_step mB hb); have n3_ := aA (hbox); have n4_ := aA ((bZ hg mB)); have n5_ := aA ((bZ hg mB)); clear HO129 HO132 HB; have HO129 := n0_; have HO132 := n1_; have HB := n2_; have BK137 := n3_; have GW137 := n4_; have GE137 := n5_; clear n0_ n1_ n2_ n3_ n4_ n5_ hb hbox hg; obtain ⟨Ao14, co14, eo14⟩ := Kd.R_slice HO129.out; subst eo14; obtain ⟨hcz15_0, hcz15_1, hcz15_2, hcz15_3⟩ := bC4 BK137.out; obtain ⟨hfz15_0, hfz15_1, hfz15_2, hfz15_3⟩ := bF4 BK137.out; obtain ⟨Ao16, co16, eo16⟩ := Kd.S_slice HO132.out; subst eo16) | ((with_reducible refine gate_callee (f := 26) rfl ?_); refine goesL_ (some 22) rfl rfl Tryz.func26 (by kernel_rfl) rfl #[.string (a0.extract 0 ((ji2) : Int).toNat)] rfl (by (try simp only [List.map_toArray, List.map_cons, List.map_nil]); first | done | (simp only [hji2]; rfl) | rfl | (simp only [List.length_drop, List.length_take]; rfl)) ?_; (with_reducible refine (foghornref13_Parse.calls (a0.extract 0 ((ji2) : Int).toNat) t138 t141 t144 t145 t146 t147 _ A6.out).mono ?_); rintro e w17 ⟨v139, v142, rfl, ho0, ho1, hb⟩; refine ⟨_, rfl, ?_⟩; have n0_ := aA (Kd.R_elder' (by (with_reducible repeat (first | apply Kd.R_alloc | apply Kd.R_drewN | apply Kd.R_drew)); exact (Kd.R_mono (rF 3 (rF 2 (rF 1 (rF 0 (Kd.R_types HO129.out BK137.out (by decide)))))) (fun _ h_ => h_.1))) (Kd.R_base ho0) hb); have n1_ := aA (Kd.S_elder' (by (with_reducible repeat (first | apply Kd.S_alloc | apply Kd.S_drewN | apply Kd.S_drew)); exact (Kd.S_mono (Kd.S_far (p := ⟨gb137, 3, none⟩) (Kd.S_far (p := ⟨gb137, 2, none⟩) (Kd.S_far (p := ⟨gb137, 1, none⟩) (Kd.S_far (p := ⟨gb137, 0, none⟩) (Kd.S_types HO132.out BK137.out (by decide)) (fun _ hk => hk.2) (.slice Ao14 t127.length co14)) (fun _ hk => hk.2) (.slice Ao16 t130.length co16)) (fun _ hk => hk.2) (.int .i64 t133)) (fun _ hk => hk.2) (.int .i64 t134)) (fun _ h_ => h_.1))) (Kd.S_base ho1) hb); have n2_ := aA (Kd.R_lower (Kd.R_new' ho0 (Kd.R_lt (by (with_reducible repeat (first | apply Kd.R_alloc | apply Kd.R_drewN | apply Kd.R_drew)); exact (Kd.R_mono (rF 3 (rF 2 (rF 1 (rF 0 (Kd.R_types HO129.out BK137.out (by decide)))))) (fun _ h_ => h_.1))))) (below_size (mD1 GE137.out))); have n3_ := aA (Kd.S_lower (Kd.S_new' ho1 (Kd.S_lt (by (with_reducible repeat (first | apply Kd.S_alloc | apply Kd.S_drewN | apply Kd.S_drew)); exact (Kd.S_mono (Kd.S_far (p := ⟨gb137, 3, none⟩) (Kd.S_far (p := ⟨gb137, 2, none⟩) (Kd.S_far (p := ⟨gb137, 1, none⟩) (Kd.S_far (p := ⟨gb137, 0, none⟩) (Kd.S_types HO132.out BK137.out (by decide)) (fun _ hk => hk.2) (.slice Ao14 t127.length co14)) (fun _ hk => hk.2) (.slice Ao16 t130.length co16)) (fun _ hk => hk.2) (.int .i64 t133)) (fun _ hk => hk.2) (.int .i64 t134)) (fun _ h_ => h_.1))))) (below_size (mD1 GE137.out))); have n4_ := aA (blk_below (g := gb137) (o := .cells #[.slice Ao14 t127.length co14, .slice Ao16 t130.length co16, .int .i64 t133, .int .i64 t134] 57 (0, 0)) (by (with_reducible repeat (first | refine blk_drewN ?_ _ | refine blk_drew ?_ | refine blk_alloc ?_ _)); have h_ := BK137.out; exact pK 3 (pK 2 (pK 1 (pK 0 (h_))))) hb); have n5_ := aA (below_step (mD1 GE137.out) hb); clear HO129 HO132 BK137 HB; have HO129 := n0_; have HO132 := n1_; have HO140 := n2_; have HO143 := n3_; have BK137 := n4_; have HB := n5_; clear n0_ n1_ n2_ n3_ n4_ n5_; (try clear hb); (try clear hb2); (try clear hk); (try clear hi); (try clear ho0); (try clear ho1)) | ((with_reducible refine gate_dst (N := 6) rfl ?_); refine box_event ?hg (N := 6) ?hd (cs := #[.slice none 0 0, .slice none 0 0, .int .i64 0, .int .i64 0]) (t := 57) ?hr ?_; (case hd => rfl); (case hg => rfl); (case hr => first | (go_simp; done) | (go_simp; rfl)); intro gb148 hg w18 hbox hb; have n0_ := aA (Kd.R_below (mR HO129.out) hb); have n1_ := aA (Kd.S_below (by (with_reducible repeat (first | apply Kd.S_alloc | apply Kd.S_drewN | apply Kd.S_drew)); exact HO132.out) hb); have n2_ := aA (Kd.R_below (mR HO140.out) hb); have n3_ := aA (Kd.S_below (by (with_reducible repeat (first | apply Kd.S_alloc | apply Kd.S_drewN | apply Kd.S_drew)); exact HO143.out) hb); have n4_ := aA (bB BK137.out hb); have n5_ := aA (below_step (mD1 GE137.out) hb); have n6_ := aA (hbox); have n7_ := aA ((bZ hg (mD1 GE137.out))); have n8_ := aA ((bZ hg (mD1 GE137.out))); have n9_ := aA ((bL hg BK137.out)); have n10_ := aA ((bG hg BK137.out)); clear HO129 HO132 HO140 HO143 BK137 HB; have HO129 := n0_; have HO132 := n1_; have HO140 := n2_; have HO143 := n3_; have BK137 := n4_; have HB := n5_; have BK148 := n6_; have GW148 := n7_; have GE148 := n8_; have NB137_148 := n9_; have NB148_137 := n10_; clear n0_ n1_ n2_ n3_ n4_ n5_ n6_ n7_ n8_ n9_ n10_ hb hbox hg; obtain ⟨Ao19, co19, eo19⟩ := Kd.R_slice HO140.out; subst eo19; have hnb20 := NB148_137.out; have hnc20 := NB137_148.out; obtain ⟨hcz21_0, hcz21_1, hcz21_2, hcz21_3⟩ := bC4 BK148.out; obtain ⟨hfz21_0, hfz21_1, hfz21_2, hfz21_3⟩ := bF4 BK148.out; obtain ⟨Ao22, co22, eo22⟩ := Kd.S_slice HO143.out; subst eo22) | ((with_reducible refine gate_callee (f := 27) rfl ?_); refine goesL_ (some 26) rfl rfl Tryz.func27 (by kernel_rfl) rfl #[] rfl mS ?_; (with_reducible refine (foghornlaw13_alive.calls  true _ ?side1 A7.out).mono ?_); (case side1 => exact gok_below HG.out (mD2 GE137.out GE148.out)); rintro e w23 ⟨rfl, hb⟩; refine ⟨_, rfl, ?_⟩; have n0_ := aA (Kd.R_below (by (with_reducible repeat (first | apply Kd.R_alloc | apply Kd.R_drewN | apply Kd.R_drew)); exact (Kd.R_mono (rF 3 (rF 2 (rF 1 (rF 0 (Kd.R_types HO129.out BK148.out (by decide)))))) (fun _ h_ => h_.1))) hb); have n1_ := aA (Kd.S_below (by (with_reducible repeat (first | apply Kd.S_alloc | apply Kd.S_drewN | apply Kd.S_drew)); exact (Kd.S_mono (Kd.S_far (p := ⟨gb148, 3, none⟩) (Kd.S_far (p := ⟨gb148, 2, none⟩) (Kd.S_far (p := ⟨gb148, 1, none⟩) (Kd.S_far (p := ⟨gb148, 0, none⟩) (Kd.S_types HO132.out BK148.out (by decide)) (fun _ hk => hk.2) (.slice Ao19 t138.length co19)) (fun _ hk => hk.2) (.slice Ao22 t141.length co22)) (fun _ hk => hk.2) (.int .i64 t144)) (fun _ hk => hk.2) (.int .i64 t145)) (fun _ h_ => h_.1))) hb); have n2_ := aA (Kd.R_below (by (with_reducible repeat (first | apply Kd.R_alloc | apply Kd.R_drewN | apply Kd.R_drew)); exact (Kd.R_mono (rF 3 (rF 2 (rF 1 (rF 0 (Kd.R_types HO140.out BK148.out (by decide)))))) (fun _ h_ => h_.1))) hb); have n3_ := aA (Kd.S_below (by (with_reducible repeat (first | apply Kd.S_alloc | apply Kd.S_drewN | apply Kd.S_drew)); exact (Kd.S_mono (Kd.S_far (p := ⟨gb148, 3, none⟩) (Kd.S_far (p := ⟨gb148, 2, none⟩) (Kd.S_far (p := ⟨gb148, 1, none⟩) (Kd.S_far (p := ⟨gb148, 0, none⟩) (Kd.S_types HO143.out BK148.out (by decide)) (fun _ hk => hk.2) (.slice Ao19 t138.length co19)) (fun _ hk => hk.2) (.slice Ao22 t141.length co22)) (fun _ hk => hk.2) (.int .i64 t144)) (fun _ hk => hk.2) (.int .i64 t145)) (fun _ h_ => h_.1))) hb); have n4_ := aA (blk_below (g := gb137) (o := .cells #[.slice Ao14 t127.length co14, .slice Ao16 t130.length co16, .int .i64 t133, .int .i64 t134] 57 (0, 0)) (by (with_reducible repeat (first | refine blk_drewN ?_ _ | refine blk_drew ?_ | refine blk_alloc ?_ _)); refine blk_far ?_ NB137_148.out _; (with_reducible repeat (first | refine blk_drewN ?_ _ | refine blk_drew ?_ | refine blk_alloc ?_ _)); refine blk_far ?_ NB137_148.out _; (with_reducible repeat (first | refine blk_drewN ?_ _ | refine blk_drew ?_ | refine blk_alloc ?_ _)); refine blk_far ?_ NB137_148.out _; (with_reducible repeat (first | refine blk_drewN ?_ _ | refine blk_drew ?_ | refine blk_alloc ?_ _)); refine blk_far ?_ NB137_148.out _; (with_reducible repeat (first | refine blk_drewN ?_ _ | refine blk_drew ?_ | refine blk_alloc ?_ _)); exact BK137.out) hb); have n5_ := aA (blk_below (g := gb148) (o := .cells #[.slice Ao19 t138.length co19, .slice Ao22 t141.length co22, .int .i64 t144, .int .i64 t145] 57 (0, 0)) (by (with_reducible repeat (first | refine blk_drewN ?_ _ | refine blk_drew ?_ | refine blk_alloc ?_ _)); have h_ := BK148.out; exact pK 3 (pK 2 (pK 1 (pK 0 (h_))))) hb); have n6_ := aA (below_step (mD2 GE137.out GE148.out) hb); clear HO129 HO132 HO140 HO143 BK137 BK148 HB; have HO129 := n0_; have HO132 := n1_; have HO140 := n2_; have HO143 := n3_; have BK137 := n4_; have BK148 := n5_; have HB := n6_; clear n0_ n1_ n2_ n3_ n4_ n5_ n6_; (try clear hb); (try clear hb2); (try clear hk); (try clear hi); obtain ⟨hcz24_0, hcz24_1, hcz24_2, hcz24_3⟩ := bC4 BK137.out; obtain ⟨hfz24_0, hfz24_1, hfz24_2, hfz24_3⟩ := bF4 BK137.out; obtain ⟨hcz25_0, hcz25_1, hcz25_2, hcz25_3⟩ := bC4 BK148.out; obtain ⟨hfz25_0, hfz25_1, hfz25_2, hfz25_3⟩ := bF4 BK148.out) | (go_at_call 28; (with_reducible refine (foghornref13_Same.calls k _ _ t127 _ _ t130 t133 t134 _ _ t138 _ _ t141 t144 t145 t150 _ ?side1 ?side2 ?side3 ?side4 ?side5 ?side6 ?side7 ?side8 A11.out).mono ?_); (case side1 => exact mC ((Kd.R_reads' HO129.out).2.2)); (case side2 => exact (Kd.R_reads' HO129.out).2.1); (case side3 => exact mC ((Kd.S_reads' HO132.out).2.2)); (case side4 => exact (Kd.S_reads' HO132.out).2.1); (case side5 => exact mC ((Kd.R_reads' HO140.out).2.2)); (case side6 => exact (Kd.R_reads' HO140.out).2.1); (case side7 => exact mC ((Kd.S_reads' HO143.out).2.2)); (case side8 => exact (Kd.S_reads' HO143.out).2.1); rintro e w26 ⟨rfl, hb⟩; have n0_ := aA (Kd.R_below (mR HO129.out) hb); have n1_ := aA (Kd.S_below (by (with_reducible repeat (first | apply Kd.S_alloc | apply Kd.S_drewN | apply Kd.S_drew)); exact HO132.out) hb); have n2_ := aA (Kd.R_below (mR HO140.out) hb); have n3_ := aA (Kd.S_below (by (with_reducible repeat (first | apply Kd.S_alloc | apply Kd.S_drewN | apply Kd.S_drew)); exact HO143.out) hb); have n4_ := aA (bB BK137.out hb); have n5_ := aA (bB BK148.out hb); have n6_ := aA (below_step (mD2 GE137.out GE148.out) hb); clear HO129 HO132 HO140 HO143 BK137 BK148 HB; have HO129 := n0_; have HO132 := n1_; have HO140 := n2_; have HO143 := n3_; have BK137 := n4_; have BK148 := n5_; have HB := n6_; clear n0_ n1_ n2_ n3_ n4_ n5_ n6_; (try clear hb); (try clear hb2); (try clear hk); (try clear hi)))
      go_ret
      exact ⟨by first | rfl | (simp [errW_none, errW_some] <;> rfl) | (simp only [← hji2]; first | rfl | (simp [errW_none, errW_some] <;> rfl)) | (simp [*, errW_none, errW_some] <;> rfl), by repeat (first | (with_reducible first | exact HB.out | apply below_alloc | apply pw_below_drewN | apply below_drew1 | refine below_set ?_ GE137.out | refine below_set ?_ GE148.out) | exact HB.out)⟩
     ·rw [if_neg c10] at H
      have c10b0 : (t135 == t146) = false := beq_eq_false_iff_ne.mpr c10
      have c10b1 : (t135 != t146) = true := bne_iff_ne.mpr c10
      exact absurd (Option.some.inj H) (by rw [hrt_]; decide)
    ·rw [if_neg c9] at H
     have c9b0 : (t136 == t147) = false := beq_eq_false_iff_ne.mpr c9
     have c9b1 : (t136 != t147) = true := bne_iff_ne.mpr c9
     exact absurd (Option.some.inj H) (by rw [hrt_]; decide)
   ·replace c8 := Bool.eq_false_iff.mpr c8
    subst c8
    have H1 : (some false) = some r := by rw [if_neg (show ¬ (false = true) by decide)] at H; exact H
    clear H
    have H := H1
    clear H1
    exact absurd (Option.some.inj H) (by rw [hrt_]; decide)
  ·rw [if_neg c4] at H
   exact absurd H (by simp)
 ·rw [if_neg c3] at H
  exact absurd H (by simp)
end Go.Proofs.YtjfknmlchdifjaaGreatDoorQ.P
namespace Go.Proofs.YtjfknmlchdifjaaGreatDoorQ.P
open Go.RowKit Go.Proofs.YtjfknmlchdifjaaGreatDoorW.PrintWords Go.Proofs.YtjfknmlchdifjaaGreatDoorW.PrintLast Go.Proofs.YtjfknmlchdifjaaGreatDoorW.PrintMore
attribute [local go_sem] max2_int min2_int max_two min_two max_three min_three max_four min_four
def wire_Print.T8 : Bool × List (List Nat × List Nat) := (true, [([], []), ([0], [0]), ([1], [1]), ([2], [2]), ([], []), ([4], [4]), ([5], [5]), ([6, 3], [6]), ([3, 7], [3, 7]), ([8, 7, 0, 1, 2, 3, 4, 5, 6, 7, 8], [8])])
def wire_Print.B8 : List Nat := [0, 1, 3, 7, 0, 16, 48, 127, 255, 511]
theorem wire_Print.tab8 : rtab .any (opsOf Tryz.f18 8) = wire_Print.T8 := by kernel_rfl
theorem wire_Print.bits8 : waitsOk wire_Print.T8.2 wire_Print.B8 = true := by kernel_rfl
end Go.Proofs.YtjfknmlchdifjaaGreatDoorQ.P
namespace Go.Proofs.YtjfknmlchdifjaaGreatDoorQ.P
open Go.RowKit Go.Proofs.YtjfknmlchdifjaaGreatDoorW.PrintWords Go.Proofs.YtjfknmlchdifjaaGreatDoorW.PrintLast Go.Proofs.YtjfknmlchdifjaaGreatDoorW.PrintMore Go.Proofs.YtjfknmlchdifjaaGreatDoor
theorem okB_parts {m : Msg} (h : m.okB = true) : (∀ x ∈ m.labs, labB x = true) ∧ (∀ x ∈ m.asked, matB x = true) ∧ m.labs.length ≤ 3 ∧ m.asked.length ≤ 4 := by
  unfold Msg.okB at h
  split at h
  · simp only [Bool.and_eq_true, decide_eq_true_eq] at h
    obtain ⟨_, _, _, _, h4, hm⟩ := hushB_parts h.2
    rw [h.1]
    exact ⟨by simp, hm, by simp, h4⟩
  · simp only [Bool.and_eq_true, decide_eq_true_eq] at h
    obtain ⟨_, h3, hl⟩ := eachB_all (labsB_each h.1.2)
    rw [h.2.2]
    exact ⟨hl, by simp, h3, by simp⟩
theorem askedSame_l (xs : List S32) (hn : xs.length ≤ 100000) (d : Nat) : ∀ (k i : Nat), i + d = xs.length → d < k → foghornref10_Asked.l0 k xs xs (xs.length : Int) (i : Int) = some true := by
  induction d with
  | zero =>
    intro k i hi hk
    obtain ⟨k, rfl⟩ : ∃ q, k = q + 1 := ⟨k - 1, by omega⟩
    rw [foghornref10_Asked.l0, if_neg (by omega)]
  | succ d ih =>
    intro k i hi hk
    obtain ⟨k, rfl⟩ : ∃ q, k = q + 1 := ⟨k - 1, by omega⟩
    rw [foghornref10_Asked.l0, if_pos (by omega), if_pos (by omega), if_pos (by omega), if_pos (by omega), if_neg (by simp), w64s (by omega)]
    exact ih k (i + 1) (by omega) (by omega)
end Go.Proofs.YtjfknmlchdifjaaGreatDoorQ.P
namespace Go.Proofs.YtjfknmlchdifjaaGreatDoorQ.P
open Go.RowKit Go.Proofs.YtjfknmlchdifjaaGreatDoorW.PrintWords Go.Proofs.YtjfknmlchdifjaaGreatDoorW.PrintLast Go.Proofs.YtjfknmlchdifjaaGreatDoorW.PrintMore Go.Proofs.YtjfknmlchdifjaaGreatDoor
section
variable {l : List S90} {t : List S93} {a b : Int}
theorem same13_l2 (i L : Int) (t2 : List S93) (xs : List Int) (m m' : List S32) (hx : xs.length ≤ 1000000) (d : Nat) : ∀ (k j : Nat), j + d = xs.length → d < k →
    foghornref13_Same.l2 k t2 L i (xs.length : Int) (j : Int) l t a b xs m xs m' = foghornref13_Same.l1 (k - d - 1) t2 L (wrap64 (i + 1)) l t a b := by
  induction d with
  | zero =>
    intro k j hj hk
    obtain ⟨k, rfl⟩ : ∃ q, k = q + 1 := ⟨k - 1, by omega⟩
    rw [foghornref13_Same.l2, if_neg (by omega)]
    rfl
  | succ d ih =>
    intro k j hj hk
    obtain ⟨k, rfl⟩ : ∃ q, k = q + 1 := ⟨k - 1, by omega⟩
    rw [foghornref13_Same.l2, if_pos (by omega), if_pos (by omega), if_pos (by omega), if_pos (by omega), if_pos rfl, w64s (by omega), ih k (j + 1) (by omega) (by omega), show k + 1 - (d + 1) - 1 = k - d - 1 by omega]
theorem asked_self (xs : List S32) (hn : xs.length ≤ 100000) {k : Nat} (hk : xs.length < k) : foghornref10_Asked.f k xs xs = some true := by
  unfold foghornref10_Asked.f
  rw [if_pos rfl]
  exact askedSame_l xs hn xs.length k 0 (by omega) hk
theorem same13_l1 {M : Nat} (hM : M ≤ 100000) (ht : t.length ≤ 1000000) (hx : ∀ x ∈ t, x.f0.length ≤ M ∧ x.f1.length ≤ M) (d : Nat) : ∀ (k i : Nat), i + d = t.length → d * (M + 4) + 1 < k →
    foghornref13_Same.l1 k t (t.length : Int) (i : Int) l t a b = some true := by
  induction d with
  | zero =>
    intro k i hi hk
    obtain ⟨k, rfl⟩ : ∃ q, k = q + 1 := ⟨k - 1, by omega⟩
    rw [foghornref13_Same.l1, if_neg (by omega)]
  | succ d ih =>
    intro k i hi hk
    rw [Nat.succ_mul] at hk
    obtain ⟨k, rfl⟩ : ∃ q, k = q + 2 := ⟨k - 2, by omega⟩
    have hlt : i < t.length := by omega
    have hr : rd_T93 t (i : Int) = t[i] := getD_cast hlt
    obtain ⟨h1, h2⟩ := hx t[i] (List.getElem_mem hlt)
    rw [foghornref13_Same.l1, if_pos (by omega), if_pos (by omega), if_pos (by omega), if_pos (by omega), hr, asked_self _ (by omega) (by omega), Option.bind_some, if_pos rfl]
    have e : ((t[i].f0.length : Int) != (t[i].f0.length : Int)) = false := by simp
    rw [e, foghornref13_Same.j3, if_neg (by decide)]
    have := same13_l2 (l := l) (t := t) (a := a) (b := b) (i : Int) (t.length : Int) t t[i].f0 t[i].f1 t[i].f1 (by omega) t[i].f0.length k 0 (by omega) (by omega)
    refine this.trans ?_
    rw [w64s (by omega)]
    exact ih _ (i + 1) (by omega) (by omega)
theorem same13_l0 {M : Nat} (hl : l.length ≤ 1000000) (hM : M ≤ 100000) (ht : t.length ≤ 1000000) (hx : ∀ x ∈ t, x.f0.length ≤ M ∧ x.f1.length ≤ M) (d : Nat) : ∀ (k i : Nat), i + d = l.length → d + t.length * (M + 4) + 2 < k →
    foghornref13_Same.l0 k (l.length : Int) (i : Int) l t a b l t a b = some true := by
  induction d with
  | zero =>
    intro k i hi hk
    obtain ⟨k, rfl⟩ : ∃ q, k = q + 1 := ⟨k - 1, by omega⟩
    rw [foghornref13_Same.l0, if_neg (by omega)]
    exact same13_l1 hM ht hx t.length k 0 (by omega) (by omega)
  | succ d ih =>
    intro k i hi hk
    obtain ⟨k, rfl⟩ : ∃ q, k = q + 1 := ⟨k - 1, by omega⟩
    rw [foghornref13_Same.l0, if_pos (by omega), if_pos (by omega), if_pos (by omega), if_pos (by omega), if_neg (by simp), w64s (by omega)]
    exact ih k (i + 1) (by omega) (by omega)
theorem same13_f {M : Nat} (hl : l.length ≤ 1000000) (hM : M ≤ 100000) (ht : t.length ≤ 1000000) (hx : ∀ x ∈ t, x.f0.length ≤ M ∧ x.f1.length ≤ M) {k : Nat} (hk : l.length + t.length * (M + 4) + 3 < k) : foghornref13_Same.f k l t a b l t a b = some true := by
  obtain ⟨k, rfl⟩ : ∃ q, k = q + 1 := ⟨k - 1, by omega⟩
  unfold foghornref13_Same.f
  have e : (b != b) = false := by simp
  rw [if_pos rfl, if_pos rfl, if_pos rfl, e, foghornref13_Same.j0, if_neg (by decide)]
  exact same13_l0 hl hM ht hx l.length k 0 (by omega) (by omega)
end
theorem same_ok {c : Cfg} (h : c.okB = true) {k : Nat} (hk : 100 < k) : foghornref13_Same.f k (c.rs.map ofRcv) (c.ts.map ofRte) c.rep c.beat (c.rs.map ofRcv) (c.ts.map ofRte) c.rep c.beat = some true := by
  obtain ⟨_, h2, _, h4, _, h6, _, _⟩ := Go.Proofs.YtjfknmlchdifjaaGreatDoor.okB_parts h
  have e1 : (c.rs.map ofRcv).length = c.rs.length := List.length_map _
  have e2 : (c.ts.map ofRte).length = c.ts.length := List.length_map _
  have hm : c.ts.length * 8 ≤ 32 := by omega
  refine same13_f (M := 4) (by omega) (by omega) (by omega) (fun x hx => ?_) (by rw [e1, e2]; omega)
  obtain ⟨y, hy, rfl⟩ := List.mem_map.1 hx
  obtain ⟨_, _, g1, g2, _⟩ := rteB_parts (h2 y hy)
  exact ⟨g1, by show (y.asked.map ofMat).length ≤ 4; rw [List.length_map]; exact g2⟩
theorem cfgP_bad {l : List UInt8} (h : (cfgP l).2.2 ≠ 0) : (cfgP l).1 = Cfg.zero := by
  unfold cfgP at h ⊢
  exact (linesS_bad [] h).1
theorem same_cfgP (l : List UInt8) {k : Nat} (hk : 100 < k) : foghornref13_Same.f k ((cfgP l).1.rs.map ofRcv) ((cfgP l).1.ts.map ofRte) (cfgP l).1.rep (cfgP l).1.beat ((cfgP l).1.rs.map ofRcv) ((cfgP l).1.ts.map ofRte) (cfgP l).1.rep (cfgP l).1.beat = some true := by
  by_cases h : (cfgP l).2.2 = 0
  · exact same_ok (cfgP_okB h) hk
  · rw [cfgP_bad h]
    exact same13_f (l := []) (t := []) (M := 0) (Nat.zero_le _) (Nat.zero_le _) (Nat.zero_le _) (fun x hx => absurd hx (by simp)) (by show 0 + 0 * 4 + 3 < k; omega)
theorem cfgA {b : ByteArray} (hs : b.size ≤ 100000) : config_Parse.f b = some ((cfgP b.data.toList).1.rs.map ofRcv, (cfgP b.data.toList).1.ts.map ofRte, (cfgP b.data.toList).1.rep, (cfgP b.data.toList).1.beat, (cfgP b.data.toList).2.1, (cfgP b.data.toList).2.2) := if_pos hs
theorem cfgRA {b : ByteArray} (hs : b.size ≤ 100000) : foghornref13_Parse.f b = some ((cfgP b.data.toList).1.rs.map ofRcv, (cfgP b.data.toList).1.ts.map ofRte, (cfgP b.data.toList).1.rep, (cfgP b.data.toList).1.beat, (cfgP b.data.toList).2.1, (cfgP b.data.toList).2.2) := if_pos hs
theorem configParses_pure (a0 : ByteArray) : foghornlaw13_ConfigParses.f 101 a0 = some true := by
  have e1 := mn_eq (a0.size : Int) 1500
  have z1 := cutB_size 1500 a0
  unfold foghornlaw13_ConfigParses.f
  rw [cutB_mn 1500 1500 _ rfl, if_pos (by omega), if_pos (by omega)]
  generalize cutB 1500 a0 = s at z1 ⊢
  rw [cfgA (by omega), cfgRA (by omega), Option.bind_some, Option.bind_some, alive13_f, Option.bind_some, if_pos rfl, if_pos rfl, if_pos rfl]
  refine (congrArg (fun o => Option.bind o _) (same_cfgP _ (by omega))).trans ?_
  rfl
theorem ConfigParses_walk (a0 : ByteArray) (w : World) (hG : GOK w) (h0 : a0.size ≤ maxLen) :
    Calls Tryz.prog 7 #[.string a0] w fun e w' => e = .returned (.bool true) ∧ Below w.heap.size w w' :=
  foghornlaw13_ConfigParses.calls 101 a0 true w hG (configParses_pure a0)
end Go.Proofs.YtjfknmlchdifjaaGreatDoorQ.P
namespace Go.Proofs.YtjfknmlchdifjaaGreatDoor
open Go
variable {H : Type} {enc : TypeId × Value → H}
theorem handed_and_shaped {a : Assume} {C : Checked} {os : Os} {f : FuncId} {fn : Func} {s : ChangeSpec} {conds : List PathCond} {apart fresh handsOn again : Bool} {X : World → Array Value → Prop}
    (hX : ∀ (w w' : World) (args : Array Value), w.heap = w'.heap → X w args → X w' args)
    (own : ownKnob C.prog.godebug = none) (started : os.Started) (noInit : C.prog.inits.idxOf? f = none) (hfn : C.prog.funcs[f]? = some fn)
    (witness : ∃ (w : World) (tape : Tape) (i : Input), w.os = os ∧ (w.forCall tape i).Shaped C.prog ∧ i.vars = [] ∧ Input.okWide C.prog (w.forCall tape i) .any w.heap.size f i ∧
      ((s.pre enc C.prog fn conds apart (w.forCall tape i).memory i.args ∧ X (w.forCall tape i).memory i.args) ∧ sizedMet enc C.prog fn (OpenSpec.ofChange s) apart (w.forCall tape i).memory i.args) ∧ a.holds C.prog (lone (Frame.enter C.prog f i.args .normal) [] (w.forCall tape i)))
    (contract : ∀ (W : World) (base : Nat) (args : Array Value) (ds gs : List (DataW H)) (before : List MemPlace),
      (∀ (j : Nat) t v, fn.params[j]? = some t → args[j]? = some v → Value.okWide C.prog W .any base t v) →
      DataW.Whole enc C.prog fn.params.toList s.vars apart W args.toList ds gs before →
      conds.all (PathCond.test C.prog ⟨fn.params.toList, ds, s.plain.varTypes C.prog, gs⟩) = true →
      (DataW.weightsEach C.prog (fn.params.toList ++ s.plain.varTypes C.prog) (ds ++ gs)).all (· ≤ reachBytes) = true → X W args → W.ShapedOpen C.prog →
      a.holds C.prog (lone (Frame.enter C.prog f args .normal) [] W) →
      Calls C.prog f args W fun e W' => ∃ v, e = .returned v ∧ s.post enc C.prog fn apart fresh handsOn again W args v W') :
    ReturnsInHanded a C os f .any (fun w args => (s.pre enc C.prog fn conds apart w args ∧ X w args) ∧ sizedMet enc C.prog fn (OpenSpec.ofChange s) apart w args) (s.post enc C.prog fn apart fresh handsOn again) := by
  refine returnsInHanded_of_calls own started noInit witness ?_
  intro w tape i _ hsh _ hok hpre hholds
  obtain ⟨_, _, _, fn', hfn', _, _, _, _, hval⟩ := hok
  have e : fn' = fn := Option.some.inj (hfn'.symm.trans hfn)
  subst e
  obtain ⟨⟨⟨ds, gs, before, hw, hc⟩, hx⟩, hz⟩ := hpre
  have hw' := DataW.Whole.of_heap (w' := w.forCall tape i) (by rfl) hw
  refine (contract (w.forCall tape i) w.heap.size i.args ds gs before hval hw' hc (hz.weights hw) (hX _ _ _ (by rfl) hx) hsh hholds).mono fun e W' ⟨v, he, hp⟩ => ?_
  subst he
  exact ChangeSpec.post_blind hp
end Go.Proofs.YtjfknmlchdifjaaGreatDoor
namespace Go.Proofs.YtjfknmlchdifjaaGreatDoor.configParses
open Go.ChangeShapes Go.WideShapes Go.ChangeAt Go.WideMaps Go.WideElems Go.RowKit Go.Proofs.YtjfknmlchdifjaaGreatDoorQ.P Go.Proofs.YtjfknmlchdifjaaGreatDoorQ
open Go.ChangeMaps (open_string shut_string)
theorem own : ownKnob Tryz.prog.godebug = none := by kernel_rfl
theorem laidOut : laidOutB Tryz.prog = true := by kernel_rfl
def laidL : List (String × DataW Unit) := [("math/bits.deBruijn32tab", Rows.laid_math_bits_deBruijn32tab), ("math/bits.deBruijn64tab", Rows.laid_math_bits_deBruijn64tab), ("internal/strconv.uint64pow10", Rows.laid_internal_strconv_uint64pow10), ("unicode/utf8.acceptRanges", Rows.laid_unicode_utf8_acceptRanges), ("strconv.ErrRange", Rows.laid_strconv_ErrRange), ("strconv.ErrSyntax", Rows.laid_strconv_ErrSyntax), ("unicode/utf8.first", Rows.laid_unicode_utf8_first)]
theorem laid_met (os : Os) (args : Array Value) : laidMetH Tryz.prog laidL ((World.laidAll Tryz.prog os laidL).forCall (fun _ _ => 0) ⟨#[], args, []⟩).memory := by
  rw [MakeChecks.laidMetH_plain _ _ _ (by kernel_rfl)]; exact laidMet_laidAll _ (by kernel_rfl) (by kernel_rfl)
set_option maxRecDepth 100000 in
theorem starErr : "*" ++ "errors.errorString" = "*errors.errorString" := by decide
theorem rowErr (u : TypeId) (h : Tryz.prog.typeName? 3 u = some "*errors.errorString") : u = 228 := typeName_ptr_named (nm := "errors.errorString") (by rw [starErr]; kernel_rfl) (by kernel_rfl) (by decide) u (by rw [starErr]; exact h)
set_option maxRecDepth 100000 in
theorem gok_of {W : World} (h : laidMetH Tryz.prog laidL W) (hs : W.ShapedOpen Tryz.prog) : GOK W := by
  rw [MakeChecks.laidMetH_plain _ _ _ (by kernel_rfl)] at h
  have h00 := h
  obtain ⟨ps, ⟨g0, t0, cs0, f0, p0, q0, hg0, ht0, hv0, hd0, ⟨g1, t1, cs1, f1, p1, q1, hg1, ht1, hv1, hd1, ⟨g2, t2, cs2, f2, p2, q2, hg2, ht2, hv2, hd2, ⟨g3, t3, cs3, f3, p3, q3, hg3, ht3, hv3, hd3, ⟨g4, t4, cs4, f4, p4, q4, hg4, ht4, hv4, hd4, ⟨g5, t5, cs5, f5, p5, q5, hg5, ht5, hv5, hd5, ⟨g6, t6, cs6, f6, p6, q6, hg6, ht6, hv6, hd6, _, _⟩, _⟩, _⟩, _⟩, _⟩, _⟩, _⟩, _, _⟩ := h
  have k1 : Lib.TabIs Tryz.prog W "math/bits.deBruijn64tab" .u8 tab_math_bits_deBruijn64tab := by
    obtain rfl := Option.some.inj ((show Tryz.prog.globalNamed "math/bits.deBruijn64tab" = some 7 by kernel_rfl).symm.trans hg1)
    obtain rfl := Option.some.inj ((show (Tryz.prog.globals[7]?).map (·.type) = some 232 by kernel_rfl).symm.trans ht1)
    unfold Lib.TabIs
    have hd' := Lib.cells_of_tab (zs := tab_math_bits_deBruijn64tab) (k := .u8) Tryz.underlying232 Tryz.underlying5 (by kernel_rfl) (by kernel_rfl) hd1
    rw [hv1, ← hd']
  have k2 : Lib.TabIs Tryz.prog W "internal/strconv.uint64pow10" .u64 tab_internal_strconv_uint64pow10 := by
    obtain rfl := Option.some.inj ((show Tryz.prog.globalNamed "internal/strconv.uint64pow10" = some 1 by kernel_rfl).symm.trans hg2)
    obtain rfl := Option.some.inj ((show (Tryz.prog.globals[1]?).map (·.type) = some 205 by kernel_rfl).symm.trans ht2)
    unfold Lib.TabIs
    have hd' := Lib.cells_of_tab (zs := tab_internal_strconv_uint64pow10) (k := .u64) Tryz.underlying205 Tryz.underlying182 (by kernel_rfl) (by kernel_rfl) hd2
    rw [hv2, ← hd']
  have kmax : ∃ m, W.cell? ⟨0, 0, none⟩ = some (.int .i64 m) := Go.Proofs.cell_of_shapedOpen_int hs (of_decide_eq_true (by kernel_rfl)) (show ((begin Tryz.prog (fun _ _ => 0) default).world.heap[0]?).bind Obj.row? = some (#[.int .i64 0], 3) by kernel_rfl) rfl (by kernel_rfl) (by kernel_rfl) Tryz.underlying3
  have kerrsyntax : ∃ t p, W.cell? ⟨4, 0, none⟩ = some (.iface t p) := by
    obtain ⟨a, s, hv, _⟩ := laid_sentinel (tp := 228) (te := 230) (ts := 9) (laidMet.tail (laidMet.tail (laidMet.tail (laidMet.tail (laidMet.tail (h00)))))) (show Tryz.prog.globalNamed "strconv.ErrSyntax" = some 4 by kernel_rfl) (show (Tryz.prog.globals[4]?).map (·.type) = some 100 by kernel_rfl) Tryz.underlying100 rowErr Tryz.underlying228 Tryz.underlying230 rfl rfl Tryz.underlying9 (by kernel_rfl) (by kernel_rfl)
    have h0 := World.var?_cell (show Tryz.prog.globalNamed "strconv.ErrSyntax" = some 4 by kernel_rfl) hv 0
    exact ⟨_, _, by simpa using h0⟩
  have kerrrange : ∃ t p, W.cell? ⟨5, 0, none⟩ = some (.iface t p) := by
    obtain ⟨a, s, hv, _⟩ := laid_sentinel (tp := 228) (te := 230) (ts := 9) (laidMet.tail (laidMet.tail (laidMet.tail (laidMet.tail (h00))))) (show Tryz.prog.globalNamed "strconv.ErrRange" = some 5 by kernel_rfl) (show (Tryz.prog.globals[5]?).map (·.type) = some 100 by kernel_rfl) Tryz.underlying100 rowErr Tryz.underlying228 Tryz.underlying230 rfl rfl Tryz.underlying9 (by kernel_rfl) (by kernel_rfl)
    have h0 := World.var?_cell (show Tryz.prog.globalNamed "strconv.ErrRange" = some 5 by kernel_rfl) hv 0
    exact ⟨_, _, by simpa using h0⟩
  exact ⟨k1, k2, kmax, kerrsyntax, kerrrange, trivial⟩
set_option maxRecDepth 100000 in
theorem lifted (os : Os) (started : os.Started) (H : Type) (enc : TypeId × Value → H) :
    ReturnsInHanded {} Tryz.checked os 7 .any (fun w args => (Rows.configParsesSpec.pre enc Tryz.prog Tryz.f7 [] false w args ∧ laidMetH Tryz.prog laidL w) ∧ sizedMet enc Tryz.prog Tryz.f7 (OpenSpec.ofChange Rows.configParsesSpec) false w args) (Rows.configParsesSpec.post enc Tryz.prog Tryz.f7 false true false false) := by
  refine handed_and_shaped (C := Tryz.checked) (X := fun w _ => laidMetH Tryz.prog laidL w) (fun _ _ _ hh h => h.of_heap hh) own started (by kernel_rfl) Tryz.func7
    (ChangeSpec.witness_shaped (enc := enc) (C := Tryz.checked) (os := os) (X := fun w _ => laidMetH Tryz.prog laidL w) false (World.laidAll Tryz.prog os laidL) #[.string ByteArray.empty] 8 (World.laidAll_os _ _ _) (World.shaped_of_ZipB (by kernel_rfl) (by kernel_rfl)) (by kernel_rfl) (by kernel_rfl) (by kernel_rfl) (laid_met os _)) ?_
  intro W base args ds gs before hval0 hW _ _ hL hSh _
  have hG := gok_of hL hSh
  have hval : ∀ (j : Nat) t v, Tryz.f7.params[j]? = some t → args[j]? = some v → Value.okWide Tryz.prog W .any base t v := hval0
  have hW' := hW
  obtain ⟨p, q, hA0, hV, rfl, hfz, hnd⟩ := hW
  have hA : DataW.TrodAll enc Tryz.prog W 0 (fun _ => true) true Tryz.f7.params.toList args.toList ds p := hA0
  rw [Tryz.params7] at hA hval
  obtain ⟨v0, vs0, d0, ds0, p0, q0, hargs, rfl, rfl, h0, r0⟩ := trodAll_cons hA
  obtain ⟨rfl, rfl, rfl⟩ := trodAll_nil r0
  obtain rfl : args = #[v0] := by cases args; simp_all
  obtain ⟨rfl, rfl⟩ := trodVars_none hV
  have lt0 : ∀ x ∈ p0, x.block < W.heap.size := by obtain ⟨m, hm⟩ := h0; exact DataW.trod_lt m _ _ _ hm
  have k0 := h0
  obtain ⟨a0, rfl, rfl, rfl, w0⟩ := open_string Tryz.underlying9 (hval 0 9 v0 rfl rfl) h0
  clear hA0 hval0
  refine (ConfigParses_walk a0 W hG w0).mono fun e W' ⟨he, bel⟩ => ?_
  subst he
  exact ⟨_, rfl, _, _, _, [], _, [], hW', trodAll_mk1 (shut_bool Tryz.underlying4 _), (trodAll_cons_mk (Below.trod laidOut (by kernel_rfl) (of_decide_eq_true (by kernel_rfl)) k0 bel lt0) trodAll_mk0), rfl, bel.frame _, fun h => by cases h⟩
theorem over : Rows.ConfigParsesSaid :=
  OpenClaim.holds_of_wide 7 Tryz.f7 rfl rfl rfl rfl rfl rfl rfl ⟨rfl, rfl, rfl, rfl, rfl⟩ rfl rfl rfl rfl rfl (by kernel_rfl) Tryz.func7 (by kernel_rfl)
    (of_decide_eq_true (by kernel_rfl)) (by unfold Func.isWrapper; first | (rw [if_pos (by decide +kernel)]; kernel_rfl) | (rw [if_neg (by decide +kernel)]; exact ⟨rfl, rfl⟩))
    (fun os started H enc _ => lifted os started H enc)
end Go.Proofs.YtjfknmlchdifjaaGreatDoor.configParses
namespace Go.Proofs.YtjfknmlchdifjaaGreatDoor
theorem configParses_holds : Rows.ConfigParsesCardSaid :=
  Claim7.holds_tied_plain_at .later [] [.data, .data, .data, .data, .sentinel, .sentinel, .pinned] true (true, "f5978d46c07f0da5ee69488404ae682c79dd4e309cc46e29ddb0ab219e64abfa") true configParses.over (fun _ h => by cases h) (by kernel_rfl) (fun _ h => by cases h) configParses_row_tie rfl ⟨rfl, rfl⟩ (by kernel_rfl) rfl
    (fun f fn hf hfn => by
      obtain rfl : f = 7 := Option.some.inj ((show Tryz.prog.funcNamed "foghorn/foghornlaw13.ConfigParses" = some 7 by kernel_rfl).symm.trans hf) |>.symm
      obtain rfl : fn = Tryz.f7 := (Option.some.inj (Tryz.func7.symm.trans hfn)).symm
      exact ⟨by kernel_rfl, fun j t ht => by
        rw [Tryz.params7] at ht
        have hm : t ∈ [9] := by simpa using Array.mem_of_getElem? ht
        have hall : ([9].all fun u => !Tryz.prog.wantsStandIn u) = true := by kernel_rfl
        exact (show Tryz.prog.wantsStandIn t = false by simpa using List.all_eq_true.1 hall t hm)⟩)
    (by kernel_rfl)
#print axioms configParses_holds
end Go.Proofs.YtjfknmlchdifjaaGreatDoor
