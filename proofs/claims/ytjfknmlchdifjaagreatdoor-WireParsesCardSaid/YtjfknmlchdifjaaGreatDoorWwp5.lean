/- The statement 'WireParses': for every input the law returns true, and each argument reads behind the call as it read before; the library's tables are tied to the program's text. No condition. -/
import Derived.WideShapes
import Derived.HandedShaped
import Derived.SizedLaws
import Derived.LaidMore
import Derived.Test.YtjfknmlchdifjaaGreatDoorRows
import Derived.Test.YtjfknmlchdifjaaGreatDoorCards
import Derived.Test.YtjfknmlchdifjaaGreatDoorTie
import Derived.WalkKit
import Derived.ProofKit
import Derived.OpenShut
import Derived.ShutString
import Derived.Below
import Derived.Carry
import Derived.Stop.Joined
import Derived.Stop.LaidErr
import Derived.SevenTiedAt
import Derived.Lib.LaidTab
import Derived.Lay
import Derived.LaidOnce
import Derived.Shelf.Vars
import Derived.Test.YtjfknmlchdifjaaGreatDoorWwp1
import Derived.Test.YtjfknmlchdifjaaGreatDoorWwp2
import Derived.Test.YtjfknmlchdifjaaGreatDoorWwp3
import Derived.Test.YtjfknmlchdifjaaGreatDoorWwp4
set_option linter.unusedVariables false
set_option linter.unusedSimpArgs false
namespace Go.Proofs.YtjfknmlchdifjaaGreatDoorQ.P
open Go.RowKit Go.Proofs.YtjfknmlchdifjaaGreatDoorW.PrintWords Go.Proofs.YtjfknmlchdifjaaGreatDoorW.PrintLast Go.Proofs.YtjfknmlchdifjaaGreatDoorW.PrintMore
attribute [local go_sem] max2_int min2_int max_two min_two max_three min_three max_four min_four
attribute [local go_sem high] eqA32
def foghornlaw12_WireParses.j0 : Nat → Int → Bool → Bool → Int → ByteArray → ByteArray → Int → ByteArray → ByteArray → Option (Bool)
 | 0, _, _, _, _, _, _, _, _, _ => none
 | k + 1, x10, x12, x55, x369000, x369001, x369002, x374000, x374001, x374002 => if x55 = true then (some false) else (if x12 = true then (if x10 = 0 then (some (x369000 == x374000 && (x369001.toList == x374001.toList && (x369002.toList == x374002.toList)))) else (some false)) else (if x10 = 13 then (some (x369000 == 0 && (x369001.toList == ([] : List UInt8) && (x369002.toList == ([] : List UInt8))))) else (some false)))
def foghornlaw12_WireParses.f (k : Nat) (a0 : ByteArray) (a1 : ByteArray) : Option (Bool) := if 0 ≤ (mn (a0.size : Int) 220) then (if (mn (a0.size : Int) 220) ≤ (a0.size : Int) then (if 0 ≤ (mn (a1.size : Int) 30) then (if (mn (a1.size : Int) 30) ≤ (a1.size : Int) then ((wire_Parse.f k (a0.extract 0 ((mn (a0.size : Int) 220) : Int).toNat)).bind fun bt342 => ((foghornref12_Parse.f k (a0.extract 0 ((mn (a0.size : Int) 220) : Int).toNat)).bind fun bt353 => ((wire_Asked.f (a1.extract 0 ((mn (a1.size : Int) 30) : Int).toNat)).bind fun bt364 => ((foghornref12_Asked.f k (a1.extract 0 ((mn (a1.size : Int) 30) : Int).toNat)).bind fun bt369 => (if bt342.2.2.2.2.2 = bt353.2.2.2.2.2 then ((foghornref12_Same.f k bt342.1 bt342.2.1 bt342.2.2.1 bt342.2.2.2.1 bt342.2.2.2.2.1 bt353.1 bt353.2.1 bt353.2.2.1 bt353.2.2.2.1 bt353.2.2.2.2.1).bind fun t374 => (if t374 = true then ((foghornlaw12_alive.f k).bind fun t375 => (foghornlaw12_WireParses.j0 k bt364.2.2.2 bt369.2.2.2 (!t375) bt364.1 bt364.2.1 bt364.2.2.1 bt369.1 bt369.2.1 bt369.2.2.1)) else (foghornlaw12_WireParses.j0 k bt364.2.2.2 bt369.2.2.2 true bt364.1 bt364.2.1 bt364.2.2.1 bt369.1 bt369.2.1 bt369.2.2.1))) else (foghornlaw12_WireParses.j0 k bt364.2.2.2 bt369.2.2.2 true bt364.1 bt364.2.1 bt364.2.2.1 bt369.1 bt369.2.1 bt369.2.2.1)))))) else (none)) else (none)) else (none)) else (none)
theorem foghornlaw12_WireParses.mono_l : ∀ k, (∀ y0 y1 y2 y3 y4 y5 y6 y7 y8, LeO (foghornlaw12_WireParses.j0 k y0 y1 y2 y3 y4 y5 y6 y7 y8) (foghornlaw12_WireParses.j0 (k + 1) y0 y1 y2 y3 y4 y5 y6 y7 y8))
 | 0 => fun _ _ _ _ _ _ _ _ _ r h => by simp [foghornlaw12_WireParses.j0] at h
 | k + 1 => by
  have ih0 := foghornlaw12_WireParses.mono_l k
  ·intro y0 y1 y2 y3 y4 y5 y6 y7 y8
   unfold foghornlaw12_WireParses.j0
   repeat' first
   | (with_reducible exact ih0 _ _ _ _ _ _ _ _ _)
   | (with_reducible exact foghornlaw12_alive.mono _)
   | (with_reducible exact foghornref12_Asked.mono _ _)
   | (with_reducible exact foghornref12_Parse.mono _ _)
   | (with_reducible exact foghornref12_Same.mono _ _ _ _ _ _ _ _ _ _ _)
   | (with_reducible exact wire_Parse.mono _ _)
   | (with_reducible exact LeO.refl _)
   | (with_reducible exact LeO.none _)
   | (with_reducible refine LeO.ite ?_ ?_)
   | (with_reducible refine LeO.bind ?_ (fun _ => ?_))
   | exact ih0 _ _ _ _ _ _ _ _ _
   | exact foghornlaw12_alive.mono _
   | exact foghornref12_Asked.mono _ _
   | exact foghornref12_Parse.mono _ _
   | exact foghornref12_Same.mono _ _ _ _ _ _ _ _ _ _ _
   | exact wire_Parse.mono _ _
   | exact LeO.none _
   | refine LeO.ite ?_ ?_
   | refine LeO.bind ?_ (fun _ => ?_)
set_option maxHeartbeats 8000000 in
set_option maxRecDepth 100000 in
theorem foghornlaw12_WireParses.calls (k : Nat) (a0 : ByteArray) (a1 : ByteArray) (r : Bool) (w : World) (hG : GOK w) (h : foghornlaw12_WireParses.f k a0 a1 = some r) (hrt_ : r = true := by rfl) :
  Calls Tryz.prog 3 #[.string a0, .string a1] w fun e w' => e = .returned (.bool r) ∧ Below w.heap.size w w' := by
 have hu27 := Tryz.underlying27
 have hu32 := Tryz.underlying32
 have HG := aA hG
 clear hG
 have HB := aA (Below.refl w.heap.size w)
 have H : (if 0 ≤ (mn (a0.size : Int) 220) then (if (mn (a0.size : Int) 220) ≤ (a0.size : Int) then (if 0 ≤ (mn (a1.size : Int) 30) then (if (mn (a1.size : Int) 30) ≤ (a1.size : Int) then ((wire_Parse.f k (a0.extract 0 ((mn (a0.size : Int) 220) : Int).toNat)).bind fun bt342 => ((foghornref12_Parse.f k (a0.extract 0 ((mn (a0.size : Int) 220) : Int).toNat)).bind fun bt353 => ((wire_Asked.f (a1.extract 0 ((mn (a1.size : Int) 30) : Int).toNat)).bind fun bt364 => ((foghornref12_Asked.f k (a1.extract 0 ((mn (a1.size : Int) 30) : Int).toNat)).bind fun bt369 => (if bt342.2.2.2.2.2 = bt353.2.2.2.2.2 then ((foghornref12_Same.f k bt342.1 bt342.2.1 bt342.2.2.1 bt342.2.2.2.1 bt342.2.2.2.2.1 bt353.1 bt353.2.1 bt353.2.2.1 bt353.2.2.2.1 bt353.2.2.2.2.1).bind fun t374 => (if t374 = true then ((foghornlaw12_alive.f k).bind fun t375 => (foghornlaw12_WireParses.j0 k bt364.2.2.2 bt369.2.2.2 (!t375) bt364.1 bt364.2.1 bt364.2.2.1 bt369.1 bt369.2.1 bt369.2.2.1)) else (foghornlaw12_WireParses.j0 k bt364.2.2.2 bt369.2.2.2 true bt364.1 bt364.2.1 bt364.2.2.1 bt369.1 bt369.2.1 bt369.2.2.1))) else (foghornlaw12_WireParses.j0 k bt364.2.2.2 bt369.2.2.2 true bt364.1 bt364.2.1 bt364.2.2.1 bt369.1 bt369.2.1 bt369.2.2.1)))))) else (none)) else (none)) else (none)) else (none)) = some r := h
 clear h
 obtain ⟨ji3, hji3⟩ : ∃ j_ : Int, (mn (a0.size : Int) 220) = j_ := ⟨_, rfl⟩
 replace H : (if 0 ≤ (ji3) then (if (ji3) ≤ (a0.size : Int) then (if 0 ≤ (mn (a1.size : Int) 30) then (if (mn (a1.size : Int) 30) ≤ (a1.size : Int) then ((wire_Parse.f k (a0.extract 0 ((ji3) : Int).toNat)).bind fun bt342 => ((foghornref12_Parse.f k (a0.extract 0 ((ji3) : Int).toNat)).bind fun bt353 => ((wire_Asked.f (a1.extract 0 ((mn (a1.size : Int) 30) : Int).toNat)).bind fun bt364 => ((foghornref12_Asked.f k (a1.extract 0 ((mn (a1.size : Int) 30) : Int).toNat)).bind fun bt369 => (if bt342.2.2.2.2.2 = bt353.2.2.2.2.2 then ((foghornref12_Same.f k bt342.1 bt342.2.1 bt342.2.2.1 bt342.2.2.2.1 bt342.2.2.2.2.1 bt353.1 bt353.2.1 bt353.2.2.1 bt353.2.2.2.1 bt353.2.2.2.2.1).bind fun t374 => (if t374 = true then ((foghornlaw12_alive.f k).bind fun t375 => (foghornlaw12_WireParses.j0 k bt364.2.2.2 bt369.2.2.2 (!t375) bt364.1 bt364.2.1 bt364.2.2.1 bt369.1 bt369.2.1 bt369.2.2.1)) else (foghornlaw12_WireParses.j0 k bt364.2.2.2 bt369.2.2.2 true bt364.1 bt364.2.1 bt364.2.2.1 bt369.1 bt369.2.1 bt369.2.2.1))) else (foghornlaw12_WireParses.j0 k bt364.2.2.2 bt369.2.2.2 true bt364.1 bt364.2.1 bt364.2.2.1 bt369.1 bt369.2.1 bt369.2.2.1)))))) else (none)) else (none)) else (none)) else (none)) = some r := by first | (rw [hji3] at H; exact H) | (simp only [hji3] at H ⊢; exact H)
 (try (have hji3h : ji3 ≤ 220 := by (rw [← hji3]; unfold mn; (repeat' split) <;> omega)))
 (try (have hji3g : ji3 ≤ 64 := by omega))
 (try (have hji3l : 0 ≤ ji3 := by (rw [← hji3]; unfold mn; (repeat' split) <;> omega)))
 (try (have hji3m : 0 ≤ ji3 := by omega))
 have hji3_ : (if 220 < (a0.size : Int) then 220 else (a0.size : Int)) = ji3 := hji3
 by_cases c4 : 0 ≤ (ji3)
 ·rw [if_pos c4] at H
  have c4b0 := eq_true c4
  have c4b1 := decide_eq_true c4
  clear c4
  by_cases c5 : (ji3) ≤ (a0.size : Int)
  ·rw [if_pos c5] at H
   have c5b0 := eq_true c5
   have c5b1 := decide_eq_true c5
   clear c5
   obtain ⟨ji6, hji6⟩ : ∃ j_ : Int, (mn (a1.size : Int) 30) = j_ := ⟨_, rfl⟩
   replace H : (if 0 ≤ (ji6) then (if (ji6) ≤ (a1.size : Int) then ((wire_Parse.f k (a0.extract 0 ((ji3) : Int).toNat)).bind fun bt342 => ((foghornref12_Parse.f k (a0.extract 0 ((ji3) : Int).toNat)).bind fun bt353 => ((wire_Asked.f (a1.extract 0 ((ji6) : Int).toNat)).bind fun bt364 => ((foghornref12_Asked.f k (a1.extract 0 ((ji6) : Int).toNat)).bind fun bt369 => (if bt342.2.2.2.2.2 = bt353.2.2.2.2.2 then ((foghornref12_Same.f k bt342.1 bt342.2.1 bt342.2.2.1 bt342.2.2.2.1 bt342.2.2.2.2.1 bt353.1 bt353.2.1 bt353.2.2.1 bt353.2.2.2.1 bt353.2.2.2.2.1).bind fun t374 => (if t374 = true then ((foghornlaw12_alive.f k).bind fun t375 => (foghornlaw12_WireParses.j0 k bt364.2.2.2 bt369.2.2.2 (!t375) bt364.1 bt364.2.1 bt364.2.2.1 bt369.1 bt369.2.1 bt369.2.2.1)) else (foghornlaw12_WireParses.j0 k bt364.2.2.2 bt369.2.2.2 true bt364.1 bt364.2.1 bt364.2.2.1 bt369.1 bt369.2.1 bt369.2.2.1))) else (foghornlaw12_WireParses.j0 k bt364.2.2.2 bt369.2.2.2 true bt364.1 bt364.2.1 bt364.2.2.1 bt369.1 bt369.2.1 bt369.2.2.1)))))) else (none)) else (none)) = some r := by first | (rw [hji6] at H; exact H) | (simp only [hji6] at H ⊢; exact H)
   (try (have hji6h : ji6 ≤ 30 := by (rw [← hji6]; unfold mn; (repeat' split) <;> omega)))
   (try (have hji6g : ji6 ≤ 64 := by omega))
   (try (have hji6l : 0 ≤ ji6 := by (rw [← hji6]; unfold mn; (repeat' split) <;> omega)))
   (try (have hji6m : 0 ≤ ji6 := by omega))
   have hji6_ : (if 30 < (a1.size : Int) then 30 else (a1.size : Int)) = ji6 := hji6
   by_cases c7 : 0 ≤ (ji6)
   ·rw [if_pos c7] at H
    have c7b0 := eq_true c7
    have c7b1 := decide_eq_true c7
    clear c7
    by_cases c8 : (ji6) ≤ (a1.size : Int)
    ·rw [if_pos c8] at H
     have c8b0 := eq_true c8
     have c8b1 := decide_eq_true c8
     clear c8
     replace H := Option.bind_eq_some_iff.mp H
     obtain ⟨⟨t342, t343, t346, t347, t348, t351⟩, A90, H⟩ := H
     have A9 := aA A90
     clear A90
     replace H := Option.bind_eq_some_iff.mp H
     obtain ⟨⟨t353, t354, t357, t358, t359, t362⟩, A100, H⟩ := H
     have A10 := aA A100
     clear A100
     replace H := Option.bind_eq_some_iff.mp H
     obtain ⟨⟨t364, t365, t366, t367⟩, A110, H⟩ := H
     have A11 := aA A110
     clear A110
     replace H := Option.bind_eq_some_iff.mp H
     obtain ⟨⟨t369, t370, t371, t372⟩, A120, H⟩ := H
     have A12 := aA A120
     clear A120
     have HC13 := aA H
     clear H
     go_enter Tryz.func3, Tryz.ntmps3
     go_upto_region 6 with (first | (go_at_call 10; (with_reducible refine (wire_Parse.calls k (a0.extract 0 ((ji3) : Int).toNat) t342 t343 t346 t347 t348 t351 _ ?side1 A9.out).mono ?_); (case side1 => exact gok_below HG.out mB); rintro e w14 ⟨v344, v349, rfl, ho0, ho1, hb⟩; have n0_ := aA (Kd.R_lower ho0 (below_size mB)); have n1_ := aA (Kd.R_lower ho1 (below_size mB)); have n2_ := aA (below_step mB hb); clear HB; have HO345 := n0_; have HO350 := n1_; have HB := n2_; clear n0_ n1_ n2_; (try clear hb); (try clear hb2); (try clear hk); (try clear hi); (try clear ho0); (try clear ho1)) | ((with_reducible refine gate_dst (N := 5) rfl ?_); refine box_event ?hg (N := 5) ?hd (cs := #[.int .i64 0, .slice none 0 0, .int .i64 0, .int .i64 0, .slice none 0 0]) (t := 27) ?hr ?_; (case hd => rfl); (case hg => rfl); (case hr => first | (go_simp; done) | (go_simp; rfl)); intro gb352 hg w15 hbox hb; have n0_ := aA (Kd.R_below (mR HO345.out) hb); have n1_ := aA (Kd.R_below (mR HO350.out) hb); have n2_ := aA (below_step mB hb); have n3_ := aA (hbox); have n4_ := aA ((bZ hg mB)); have n5_ := aA ((bZ hg mB)); clear HO345 HO350 HB; have HO345 := n0_; have HO350 := n1_; have HB := n2_; have BK352 := n3_; have GW352 := n4_; have GE352 := n5_; clear n0_ n1_ n2_ n3_ n4_ n5_ hb hbox hg; obtain ⟨hcz16_0, hcz16_1, hcz16_2, hcz16_3, hcz16_4⟩ := bC5 BK352.out; obtain ⟨hfz16_0, hfz16_1, hfz16_2, hfz16_3, hfz16_4⟩ := bF5 BK352.out; obtain ⟨Ao17, co17, eo17⟩ := Kd.R_slice HO345.out; subst eo17; obtain ⟨Ao18, co18, eo18⟩ := Kd.R_slice HO350.out; subst eo18) | (go_at_call 11; (with_reducible refine (foghornref12_Parse.calls k (a0.extract 0 ((ji3) : Int).toNat) t353 t354 t357 t358 t359 t362 _ A10.out).mono ?_); rintro e w19 ⟨v355, v360, rfl, ho0, ho1, hb⟩; have n0_ := aA (Kd.R_elder' (by (with_reducible repeat (first | apply Kd.R_alloc | apply Kd.R_drewN | apply Kd.R_drew)); exact (Kd.R_mono (rF 4 (rF 3 (rF 2 (rF 1 (rF 0 (Kd.R_types HO345.out BK352.out (by decide))))))) (fun _ h_ => h_.1))) (Kd.R_base ho0) hb); have n1_ := aA (Kd.R_elder' (by (with_reducible repeat (first | apply Kd.R_alloc | apply Kd.R_drewN | apply Kd.R_drew)); exact (Kd.R_mono (rF 4 (rF 3 (rF 2 (rF 1 (rF 0 (Kd.R_types HO350.out BK352.out (by decide))))))) (fun _ h_ => h_.1))) (Kd.R_base ho1) hb); have n2_ := aA (Kd.R_lower (Kd.R_new' ho0 (Kd.R_lt (by (with_reducible repeat (first | apply Kd.R_alloc | apply Kd.R_drewN | apply Kd.R_drew)); exact (Kd.R_mono (rF 4 (rF 3 (rF 2 (rF 1 (rF 0 (Kd.R_types HO345.out BK352.out (by decide))))))) (fun _ h_ => h_.1))))) (below_size (mD1 GE352.out))); have n3_ := aA (Kd.R_lower (Kd.R_new' ho1 (Kd.R_lt (by (with_reducible repeat (first | apply Kd.R_alloc | apply Kd.R_drewN | apply Kd.R_drew)); exact (Kd.R_mono (rF 4 (rF 3 (rF 2 (rF 1 (rF 0 (Kd.R_types HO350.out BK352.out (by decide))))))) (fun _ h_ => h_.1))))) (below_size (mD1 GE352.out))); have n4_ := aA (blk_below (g := gb352) (o := .cells #[.int .i64 t342, .slice Ao17 t343.length co17, .int .i64 t346, .int .i64 t347, .slice Ao18 t348.length co18] 27 (0, 0)) (by (with_reducible repeat (first | refine blk_drewN ?_ _ | refine blk_drew ?_ | refine blk_alloc ?_ _)); have h_ := BK352.out; exact pK 4 (pK 3 (pK 2 (pK 1 (pK 0 (h_)))))) hb); have n5_ := aA (below_step (mD1 GE352.out) hb); clear HO345 HO350 BK352 HB; have HO345 := n0_; have HO350 := n1_; have HO356 := n2_; have HO361 := n3_; have BK352 := n4_; have HB := n5_; clear n0_ n1_ n2_ n3_ n4_ n5_; (try clear hb); (try clear hb2); (try clear hk); (try clear hi); (try clear ho0); (try clear ho1)) | ((with_reducible refine gate_dst (N := 7) rfl ?_); refine box_event ?hg (N := 7) ?hd (cs := #[.int .i64 0, .slice none 0 0, .int .i64 0, .int .i64 0, .slice none 0 0]) (t := 27) ?hr ?_; (case hd => rfl); (case hg => rfl); (case hr => first | (go_simp; done) | (go_simp; rfl)); intro gb363 hg w20 hbox hb; have n0_ := aA (Kd.R_below (mR HO345.out) hb); have n1_ := aA (Kd.R_below (mR HO350.out) hb); have n2_ := aA (Kd.R_below (mR HO356.out) hb); have n3_ := aA (Kd.R_below (mR HO361.out) hb); have n4_ := aA (bB BK352.out hb); have n5_ := aA (below_step (mD1 GE352.out) hb); have n6_ := aA (hbox); have n7_ := aA ((bZ hg (mD1 GE352.out))); have n8_ := aA ((bZ hg (mD1 GE352.out))); have n9_ := aA ((bL hg BK352.out)); have n10_ := aA ((bG hg BK352.out)); clear HO345 HO350 HO356 HO361 BK352 HB; have HO345 := n0_; have HO350 := n1_; have HO356 := n2_; have HO361 := n3_; have BK352 := n4_; have HB := n5_; have BK363 := n6_; have GW363 := n7_; have GE363 := n8_; have NB352_363 := n9_; have NB363_352 := n10_; clear n0_ n1_ n2_ n3_ n4_ n5_ n6_ n7_ n8_ n9_ n10_ hb hbox hg; have hnb21 := NB363_352.out; have hnc21 := NB352_363.out; obtain ⟨hcz22_0, hcz22_1, hcz22_2, hcz22_3, hcz22_4⟩ := bC5 BK363.out; obtain ⟨hfz22_0, hfz22_1, hfz22_2, hfz22_3, hfz22_4⟩ := bF5 BK363.out; obtain ⟨Ao23, co23, eo23⟩ := Kd.R_slice HO356.out; subst eo23; obtain ⟨Ao24, co24, eo24⟩ := Kd.R_slice HO361.out; subst eo24) | (go_at_call 12; (with_reducible refine (wire_Asked.calls (a1.extract 0 ((ji6) : Int).toNat) t364 t365 t366 t367 _ A11.out).mono ?_); rintro e w25 ⟨rfl, hb⟩; have n0_ := aA (Kd.R_below (by (with_reducible repeat (first | apply Kd.R_alloc | apply Kd.R_drewN | apply Kd.R_drew)); exact (Kd.R_mono (rF 4 (rF 3 (rF 2 (rF 1 (rF 0 (Kd.R_types HO345.out BK363.out (by decide))))))) (fun _ h_ => h_.1))) hb); have n1_ := aA (Kd.R_below (by (with_reducible repeat (first | apply Kd.R_alloc | apply Kd.R_drewN | apply Kd.R_drew)); exact (Kd.R_mono (rF 4 (rF 3 (rF 2 (rF 1 (rF 0 (Kd.R_types HO350.out BK363.out (by decide))))))) (fun _ h_ => h_.1))) hb); have n2_ := aA (Kd.R_below (by (with_reducible repeat (first | apply Kd.R_alloc | apply Kd.R_drewN | apply Kd.R_drew)); exact (Kd.R_mono (rF 4 (rF 3 (rF 2 (rF 1 (rF 0 (Kd.R_types HO356.out BK363.out (by decide))))))) (fun _ h_ => h_.1))) hb); have n3_ := aA (Kd.R_below (by (with_reducible repeat (first | apply Kd.R_alloc | apply Kd.R_drewN | apply Kd.R_drew)); exact (Kd.R_mono (rF 4 (rF 3 (rF 2 (rF 1 (rF 0 (Kd.R_types HO361.out BK363.out (by decide))))))) (fun _ h_ => h_.1))) hb); have n4_ := aA (blk_below (g := gb352) (o := .cells #[.int .i64 t342, .slice Ao17 t343.length co17, .int .i64 t346, .int .i64 t347, .slice Ao18 t348.length co18] 27 (0, 0)) (by (with_reducible repeat (first | refine blk_drewN ?_ _ | refine blk_drew ?_ | refine blk_alloc ?_ _)); refine blk_far ?_ NB352_363.out _; (with_reducible repeat (first | refine blk_drewN ?_ _ | refine blk_drew ?_ | refine blk_alloc ?_ _)); refine blk_far ?_ NB352_363.out _; (with_reducible repeat (first | refine blk_drewN ?_ _ | refine blk_drew ?_ | refine blk_alloc ?_ _)); refine blk_far ?_ NB352_363.out _; (with_reducible repeat (first | refine blk_drewN ?_ _ | refine blk_drew ?_ | refine blk_alloc ?_ _)); refine blk_far ?_ NB352_363.out _; (with_reducible repeat (first | refine blk_drewN ?_ _ | refine blk_drew ?_ | refine blk_alloc ?_ _)); refine blk_far ?_ NB352_363.out _; (with_reducible repeat (first | refine blk_drewN ?_ _ | refine blk_drew ?_ | refine blk_alloc ?_ _)); exact BK352.out) hb); have n5_ := aA (blk_below (g := gb363) (o := .cells #[.int .i64 t353, .slice Ao23 t354.length co23, .int .i64 t357, .int .i64 t358, .slice Ao24 t359.length co24] 27 (0, 0)) (by (with_reducible repeat (first | refine blk_drewN ?_ _ | refine blk_drew ?_ | refine blk_alloc ?_ _)); have h_ := BK363.out; exact pK 4 (pK 3 (pK 2 (pK 1 (pK 0 (h_)))))) hb); have n6_ := aA (below_step (mD2 GE352.out GE363.out) hb); clear HO345 HO350 HO356 HO361 BK352 BK363 HB; have HO345 := n0_; have HO350 := n1_; have HO356 := n2_; have HO361 := n3_; have BK352 := n4_; have BK363 := n5_; have HB := n6_; clear n0_ n1_ n2_ n3_ n4_ n5_ n6_; (try clear hb); (try clear hb2); (try clear hk); (try clear hi)) | ((with_reducible refine gate_dst (N := 9) rfl ?_); refine box_event ?hg (N := 9) ?hd (cs := #[.int .i64 0, .string (⟨#[]⟩ : ByteArray), .string (⟨#[]⟩ : ByteArray)]) (t := 32) ?hr ?_; (case hd => rfl); (case hg => rfl); (case hr => first | (go_simp; done) | (go_simp; rfl)); intro gb368 hg w26 hbox hb; have n0_ := aA (Kd.R_below (mR HO345.out) hb); have n1_ := aA (Kd.R_below (Kd.R_elderB (mR HO350.out) gb368 (Nat.le_of_eq hg.symm)) hb); have n2_ := aA (Kd.R_below (mR HO356.out) hb); have n3_ := aA (Kd.R_below (Kd.R_elderB (mR HO361.out) gb368 (Nat.le_of_eq hg.symm)) hb); have n4_ := aA (bB BK352.out hb); have n5_ := aA (bB BK363.out hb); have n6_ := aA (below_step (mD2 GE352.out GE363.out) hb); have n7_ := aA (hbox); have n8_ := aA ((bZ hg (mD2 GE352.out GE363.out))); have n9_ := aA ((bZ hg (mD2 GE352.out GE363.out))); have n10_ := aA ((bL hg BK352.out)); have n11_ := aA ((bG hg BK352.out)); have n12_ := aA ((bL hg BK363.out)); have n13_ := aA ((bG hg BK363.out)); clear HO345 HO350 HO356 HO361 BK352 BK363 HB; have HO345 := n0_; have HO350 := n1_; have HO356 := n2_; have HO361 := n3_; have BK352 := n4_; have BK363 := n5_; have HB := n6_; have BK368 := n7_; have GW368 := n8_; have GE368 := n9_; have NB352_368 := n10_; have NB368_352 := n11_; have NB363_368 := n12_; have NB368_363 := n13_; clear n0_ n1_ n2_ n3_ n4_ n5_ n6_ n7_ n8_ n9_ n10_ n11_ n12_ n13_ hb hbox hg; have hnb27 := NB368_352.out; have hnc27 := NB352_368.out; have hnb28 := NB368_363.out; have hnc28 := NB363_368.out; obtain ⟨hcz29_0, hcz29_1, hcz29_2⟩ := bC3 BK368.out; obtain ⟨hfz29_0, hfz29_1, hfz29_2⟩ := bF3 BK368.out) | (go_at_call 13; (with_reducible refine (foghornref12_Asked.calls k (a1.extract 0 ((ji6) : Int).toNat) t369 t370 t371 t372 _ A12.out).mono ?_); rintro e w30 ⟨rfl, hb⟩; have n0_ := aA (Kd.R_below (by (with_reducible repeat (first | apply Kd.R_alloc | apply Kd.R_drewN | apply Kd.R_drew)); exact (Kd.R_mono (rF 2 (rF 1 (rF 0 (Kd.R_types HO345.out BK368.out (by decide))))) (fun _ h_ => h_.1))) hb); have n1_ := aA (Kd.R_below (by (with_reducible repeat (first | apply Kd.R_alloc | apply Kd.R_drewN | apply Kd.R_drew)); exact (Kd.R_mono (rF 2 (rF 1 (rF 0 (Kd.R_mono HO350.out (fun k_ hk => (⟨hk, hk.2⟩ : _ ∧ k_ ≠ gb368)))))) (fun _ h_ => h_.1))) hb); have n2_ := aA (Kd.R_below (by (with_reducible repeat (first | apply Kd.R_alloc | apply Kd.R_drewN | apply Kd.R_drew)); exact (Kd.R_mono (rF 2 (rF 1 (rF 0 (Kd.R_types HO356.out BK368.out (by decide))))) (fun _ h_ => h_.1))) hb); have n3_ := aA (Kd.R_below (by (with_reducible repeat (first | apply Kd.R_alloc | apply Kd.R_drewN | apply Kd.R_drew)); exact (Kd.R_mono (rF 2 (rF 1 (rF 0 (Kd.R_mono HO361.out (fun k_ hk => (⟨hk, hk.2⟩ : _ ∧ k_ ≠ gb368)))))) (fun _ h_ => h_.1))) hb); have n4_ := aA (blk_below (g := gb352) (o := .cells #[.int .i64 t342, .slice Ao17 t343.length co17, .int .i64 t346, .int .i64 t347, .slice Ao18 t348.length co18] 27 (0, 0)) (by (with_reducible repeat (first | refine blk_drewN ?_ _ | refine blk_drew ?_ | refine blk_alloc ?_ _)); refine blk_far ?_ NB352_368.out _; (with_reducible repeat (first | refine blk_drewN ?_ _ | refine blk_drew ?_ | refine blk_alloc ?_ _)); refine blk_far ?_ NB352_368.out _; (with_reducible repeat (first | refine blk_drewN ?_ _ | refine blk_drew ?_ | refine blk_alloc ?_ _)); refine blk_far ?_ NB352_368.out _; (with_reducible repeat (first | refine blk_drewN ?_ _ | refine blk_drew ?_ | refine blk_alloc ?_ _)); exact BK352.out) hb); have n5_ := aA (blk_below (g := gb363) (o := .cells #[.int .i64 t353, .slice Ao23 t354.length co23, .int .i64 t357, .int .i64 t358, .slice Ao24 t359.length co24] 27 (0, 0)) (by (with_reducible repeat (first | refine blk_drewN ?_ _ | refine blk_drew ?_ | refine blk_alloc ?_ _)); refine blk_far ?_ NB363_368.out _; (with_reducible repeat (first | refine blk_drewN ?_ _ | refine blk_drew ?_ | refine blk_alloc ?_ _)); refine blk_far ?_ NB363_368.out _; (with_reducible repeat (first | refine blk_drewN ?_ _ | refine blk_drew ?_ | refine blk_alloc ?_ _)); refine blk_far ?_ NB363_368.out _; (with_reducible repeat (first | refine blk_drewN ?_ _ | refine blk_drew ?_ | refine blk_alloc ?_ _)); exact BK363.out) hb); have n6_ := aA (blk_below (g := gb368) (o := .cells #[.int .i64 t364, .string t365, .string t366] 32 (0, 0)) (by (with_reducible repeat (first | refine blk_drewN ?_ _ | refine blk_drew ?_ | refine blk_alloc ?_ _)); have h_ := BK368.out; exact pK 2 (pK 1 (pK 0 (h_)))) hb); have n7_ := aA (below_step (mD3 GE352.out GE363.out GE368.out) hb); clear HO345 HO350 HO356 HO361 BK352 BK363 BK368 HB; have HO345 := n0_; have HO350 := n1_; have HO356 := n2_; have HO361 := n3_; have BK352 := n4_; have BK363 := n5_; have BK368 := n6_; have HB := n7_; clear n0_ n1_ n2_ n3_ n4_ n5_ n6_ n7_; (try clear hb); (try clear hb2); (try clear hk); (try clear hi)) | ((with_reducible refine gate_dst (N := 11) rfl ?_); refine box_event ?hg (N := 11) ?hd (cs := #[.int .i64 0, .string (⟨#[]⟩ : ByteArray), .string (⟨#[]⟩ : ByteArray)]) (t := 32) ?hr ?_; (case hd => rfl); (case hg => rfl); (case hr => first | (go_simp; done) | (go_simp; rfl)); intro gb373 hg w31 hbox hb; have n0_ := aA (Kd.R_below (mR HO345.out) hb); have n1_ := aA (Kd.R_below (Kd.R_elderB (mR HO350.out) gb373 (Nat.le_of_eq hg.symm)) hb); have n2_ := aA (Kd.R_below (mR HO356.out) hb); have n3_ := aA (Kd.R_below (Kd.R_elderB (mR HO361.out) gb373 (Nat.le_of_eq hg.symm)) hb); have n4_ := aA (bB BK352.out hb); have n5_ := aA (bB BK363.out hb); have n6_ := aA (bB BK368.out hb); have n7_ := aA (below_step (mD3 GE352.out GE363.out GE368.out) hb); have n8_ := aA (hbox); have n9_ := aA ((bZ hg (mD3 GE352.out GE363.out GE368.out))); have n10_ := aA ((bZ hg (mD3 GE352.out GE363.out GE368.out))); have n11_ := aA ((bL hg BK352.out)); have n12_ := aA ((bG hg BK352.out)); have n13_ := aA ((bL hg BK363.out)); have n14_ := aA ((bG hg BK363.out)); have n15_ := aA ((bL hg BK368.out)); have n16_ := aA ((bG hg BK368.out)); clear HO345 HO350 HO356 HO361 BK352 BK363 BK368 HB; have HO345 := n0_; have HO350 := n1_; have HO356 := n2_; have HO361 := n3_; have BK352 := n4_; have BK363 := n5_; have BK368 := n6_; have HB := n7_; have BK373 := n8_; have GW373 := n9_; have GE373 := n10_; have NB352_373 := n11_; have NB373_352 := n12_; have NB363_373 := n13_; have NB373_363 := n14_; have NB368_373 := n15_; have NB373_368 := n16_; clear n0_ n1_ n2_ n3_ n4_ n5_ n6_ n7_ n8_ n9_ n10_ n11_ n12_ n13_ n14_ n15_ n16_ hb hbox hg; have hnb32 := NB373_352.out; have hnc32 := NB352_373.out; have hnb33 := NB373_363.out; have hnc33 := NB363_373.out; have hnb34 := NB373_368.out; have hnc34 := NB368_373.out; obtain ⟨hcz35_0, hcz35_1, hcz35_2⟩ := bC3 BK373.out; obtain ⟨hfz35_0, hfz35_1, hfz35_2⟩ := bF3 BK373.out))
     repeat (go_quiet (first | (go_at_call 10; (with_reducible refine (wire_Parse.calls k (a0.extract 0 ((ji3) : Int).toNat) t342 t343 t346 t347 t348 t351 _ ?side1 A9.out).mono ?_); (case side1 => exact gok_below HG.out mB); rintro e w14 ⟨v344, v349, rfl, ho0, ho1, hb⟩; have n0_ := aA (Kd.R_lower ho0 (below_size mB)); have n1_ := aA (Kd.R_lower ho1 (below_size mB)); have n2_ := aA (below_step mB hb); clear HB; have HO345 := n0_; have HO350 := n1_; have HB := n2_; clear n0_ n1_ n2_; (try clear hb); (try clear hb2); (try clear hk); (try clear hi); (try clear ho0); (try clear ho1)) | ((with_reducible refine gate_dst (N := 5) rfl ?_); refine box_event ?hg (N := 5) ?hd (cs := #[.int .i64 0, .slice none 0 0, .int .i64 0, .int .i64 0, .slice none 0 0]) (t := 27) ?hr ?_; (case hd => rfl); (case hg => rfl); (case hr => first | (go_simp; done) | (go_simp; rfl)); intro gb352 hg w15 hbox hb; have n0_ := aA (Kd.R_below (mR HO345.out) hb); have n1_ := aA (Kd.R_below (mR HO350.out) hb); have n2_ := aA (below_step mB hb); have n3_ := aA (hbox); have n4_ := aA ((bZ hg mB)); have n5_ := aA ((bZ hg mB)); clear HO345 HO350 HB; have HO345 := n0_; have HO350 := n1_; have HB := n2_; have BK352 := n3_; have GW352 := n4_; have GE352 := n5_; clear n0_ n1_ n2_ n3_ n4_ n5_ hb hbox hg; obtain ⟨hcz16_0, hcz16_1, hcz16_2, hcz16_3, hcz16_4⟩ := bC5 BK352.out; obtain ⟨hfz16_0, hfz16_1, hfz16_2, hfz16_3, hfz16_4⟩ := bF5 BK352.out; obtain ⟨Ao17, co17, eo17⟩ := Kd.R_slice HO345.out; subst eo17; obtain ⟨Ao18, co18, eo18⟩ := Kd.R_slice HO350.out; subst eo18) | (go_at_call 11; (with_reducible refine (foghornref12_Parse.calls k (a0.extract 0 ((ji3) : Int).toNat) t353 t354 t357 t358 t359 t362 _ A10.out).mono ?_); rintro e w19 ⟨v355, v360, rfl, ho0, ho1, hb⟩; have n0_ := aA (Kd.R_elder' (by (with_reducible repeat (first | apply Kd.R_alloc | apply Kd.R_drewN | apply Kd.R_drew)); exact (Kd.R_mono (rF 4 (rF 3 (rF 2 (rF 1 (rF 0 (Kd.R_types HO345.out BK352.out (by decide))))))) (fun _ h_ => h_.1))) (Kd.R_base ho0) hb); have n1_ := aA (Kd.R_elder' (by (with_reducible repeat (first | apply Kd.R_alloc | apply Kd.R_drewN | apply Kd.R_drew)); exact (Kd.R_mono (rF 4 (rF 3 (rF 2 (rF 1 (rF 0 (Kd.R_types HO350.out BK352.out (by decide))))))) (fun _ h_ => h_.1))) (Kd.R_base ho1) hb); have n2_ := aA (Kd.R_lower (Kd.R_new' ho0 (Kd.R_lt (by (with_reducible repeat (first | apply Kd.R_alloc | apply Kd.R_drewN | apply Kd.R_drew)); exact (Kd.R_mono (rF 4 (rF 3 (rF 2 (rF 1 (rF 0 (Kd.R_types HO345.out BK352.out (by decide))))))) (fun _ h_ => h_.1))))) (below_size (mD1 GE352.out))); have n3_ := aA (Kd.R_lower (Kd.R_new' ho1 (Kd.R_lt (by (with_reducible repeat (first | apply Kd.R_alloc | apply Kd.R_drewN | apply Kd.R_drew)); exact (Kd.R_mono (rF 4 (rF 3 (rF 2 (rF 1 (rF 0 (Kd.R_types HO350.out BK352.out (by decide))))))) (fun _ h_ => h_.1))))) (below_size (mD1 GE352.out))); have n4_ := aA (blk_below (g := gb352) (o := .cells #[.int .i64 t342, .slice Ao17 t343.length co17, .int .i64 t346, .int .i64 t347, .slice Ao18 t348.length co18] 27 (0, 0)) (by (with_reducible repeat (first | refine blk_drewN ?_ _ | refine blk_drew ?_ | refine blk_alloc ?_ _)); have h_ := BK352.out; exact pK 4 (pK 3 (pK 2 (pK 1 (pK 0 (h_)))))) hb); have n5_ := aA (below_step (mD1 GE352.out) hb); clear HO345 HO350 BK352 HB; have HO345 := n0_; have HO350 := n1_; have HO356 := n2_; have HO361 := n3_; have BK352 := n4_; have HB := n5_; clear n0_ n1_ n2_ n3_ n4_ n5_; (try clear hb); (try clear hb2); (try clear hk); (try clear hi); (try clear ho0); (try clear ho1)) | ((with_reducible refine gate_dst (N := 7) rfl ?_); refine box_event ?hg (N := 7) ?hd (cs := #[.int .i64 0, .slice none 0 0, .int .i64 0, .int .i64 0, .slice none 0 0]) (t := 27) ?hr ?_; (case hd => rfl); (case hg => rfl); (case hr => first | (go_simp; done) | (go_simp; rfl)); intro gb363 hg w20 hbox hb; have n0_ := aA (Kd.R_below (mR HO345.out) hb); have n1_ := aA (Kd.R_below (mR HO350.out) hb); have n2_ := aA (Kd.R_below (mR HO356.out) hb); have n3_ := aA (Kd.R_below (mR HO361.out) hb); have n4_ := aA (bB BK352.out hb); have n5_ := aA (below_step (mD1 GE352.out) hb); have n6_ := aA (hbox); have n7_ := aA ((bZ hg (mD1 GE352.out))); have n8_ := aA ((bZ hg (mD1 GE352.out))); have n9_ := aA ((bL hg BK352.out)); have n10_ := aA ((bG hg BK352.out)); clear HO345 HO350 HO356 HO361 BK352 HB; have HO345 := n0_; have HO350 := n1_; have HO356 := n2_; have HO361 := n3_; have BK352 := n4_; have HB := n5_; have BK363 := n6_; have GW363 := n7_; have GE363 := n8_; have NB352_363 := n9_; have NB363_352 := n10_; clear n0_ n1_ n2_ n3_ n4_ n5_ n6_ n7_ n8_ n9_ n10_ hb hbox hg; have hnb21 := NB363_352.out; have hnc21 := NB352_363.out; obtain ⟨hcz22_0, hcz22_1, hcz22_2, hcz22_3, hcz22_4⟩ := bC5 BK363.out; obtain ⟨hfz22_0, hfz22_1, hfz22_2, hfz22_3, hfz22_4⟩ := bF5 BK363.out; obtain ⟨Ao23, co23, eo23⟩ := Kd.R_slice HO356.out; subst eo23; obtain ⟨Ao24, co24, eo24⟩ := Kd.R_slice HO361.out; subst eo24) | (go_at_call 12; (with_reducible refine (wire_Asked.calls (a1.extract 0 ((ji6) : Int).toNat) t364 t365 t366 t367 _ A11.out).mono ?_); rintro e w25 ⟨rfl, hb⟩; have n0_ := aA (Kd.R_below (by (with_reducible repeat (first | apply Kd.R_alloc | apply Kd.R_drewN | apply Kd.R_drew)); exact (Kd.R_mono (rF 4 (rF 3 (rF 2 (rF 1 (rF 0 (Kd.R_types HO345.out BK363.out (by decide))))))) (fun _ h_ => h_.1))) hb); have n1_ := aA (Kd.R_below (by (with_reducible repeat (first | apply Kd.R_alloc | apply Kd.R_drewN | apply Kd.R_drew)); exact (Kd.R_mono (rF 4 (rF 3 (rF 2 (rF 1 (rF 0 (Kd.R_types HO350.out BK363.out (by decide))))))) (fun _ h_ => h_.1))) hb); have n2_ := aA (Kd.R_below (by (with_reducible repeat (first | apply Kd.R_alloc | apply Kd.R_drewN | apply Kd.R_drew)); exact (Kd.R_mono (rF 4 (rF 3 (rF 2 (rF 1 (rF 0 (Kd.R_types HO356.out BK363.out (by decide))))))) (fun _ h_ => h_.1))) hb); have n3_ := aA (Kd.R_below (by (with_reducible repeat (first | apply Kd.R_alloc | apply Kd.R_drewN | apply Kd.R_drew)); exact (Kd.R_mono (rF 4 (rF 3 (rF 2 (rF 1 (rF 0 (Kd.R_types HO361.out BK363.out (by decide))))))) (fun _ h_ => h_.1))) hb); have n4_ := aA (blk_below (g := gb352) (o := .cells #[.int .i64 t342, .slice Ao17 t343.length co17, .int .i64 t346, .int .i64 t347, .slice Ao18 t348.length co18] 27 (0, 0)) (by (with_reducible repeat (first | refine blk_drewN ?_ _ | refine blk_drew ?_ | refine blk_alloc ?_ _)); refine blk_far ?_ NB352_363.out _; (with_reducible repeat (first | refine blk_drewN ?_ _ | refine blk_drew ?_ | refine blk_alloc ?_ _)); refine blk_far ?_ NB352_363.out _; (with_reducible repeat (first | refine blk_drewN ?_ _ | refine blk_drew ?_ | refine blk_alloc ?_ _)); refine blk_far ?_ NB352_363.out _; (with_reducible repeat (first | refine blk_drewN ?_ _ | refine blk_drew ?_ | refine blk_alloc ?_ _)); refine blk_far ?_ NB352_363.out _; (with_reducible repeat (first | refine blk_drewN ?_ _ | refine blk_drew ?_ | refine blk_alloc ?_ _)); refine blk_far ?_ NB352_363.out _; (with_reducible repeat (first | refine blk_drewN ?_ _ | refine blk_drew ?_ | refine blk_alloc ?_ _)); exact BK352.out) hb); have n5_ := aA (blk_below (g := gb363) (o := .cells #[.int .i64 t353, .slice Ao23 t354.length co23, .int .i64 t357, .int .i64 t358, .slice Ao24 t359.length co24] 27 (0, 0)) (by (with_reducible repeat (first | refine blk_drewN ?_ _ | refine blk_drew ?_ | refine blk_alloc ?_ _)); have h_ := BK363.out; exact pK 4 (pK 3 (pK 2 (pK 1 (pK 0 (h_)))))) hb); have n6_ := aA (below_step (mD2 GE352.out GE363.out) hb); clear HO345 HO350 HO356 HO361 BK352 BK363 HB; have HO345 := n0_; have HO350 := n1_; have HO356 := n2_; have HO361 := n3_; have BK352 := n4_; have BK363 := n5_; have HB := n6_; clear n0_ n1_ n2_ n3_ n4_ n5_ n6_; (try clear hb); (try clear hb2); (try clear hk); (try clear hi)) | ((with_reducible refine gate_dst (N := 9) rfl ?_); refine box_event ?hg (N := 9) ?hd (cs := #[.int .i64 0, .string (⟨#[]⟩ : ByteArray), .string (⟨#[]⟩ : ByteArray)]) (t := 32) ?hr ?_; (case hd => rfl); (case hg => rfl); (case hr => first | (go_simp; done) | (go_simp; rfl)); intro gb368 hg w26 hbox hb; have n0_ := aA (Kd.R_below (mR HO345.out) hb); have n1_ := aA (Kd.R_below (Kd.R_elderB (mR HO350.out) gb368 (Nat.le_of_eq hg.symm)) hb); have n2_ := aA (Kd.R_below (mR HO356.out) hb); have n3_ := aA (Kd.R_below (Kd.R_elderB (mR HO361.out) gb368 (Nat.le_of_eq hg.symm)) hb); have n4_ := aA (bB BK352.out hb); have n5_ := aA (bB BK363.out hb); have n6_ := aA (below_step (mD2 GE352.out GE363.out) hb); have n7_ := aA (hbox); have n8_ := aA ((bZ hg (mD2 GE352.out GE363.out))); have n9_ := aA ((bZ hg (mD2 GE352.out GE363.out))); have n10_ := aA ((bL hg BK352.out)); have n11_ := aA ((bG hg BK352.out)); have n12_ := aA ((bL hg BK363.out)); have n13_ := aA ((bG hg BK363.out)); clear HO345 HO350 HO356 HO361 BK352 BK363 HB; have HO345 := n0_; have HO350 := n1_; have HO356 := n2_; have HO361 := n3_; have BK352 := n4_; have BK363 := n5_; have HB := n6_; have BK368 := n7_; have GW368 := n8_; have GE368 := n9_; have NB352_368 := n10_; have NB368_352 := n11_; have NB363_368 := n12_; have NB368_363 := n13_; clear n0_ n1_ n2_ n3_ n4_ n5_ n6_ n7_ n8_ n9_ n10_ n11_ n12_ n13_ hb hbox hg; have hnb27 := NB368_352.out; have hnc27 := NB352_368.out; have hnb28 := NB368_363.out; have hnc28 := NB363_368.out; obtain ⟨hcz29_0, hcz29_1, hcz29_2⟩ := bC3 BK368.out; obtain ⟨hfz29_0, hfz29_1, hfz29_2⟩ := bF3 BK368.out) | (go_at_call 13; (with_reducible refine (foghornref12_Asked.calls k (a1.extract 0 ((ji6) : Int).toNat) t369 t370 t371 t372 _ A12.out).mono ?_); rintro e w30 ⟨rfl, hb⟩; have n0_ := aA (Kd.R_below (by (with_reducible repeat (first | apply Kd.R_alloc | apply Kd.R_drewN | apply Kd.R_drew)); exact (Kd.R_mono (rF 2 (rF 1 (rF 0 (Kd.R_types HO345.out BK368.out (by decide))))) (fun _ h_ => h_.1))) hb); have n1_ := aA (Kd.R_below (by (with_reducible repeat (first | apply Kd.R_alloc | apply Kd.R_drewN | apply Kd.R_drew)); exact (Kd.R_mono (rF 2 (rF 1 (rF 0 (Kd.R_mono HO350.out (fun k_ hk => (⟨hk, hk.2⟩ : _ ∧ k_ ≠ gb368)))))) (fun _ h_ => h_.1))) hb); have n2_ := aA (Kd.R_below (by (with_reducible repeat (first | apply Kd.R_alloc | apply Kd.R_drewN | apply Kd.R_drew)); exact (Kd.R_mono (rF 2 (rF 1 (rF 0 (Kd.R_types HO356.out BK368.out (by decide))))) (fun _ h_ => h_.1))) hb); have n3_ := aA (Kd.R_below (by (with_reducible repeat (first | apply Kd.R_alloc | apply Kd.R_drewN | apply Kd.R_drew)); exact (Kd.R_mono (rF 2 (rF 1 (rF 0 (Kd.R_mono HO361.out (fun k_ hk => (⟨hk, hk.2⟩ : _ ∧ k_ ≠ gb368)))))) (fun _ h_ => h_.1))) hb); have n4_ := aA (blk_below (g := gb352) (o := .cells #[.int .i64 t342, .slice Ao17 t343.length co17, .int .i64 t346, .int .i64 t347, .slice Ao18 t348.length co18] 27 (0, 0)) (by (with_reducible repeat (first | refine blk_drewN ?_ _ | refine blk_drew ?_ | refine blk_alloc ?_ _)); refine blk_far ?_ NB352_368.out _; (with_reducible repeat (first | refine blk_drewN ?_ _ | refine blk_drew ?_ | refine blk_alloc ?_ _)); refine blk_far ?_ NB352_368.out _; (with_reducible repeat (first | refine blk_drewN ?_ _ | refine blk_drew ?_ | refine blk_alloc ?_ _)); refine blk_far ?_ NB352_368.out _; (with_reducible repeat (first | refine blk_drewN ?_ _ | refine blk_drew ?_ | refine blk_alloc ?_ _)); exact BK352.out) hb); have n5_ := aA (blk_below (g := gb363) (o := .cells #[.int .i64 t353, .slice Ao23 t354.length co23, .int .i64 t357, .int .i64 t358, .slice Ao24 t359.length co24] 27 (0, 0)) (by (with_reducible repeat (first | refine blk_drewN ?_ _ | refine blk_drew ?_ | refine blk_alloc ?_ _)); refine blk_far ?_ NB363_368.out _; (with_reducible repeat (first | refine blk_drewN ?_ _ | refine blk_drew ?_ | refine blk_alloc ?_ _)); refine blk_far ?_ NB363_368.out _; (with_reducible repeat (first | refine blk_drewN ?_ _ | refine blk_drew ?_ | refine blk_alloc ?_ _)); refine blk_far ?_ NB363_368.out _; (with_reducible repeat (first | refine blk_drewN ?_ _ | refine blk_drew ?_ | refine blk_alloc ?_ _)); exact BK363.out) hb); have n6_ := aA (blk_below (g := gb368) (o := .cells #[.int .i64 t364, .string t365, .string t366] 32 (0, 0)) (by (with_reducible repeat (first | refine blk_drewN ?_ _ | refine blk_drew ?_ | refine blk_alloc ?_ _)); have h_ := BK368.out; exact pK 2 (pK 1 (pK 0 (h_)))) hb); have n7_ := aA (below_step (mD3 GE352.out GE363.out GE368.out) hb); clear HO345 HO350 HO356 HO361 BK352 BK363 BK368 HB; have HO345 := n0_; have HO350 := n1_; have HO356 := n2_; have HO361 := n3_; have BK352 := n4_; have BK363 := n5_; have BK368 := n6_; have HB := n7_; clear n0_ n1_ n2_ n3_ n4_ n5_ n6_ n7_; (try clear hb); (try clear hb2); (try clear hk); (try clear hi)) | ((with_reducible refine gate_dst (N := 11) rfl ?_); refine box_event ?hg (N := 11) ?hd (cs := #[.int .i64 0, .string (⟨#[]⟩ : ByteArray), .string (⟨#[]⟩ : ByteArray)]) (t := 32) ?hr ?_; (case hd => rfl); (case hg => rfl); (case hr => first | (go_simp; done) | (go_simp; rfl)); intro gb373 hg w31 hbox hb; have n0_ := aA (Kd.R_below (mR HO345.out) hb); have n1_ := aA (Kd.R_below (Kd.R_elderB (mR HO350.out) gb373 (Nat.le_of_eq hg.symm)) hb); have n2_ := aA (Kd.R_below (mR HO356.out) hb); have n3_ := aA (Kd.R_below (Kd.R_elderB (mR HO361.out) gb373 (Nat.le_of_eq hg.symm)) hb); have n4_ := aA (bB BK352.out hb); have n5_ := aA (bB BK363.out hb); have n6_ := aA (bB BK368.out hb); have n7_ := aA (below_step (mD3 GE352.out GE363.out GE368.out) hb); have n8_ := aA (hbox); have n9_ := aA ((bZ hg (mD3 GE352.out GE363.out GE368.out))); have n10_ := aA ((bZ hg (mD3 GE352.out GE363.out GE368.out))); have n11_ := aA ((bL hg BK352.out)); have n12_ := aA ((bG hg BK352.out)); have n13_ := aA ((bL hg BK363.out)); have n14_ := aA ((bG hg BK363.out)); have n15_ := aA ((bL hg BK368.out)); have n16_ := aA ((bG hg BK368.out)); clear HO345 HO350 HO356 HO361 BK352 BK363 BK368 HB; have HO345 := n0_; have HO350 := n1_; have HO356 := n2_; have HO361 := n3_; have BK352 := n4_; have BK363 := n5_; have BK368 := n6_; have HB := n7_; have BK373 := n8_; have GW373 := n9_; have GE373 := n10_; have NB352_373 := n11_; have NB373_352 := n12_; have NB363_373 := n13_; have NB373_363 := n14_; have NB368_373 := n15_; have NB373_368 := n16_; clear n0_ n1_ n2_ n3_ n4_ n5_ n6_ n7_ n8_ n9_ n10_ n11_ n12_ n13_ n14_ n15_ n16_ hb hbox hg; have hnb32 := NB373_352.out; have hnc32 := NB352_373.out; have hnb33 := NB373_363.out; have hnc33 := NB363_373.out; have hnb34 := NB373_368.out; have hnc34 := NB368_373.out; obtain ⟨hcz35_0, hcz35_1, hcz35_2⟩ := bC3 BK373.out; obtain ⟨hfz35_0, hfz35_1, hfz35_2⟩ := bF3 BK373.out)); go_upto_region 6 with (first | (go_at_call 10; (with_reducible refine (wire_Parse.calls k (a0.extract 0 ((ji3) : Int).toNat) t342 t343 t346 t347 t348 t351 _ ?side1 A9.out).mono ?_); (case side1 => exact gok_below HG.out mB); rintro e w14 ⟨v344, v349, rfl, ho0, ho1, hb⟩; have n0_ := aA (Kd.R_lower ho0 (below_size mB)); have n1_ := aA (Kd.R_lower ho1 (below_size mB)); have n2_ := aA (below_step mB hb); clear HB; have HO345 := n0_; have HO350 := n1_; have HB := n2_; clear n0_ n1_ n2_; (try clear hb); (try clear hb2); (try clear hk); (try clear hi); (try clear ho0); (try clear ho1)) | ((with_reducible refine gate_dst (N := 5) rfl ?_); refine box_event ?hg (N := 5) ?hd (cs := #[.int .i64 0, .slice none 0 0, .int .i64 0, .int .i64 0, .slice none 0 0]) (t := 27) ?hr ?_; (case hd => rfl); (case hg => rfl); (case hr => first | (go_simp; done) | (go_simp; rfl)); intro gb352 hg w15 hbox hb; have n0_ := aA (Kd.R_below (mR HO345.out) hb); have n1_ := aA (Kd.R_below (mR HO350.out) hb); have n2_ := aA (below_step mB hb); have n3_ := aA (hbox); have n4_ := aA ((bZ hg mB)); have n5_ := aA ((bZ hg mB)); clear HO345 HO350 HB; have HO345 := n0_; have HO350 := n1_; have HB := n2_; have BK352 := n3_; have GW352 := n4_; have GE352 := n5_; clear n0_ n1_ n2_ n3_ n4_ n5_ hb hbox hg; obtain ⟨hcz16_0, hcz16_1, hcz16_2, hcz16_3, hcz16_4⟩ := bC5 BK352.out; obtain ⟨hfz16_0, hfz16_1, hfz16_2, hfz16_3, hfz16_4⟩ := bF5 BK352.out; obtain ⟨Ao17, co17, eo17⟩ := Kd.R_slice HO345.out; subst eo17; obtain ⟨Ao18, co18, eo18⟩ := Kd.R_slice HO350.out; subst eo18) | (go_at_call 11; (with_reducible refine (foghornref12_Parse.calls k (a0.extract 0 ((ji3) : Int).toNat) t353 t354 t357 t358 t359 t362 _ A10.out).mono ?_); rintro e w19 ⟨v355, v360, rfl, ho0, ho1, hb⟩; have n0_ := aA (Kd.R_elder' (by (with_reducible repeat (first | apply Kd.R_alloc | apply Kd.R_drewN | apply Kd.R_drew)); exact (Kd.R_mono (rF 4 (rF 3 (rF 2 (rF 1 (rF 0 (Kd.R_types HO345.out BK352.out (by decide))))))) (fun _ h_ => h_.1))) (Kd.R_base ho0) hb); have n1_ := aA (Kd.R_elder' (by (with_reducible repeat (first | apply Kd.R_alloc | apply Kd.R_drewN | apply Kd.R_drew)); exact (Kd.R_mono (rF 4 (rF 3 (rF 2 (rF 1 (rF 0 (Kd.R_types HO350.out BK352.out (by decide))))))) (fun _ h_ => h_.1))) (Kd.R_base ho1) hb); have n2_ := aA (Kd.R_lower (Kd.R_new' ho0 (Kd.R_lt (by (with_reducible repeat (first | apply Kd.R_alloc | apply Kd.R_drewN | apply Kd.R_drew)); exact (Kd.R_mono (rF 4 (rF 3 (rF 2 (rF 1 (rF 0 (Kd.R_types HO345.out BK352.out (by decide))))))) (fun _ h_ => h_.1))))) (below_size (mD1 GE352.out))); have n3_ := aA (Kd.R_lower (Kd.R_new' ho1 (Kd.R_lt (by (with_reducible repeat (first | apply Kd.R_alloc | apply Kd.R_drewN | apply Kd.R_drew)); exact (Kd.R_mono (rF 4 (rF 3 (rF 2 (rF 1 (rF 0 (Kd.R_types HO350.out BK352.out (by decide))))))) (fun _ h_ => h_.1))))) (below_size (mD1 GE352.out))); have n4_ := aA (blk_below (g := gb352) (o := .cells #[.int .i64 t342, .slice Ao17 t343.length co17, .int .i64 t346, .int .i64 t347, .slice Ao18 t348.length co18] 27 (0, 0)) (by (with_reducible repeat (first | refine blk_drewN ?_ _ | refine blk_drew ?_ | refine blk_alloc ?_ _)); have h_ := BK352.out; exact pK 4 (pK 3 (pK 2 (pK 1 (pK 0 (h_)))))) hb); have n5_ := aA (below_step (mD1 GE352.out) hb); clear HO345 HO350 BK352 HB; have HO345 := n0_; have HO350 := n1_; have HO356 := n2_; have HO361 := n3_; have BK352 := n4_; have HB := n5_; clear n0_ n1_ n2_ n3_ n4_ n5_; (try clear hb); (try clear hb2); (try clear hk); (try clear hi); (try clear ho0); (try clear ho1)) | ((with_reducible refine gate_dst (N := 7) rfl ?_); refine box_event ?hg (N := 7) ?hd (cs := #[.int .i64 0, .slice none 0 0, .int .i64 0, .int .i64 0, .slice none 0 0]) (t := 27) ?hr ?_; (case hd => rfl); (case hg => rfl); (case hr => first | (go_simp; done) | (go_simp; rfl)); intro gb363 hg w20 hbox hb; have n0_ := aA (Kd.R_below (mR HO345.out) hb); have n1_ := aA (Kd.R_below (mR HO350.out) hb); have n2_ := aA (Kd.R_below (mR HO356.out) hb); have n3_ := aA (Kd.R_below (mR HO361.out) hb); have n4_ := aA (bB BK352.out hb); have n5_ := aA (below_step (mD1 GE352.out) hb); have n6_ := aA (hbox); have n7_ := aA ((bZ hg (mD1 GE352.out))); have n8_ := aA ((bZ hg (mD1 GE352.out))); have n9_ := aA ((bL hg BK352.out)); have n10_ := aA ((bG hg BK352.out)); clear HO345 HO350 HO356 HO361 BK352 HB; have HO345 := n0_; have HO350 := n1_; have HO356 := n2_; have HO361 := n3_; have BK352 := n4_; have HB := n5_; have BK363 := n6_; have GW363 := n7_; have GE363 := n8_; have NB352_363 := n9_; have NB363_352 := n10_; clear n0_ n1_ n2_ n3_ n4_ n5_ n6_ n7_ n8_ n9_ n10_ hb hbox hg; have hnb21 := NB363_352.out; have hnc21 := NB352_363.out; obtain ⟨hcz22_0, hcz22_1, hcz22_2, hcz22_3, hcz22_4⟩ := bC5 BK363.out; obtain ⟨hfz22_0, hfz22_1, hfz22_2, hfz22_3, hfz22_4⟩ := bF5 BK363.out; obtain ⟨Ao23, co23, eo23⟩ := Kd.R_slice HO356.out; subst eo23; obtain ⟨Ao24, co24, eo24⟩ := Kd.R_slice HO361.out; subst eo24) | (go_at_call 12; (with_reducible refine (wire_Asked.calls (a1.extract 0 ((ji6) : Int).toNat) t364 t365 t366 t367 _ A11.out).mono ?_); rintro e w25 ⟨rfl, hb⟩; have n0_ := aA (Kd.R_below (by (with_reducible repeat (first | apply Kd.R_alloc | apply Kd.R_drewN | apply Kd.R_drew)); exact (Kd.R_mono (rF 4 (rF 3 (rF 2 (rF 1 (rF 0 (Kd.R_types HO345.out BK363.out (by decide))))))) (fun _ h_ => h_.1))) hb); have n1_ := aA (Kd.R_below (by (with_reducible repeat (first | apply Kd.R_alloc | apply Kd.R_drewN | apply Kd.R_drew)); exact (Kd.R_mono (rF 4 (rF 3 (rF 2 (rF 1 (rF 0 (Kd.R_types HO350.out BK363.out (by decide))))))) (fun _ h_ => h_.1))) hb); have n2_ := aA (Kd.R_below (by (with_reducible repeat (first | apply Kd.R_alloc | apply Kd.R_drewN | apply Kd.R_drew)); exact (Kd.R_mono (rF 4 (rF 3 (rF 2 (rF 1 (rF 0 (Kd.R_types HO356.out BK363.out (by decide))))))) (fun _ h_ => h_.1))) hb); have n3_ := aA (Kd.R_below (by (with_reducible repeat (first | apply Kd.R_alloc | apply Kd.R_drewN | apply Kd.R_drew)); exact (Kd.R_mono (rF 4 (rF 3 (rF 2 (rF 1 (rF 0 (Kd.R_types HO361.out BK363.out (by decide))))))) (fun _ h_ => h_.1))) hb); have n4_ := aA (blk_below (g := gb352) (o := .cells #[.int .i64 t342, .slice Ao17 t343.length co17, .int .i64 t346, .int .i64 t347, .slice Ao18 t348.length co18] 27 (0, 0)) (by (with_reducible repeat (first | refine blk_drewN ?_ _ | refine blk_drew ?_ | refine blk_alloc ?_ _)); refine blk_far ?_ NB352_363.out _; (with_reducible repeat (first | refine blk_drewN ?_ _ | refine blk_drew ?_ | refine blk_alloc ?_ _)); refine blk_far ?_ NB352_363.out _; (with_reducible repeat (first | refine blk_drewN ?_ _ | refine blk_drew ?_ | refine blk_alloc ?_ _)); refine blk_far ?_ NB352_363.out _; (with_reducible repeat (first | refine blk_drewN ?_ _ | refine blk_drew ?_ | refine blk_alloc ?_ _)); refine blk_far ?_ NB352_363.out _; (with_reducible repeat (first | refine blk_drewN ?_ _ | refine blk_drew ?_ | refine blk_alloc ?_ _)); refine blk_far ?_ NB352_363.out _; (with_reducible repeat (first | refine blk_drewN ?_ _ | refine blk_drew ?_ | refine blk_alloc ?_ _)); exact BK352.out) hb); have n5_ := aA (blk_below (g := gb363) (o := .cells #[.int .i64 t353, .slice Ao23 t354.length co23, .int .i64 t357, .int .i64 t358, .slice Ao24 t359.length co24] 27 (0, 0)) (by (with_reducible repeat (first | refine blk_drewN ?_ _ | refine blk_drew ?_ | refine blk_alloc ?_ _)); have h_ := BK363.out; exact pK 4 (pK 3 (pK 2 (pK 1 (pK 0 (h_)))))) hb); have n6_ := aA (below_step (mD2 GE352.out GE363.out) hb); clear HO345 HO350 HO356 HO361 BK352 BK363 HB; have HO345 := n0_; have HO350 := n1_; have HO356 := n2_; have HO361 := n3_; have BK352 := n4_; have BK363 := n5_; have HB := n6_; clear n0_ n1_ n2_ n3_ n4_ n5_ n6_; (try clear hb); (try clear hb2); (try clear hk); (try clear hi)) | ((with_reducible refine gate_dst (N := 9) rfl ?_); refine box_event ?hg (N := 9) ?hd (cs := #[.int .i64 0, .string (⟨#[]⟩ : ByteArray), .string (⟨#[]⟩ : ByteArray)]) (t := 32) ?hr ?_; (case hd => rfl); (case hg => rfl); (case hr => first | (go_simp; done) | (go_simp; rfl)); intro gb368 hg w26 hbox hb; have n0_ := aA (Kd.R_below (mR HO345.out) hb); have n1_ := aA (Kd.R_below (Kd.R_elderB (mR HO350.out) gb368 (Nat.le_of_eq hg.symm)) hb); have n2_ := aA (Kd.R_below (mR HO356.out) hb); have n3_ := aA (Kd.R_below (Kd.R_elderB (mR HO361.out) gb368 (Nat.le_of_eq hg.symm)) hb); have n4_ := aA (bB BK352.out hb); have n5_ := aA (bB BK363.out hb); have n6_ := aA (below_step (mD2 GE352.out GE363.out) hb); have n7_ := aA (hbox); have n8_ := aA ((bZ hg (mD2 GE352.out GE363.out))); have n9_ := aA ((bZ hg (mD2 GE352.out GE363.out))); have n10_ := aA ((bL hg BK352.out)); have n11_ := aA ((bG hg BK352.out)); have n12_ := aA ((bL hg BK363.out)); have n13_ := aA ((bG hg BK363.out)); clear HO345 HO350 HO356 HO361 BK352 BK363 HB; have HO345 := n0_; have HO350 := n1_; have HO356 := n2_; have HO361 := n3_; have BK352 := n4_; have BK363 := n5_; have HB := n6_; have BK368 := n7_; have GW368 := n8_; have GE368 := n9_; have NB352_368 := n10_; have NB368_352 := n11_; have NB363_368 := n12_; have NB368_363 := n13_; clear n0_ n1_ n2_ n3_ n4_ n5_ n6_ n7_ n8_ n9_ n10_ n11_ n12_ n13_ hb hbox hg; have hnb27 := NB368_352.out; have hnc27 := NB352_368.out; have hnb28 := NB368_363.out; have hnc28 := NB363_368.out; obtain ⟨hcz29_0, hcz29_1, hcz29_2⟩ := bC3 BK368.out; obtain ⟨hfz29_0, hfz29_1, hfz29_2⟩ := bF3 BK368.out) | (go_at_call 13; (with_reducible refine (foghornref12_Asked.calls k (a1.extract 0 ((ji6) : Int).toNat) t369 t370 t371 t372 _ A12.out).mono ?_); rintro e w30 ⟨rfl, hb⟩; have n0_ := aA (Kd.R_below (by (with_reducible repeat (first | apply Kd.R_alloc | apply Kd.R_drewN | apply Kd.R_drew)); exact (Kd.R_mono (rF 2 (rF 1 (rF 0 (Kd.R_types HO345.out BK368.out (by decide))))) (fun _ h_ => h_.1))) hb); have n1_ := aA (Kd.R_below (by (with_reducible repeat (first | apply Kd.R_alloc | apply Kd.R_drewN | apply Kd.R_drew)); exact (Kd.R_mono (rF 2 (rF 1 (rF 0 (Kd.R_mono HO350.out (fun k_ hk => (⟨hk, hk.2⟩ : _ ∧ k_ ≠ gb368)))))) (fun _ h_ => h_.1))) hb); have n2_ := aA (Kd.R_below (by (with_reducible repeat (first | apply Kd.R_alloc | apply Kd.R_drewN | apply Kd.R_drew)); exact (Kd.R_mono (rF 2 (rF 1 (rF 0 (Kd.R_types HO356.out BK368.out (by decide))))) (fun _ h_ => h_.1))) hb); have n3_ := aA (Kd.R_below (by (with_reducible repeat (first | apply Kd.R_alloc | apply Kd.R_drewN | apply Kd.R_drew)); exact (Kd.R_mono (rF 2 (rF 1 (rF 0 (Kd.R_mono HO361.out (fun k_ hk => (⟨hk, hk.2⟩ : _ ∧ k_ ≠ gb368)))))) (fun _ h_ => h_.1))) hb); have n4_ := aA (blk_below (g := gb352) (o := .cells #[.int .i64 t342, .slice Ao17 t343.length co17, .int .i64 t346, .int .i64 t347, .slice Ao18 t348.length co18] 27 (0, 0)) (by (with_reducible repeat (first | refine blk_drewN ?_ _ | refine blk_drew ?_ | refine blk_alloc ?_ _)); refine blk_far ?_ NB352_368.out _; (with_reducible repeat (first | refine blk_drewN ?_ _ | refine blk_drew ?_ | refine blk_alloc ?_ _)); refine blk_far ?_ NB352_368.out _; (with_reducible repeat (first | refine blk_drewN ?_ _ | refine blk_drew ?_ | refine blk_alloc ?_ _)); refine blk_far ?_ NB352_368.out _; (with_reducible repeat (first | refine blk_drewN ?_ _ | refine blk_drew ?_ | refine blk_alloc ?_ _)); exact BK352.out) hb); have n5_ := aA (blk_below (g := gb363) (o := .cells #[.int .i64 t353, .slice Ao23 t354.length co23, .int .i64 t357, .int .i64 t358, .slice Ao24 t359.length co24] 27 (0, 0)) (by (with_reducible repeat (first | refine blk_drewN ?_ _ | refine blk_drew ?_ | refine blk_alloc ?_ _)); refine blk_far ?_ NB363_368.out _; (with_reducible repeat (first | refine blk_drewN ?_ _ | refine blk_drew ?_ | refine blk_alloc ?_ _)); refine blk_far ?_ NB363_368.out _; (with_reducible repeat (first | refine blk_drewN ?_ _ | refine blk_drew ?_ | refine blk_alloc ?_ _)); refine blk_far ?_ NB363_368.out _; (with_reducible repeat (first | refine blk_drewN ?_ _ | refine blk_drew ?_ | refine blk_alloc ?_ _)); exact BK363.out) hb); have n6_ := aA (blk_below (g := gb368) (o := .cells #[.int .i64 t364, .string t365, .string t366] 32 (0, 0)) (by (with_reducible repeat (first | refine blk_drewN ?_ _ | refine blk_drew ?_ | refine blk_alloc ?_ _)); have h_ := BK368.out; exact pK 2 (pK 1 (pK 0 (h_)))) hb); have n7_ := aA (below_step (mD3 GE352.out GE363.out GE368.out) hb); clear HO345 HO350 HO356 HO361 BK352 BK363 BK368 HB; have HO345 := n0_; have HO350 := n1_; have HO356 := n2_; have HO361 := n3_; have BK352 := n4_; have BK363 := n5_; have BK368 := n6_; have HB := n7_; clear n0_ n1_ n2_ n3_ n4_ n5_ n6_ n7_; (try clear hb); (try clear hb2); (try clear hk); (try clear hi)) | ((with_reducible refine gate_dst (N := 11) rfl ?_); refine box_event ?hg (N := 11) ?hd (cs := #[.int .i64 0, .string (⟨#[]⟩ : ByteArray), .string (⟨#[]⟩ : ByteArray)]) (t := 32) ?hr ?_; (case hd => rfl); (case hg => rfl); (case hr => first | (go_simp; done) | (go_simp; rfl)); intro gb373 hg w31 hbox hb; have n0_ := aA (Kd.R_below (mR HO345.out) hb); have n1_ := aA (Kd.R_below (Kd.R_elderB (mR HO350.out) gb373 (Nat.le_of_eq hg.symm)) hb); have n2_ := aA (Kd.R_below (mR HO356.out) hb); have n3_ := aA (Kd.R_below (Kd.R_elderB (mR HO361.out) gb373 (Nat.le_of_eq hg.symm)) hb); have n4_ := aA (bB BK352.out hb); have n5_ := aA (bB BK363.out hb); have n6_ := aA (bB BK368.out hb); have n7_ := aA (below_step (mD3 GE352.out GE363.out GE368.out) hb); have n8_ := aA (hbox); have n9_ := aA ((bZ hg (mD3 GE352.out GE363.out GE368.out))); have n10_ := aA ((bZ hg (mD3 GE352.out GE363.out GE368.out))); have n11_ := aA ((bL hg BK352.out)); have n12_ := aA ((bG hg BK352.out)); have n13_ := aA ((bL hg BK363.out)); have n14_ := aA ((bG hg BK363.out)); have n15_ := aA ((bL hg BK368.out)); have n16_ := aA ((bG hg BK368.out)); clear HO345 HO350 HO356 HO361 BK352 BK363 BK368 HB; have HO345 := n0_; have HO350 := n1_; have HO356 := n2_; have HO361 := n3_; have BK352 := n4_; have BK363 := n5_; have BK368 := n6_; have HB := n7_; have BK373 := n8_; have GW373 := n9_; have GE373 := n10_; have NB352_373 := n11_; have NB373_352 := n12_; have NB363_373 := n13_; have NB373_363 := n14_; have NB368_373 := n15_; have NB373_368 := n16_; clear n0_ n1_ n2_ n3_ n4_ n5_ n6_ n7_ n8_ n9_ n10_ n11_ n12_ n13_ n14_ n15_ n16_ hb hbox hg; have hnb32 := NB373_352.out; have hnc32 := NB352_373.out; have hnb33 := NB373_363.out; have hnc33 := NB363_373.out; have hnb34 := NB373_368.out; have hnc34 := NB368_373.out; obtain ⟨hcz35_0, hcz35_1, hcz35_2⟩ := bC3 BK373.out; obtain ⟨hfz35_0, hfz35_1, hfz35_2⟩ := bF3 BK373.out)))
     (try simp only [Act.put, List.setIfInBounds_toArray, List.set_cons_zero, List.set_cons_succ])
     go_cut [55] (fun v55 wc => ∃ (kq : Nat) (x55_12 : Bool), v55 = .bool x55_12 ∧ Aside0 (foghornlaw12_WireParses.j0 kq t367 t372 x55_12 t364 t365 t366 t369 t370 t371 = some r) ∧ Aside0 (kq ≤ k) ∧ Aside0 (Kd.R k52 52 wc w.heap.size (fun k_ => some k_ ≠ ((.slice Ao23 t354.length co23) : Value).ownBlock) (.slice Ao17 t343.length co17) t343) ∧ Aside0 (Kd.R k32 32 wc w.heap.size (fun k_ => some k_ ≠ ((.slice Ao24 t359.length co24) : Value).ownBlock ∧ k_ ≠ gb368 ∧ k_ ≠ gb373) (.slice Ao18 t348.length co18) t348) ∧ Aside0 (Kd.R k52 52 wc w.heap.size (fun k_ => some k_ ≠ ((.slice Ao17 t343.length co17) : Value).ownBlock) (.slice Ao23 t354.length co23) t354) ∧ Aside0 (Kd.R k32 32 wc w.heap.size (fun k_ => some k_ ≠ ((.slice Ao18 t348.length co18) : Value).ownBlock ∧ k_ ≠ gb368 ∧ k_ ≠ gb373) (.slice Ao24 t359.length co24) t359) ∧ Aside0 (wc.heap[gb352]? = some (.cells #[.int .i64 t342, (.slice Ao17 t343.length co17), .int .i64 t346, .int .i64 t347, (.slice Ao18 t348.length co18)] 27 (0, 0))) ∧ Aside0 (wc.heap[gb363]? = some (.cells #[.int .i64 t353, (.slice Ao23 t354.length co23), .int .i64 t357, .int .i64 t358, (.slice Ao24 t359.length co24)] 27 (0, 0))) ∧ Aside0 (wc.heap[gb368]? = some (.cells #[.int .i64 t364, .string t365, .string t366] 32 (0, 0))) ∧ Aside0 (wc.heap[gb373]? = some (.cells #[.int .i64 t369, .string t370, .string t371] 32 (0, 0))) ∧ Aside0 (Below w.heap.size w wc))
     case first =>
      have H := HC13.out
      clear HC13
      by_cases c36 : t351 = t362
      ·rw [if_pos c36] at H
       have c36b0 : (t351 == t362) = true := beq_iff_eq.mpr c36
       have c36b1 : (t351 != t362) = false := bne_eq_false_iff_eq.mpr c36
       clear c36
       (first | rw [c36b0] | (simp only [i64_w, i32_w]; rw [c36b0]) | skip)
       replace H := Option.bind_eq_some_iff.mp H
       obtain ⟨t374, A370, H⟩ := H
       have A37 := aA A370
       clear A370
       by_cases c38 : t374 = true
       ·subst c38
        have H1 : ((foghornlaw12_alive.f k).bind fun t375 => (foghornlaw12_WireParses.j0 k t367 t372 (!t375) t364 t365 t366 t369 t370 t371)) = some r := by rw [if_pos rfl] at H; exact H
        clear H
        have H := H1
        clear H1
        replace H := Option.bind_eq_some_iff.mp H
        obtain ⟨t375, A390, H⟩ := H
        have A39 := aA A390
        clear A390
        have H' := aA H
        clear H
        have hnb40 := NB352_363.out
        have hnc40 := NB363_352.out
        have hnb41 := NB352_368.out
        have hnc41 := NB368_352.out
        have hnb42 := NB352_373.out
        have hnc42 := NB373_352.out
        obtain ⟨hcz43_0, hcz43_1, hcz43_2, hcz43_3, hcz43_4⟩ := bC5 BK352.out
        obtain ⟨hfz43_0, hfz43_1, hfz43_2, hfz43_3, hfz43_4⟩ := bF5 BK352.out
        have hnb44 := NB363_368.out
        have hnc44 := NB368_363.out
        have hnb45 := NB363_373.out
        have hnc45 := NB373_363.out
        obtain ⟨hcz46_0, hcz46_1, hcz46_2, hcz46_3, hcz46_4⟩ := bC5 BK363.out
        obtain ⟨hfz46_0, hfz46_1, hfz46_2, hfz46_3, hfz46_4⟩ := bF5 BK363.out
        go_wp2_with (first | (go_at_call 14; (with_reducible refine (foghornref12_Same.calls k t342 _ _ t343 t346 t347 _ _ t348 t353 _ _ t354 t357 t358 _ _ t359 true _ ?side1 ?side2 ?side3 ?side4 ?side5 ?side6 ?side7 ?side8 A37.out).mono ?_); (case side1 => refine (Kd.R_reads' (e := 52) (base := w.heap.size) (ok := fun k_ => (True ∧ some k_ ≠ (.slice Ao23 t354.length co23 : Value).ownBlock)) (n := t343.length) (c := co17) ?_).2.2; exact (by (with_reducible repeat (first | apply Kd.R_alloc | apply Kd.R_drewN | apply Kd.R_drew)); exact (Kd.R_mono (rF 2 (rF 1 (rF 0 (Kd.R_types HO345.out BK373.out (by decide))))) (fun _ h_ => h_.1)))); (case side2 => exact (Kd.R_reads' HO345.out).2.1); (case side3 => refine (Kd.R_reads' (e := 32) (base := w.heap.size) (ok := fun k_ => (((True ∧ some k_ ≠ (.slice Ao24 t359.length co24 : Value).ownBlock) ∧ k_ ≠ gb368) ∧ k_ ≠ gb373)) (n := t348.length) (c := co18) ?_).2.2; exact (by (with_reducible repeat (first | apply Kd.R_alloc | apply Kd.R_drewN | apply Kd.R_drew)); exact (Kd.R_mono (rF 2 (rF 1 (rF 0 (Kd.R_mono HO350.out (fun k_ hk => (⟨hk, hk.2⟩ : _ ∧ k_ ≠ gb373)))))) (fun _ h_ => h_.1)))); (case side4 => exact (Kd.R_reads' HO350.out).2.1); (case side5 => refine (Kd.R_reads' (e := 52) (base := w.heap.size) (ok := fun k_ => (True ∧ some k_ ≠ (.slice Ao17 t343.length co17 : Value).ownBlock)) (n := t354.length) (c := co23) ?_).2.2; exact (by (with_reducible repeat (first | apply Kd.R_alloc | apply Kd.R_drewN | apply Kd.R_drew)); exact (Kd.R_mono (rF 2 (rF 1 (rF 0 (Kd.R_types HO356.out BK373.out (by decide))))) (fun _ h_ => h_.1)))); (case side6 => exact (Kd.R_reads' HO356.out).2.1); (case side7 => refine (Kd.R_reads' (e := 32) (base := w.heap.size) (ok := fun k_ => (((True ∧ some k_ ≠ (.slice Ao18 t348.length co18 : Value).ownBlock) ∧ k_ ≠ gb368) ∧ k_ ≠ gb373)) (n := t359.length) (c := co24) ?_).2.2; exact (by (with_reducible repeat (first | apply Kd.R_alloc | apply Kd.R_drewN | apply Kd.R_drew)); exact (Kd.R_mono (rF 2 (rF 1 (rF 0 (Kd.R_mono HO361.out (fun k_ hk => (⟨hk, hk.2⟩ : _ ∧ k_ ≠ gb373)))))) (fun _ h_ => h_.1)))); (case side8 => exact (Kd.R_reads' HO361.out).2.1); rintro e w47 ⟨rfl, hb⟩; have n0_ := aA (Kd.R_below (by (with_reducible repeat (first | apply Kd.R_alloc | apply Kd.R_drewN | apply Kd.R_drew)); exact (Kd.R_mono (rF 2 (rF 1 (rF 0 (Kd.R_types HO345.out BK373.out (by decide))))) (fun _ h_ => h_.1))) hb); have n1_ := aA (Kd.R_below (by (with_reducible repeat (first | apply Kd.R_alloc | apply Kd.R_drewN | apply Kd.R_drew)); exact (Kd.R_mono (rF 2 (rF 1 (rF 0 (Kd.R_mono HO350.out (fun k_ hk => (⟨hk, hk.2⟩ : _ ∧ k_ ≠ gb373)))))) (fun _ h_ => h_.1))) hb); have n2_ := aA (Kd.R_below (by (with_reducible repeat (first | apply Kd.R_alloc | apply Kd.R_drewN | apply Kd.R_drew)); exact (Kd.R_mono (rF 2 (rF 1 (rF 0 (Kd.R_types HO356.out BK373.out (by decide))))) (fun _ h_ => h_.1))) hb); have n3_ := aA (Kd.R_below (by (with_reducible repeat (first | apply Kd.R_alloc | apply Kd.R_drewN | apply Kd.R_drew)); exact (Kd.R_mono (rF 2 (rF 1 (rF 0 (Kd.R_mono HO361.out (fun k_ hk => (⟨hk, hk.2⟩ : _ ∧ k_ ≠ gb373)))))) (fun _ h_ => h_.1))) hb); have n4_ := aA (blk_below (g := gb352) (o := .cells #[.int .i64 t342, .slice Ao17 t343.length co17, .int .i64 t346, .int .i64 t347, .slice Ao18 t348.length co18] 27 (0, 0)) (by (with_reducible repeat (first | refine blk_drewN ?_ _ | refine blk_drew ?_ | refine blk_alloc ?_ _)); refine blk_far ?_ NB352_373.out _; (with_reducible repeat (first | refine blk_drewN ?_ _ | refine blk_drew ?_ | refine blk_alloc ?_ _)); refine blk_far ?_ NB352_373.out _; (with_reducible repeat (first | refine blk_drewN ?_ _ | refine blk_drew ?_ | refine blk_alloc ?_ _)); refine blk_far ?_ NB352_373.out _; (with_reducible repeat (first | refine blk_drewN ?_ _ | refine blk_drew ?_ | refine blk_alloc ?_ _)); exact BK352.out) hb); have n5_ := aA (blk_below (g := gb363) (o := .cells #[.int .i64 t353, .slice Ao23 t354.length co23, .int .i64 t357, .int .i64 t358, .slice Ao24 t359.length co24] 27 (0, 0)) (by (with_reducible repeat (first | refine blk_drewN ?_ _ | refine blk_drew ?_ | refine blk_alloc ?_ _)); refine blk_far ?_ NB363_373.out _; (with_reducible repeat (first | refine blk_drewN ?_ _ | refine blk_drew ?_ | refine blk_alloc ?_ _)); refine blk_far ?_ NB363_373.out _; (with_reducible repeat (first | refine blk_drewN ?_ _ | refine blk_drew ?_ | refine blk_alloc ?_ _)); refine blk_far ?_ NB363_373.out _; (with_reducible repeat (first | refine blk_drewN ?_ _ | refine blk_drew ?_ | refine blk_alloc ?_ _)); exact BK363.out) hb); have n6_ := aA (blk_below (g := gb368) (o := .cells #[.int .i64 t364, .string t365, .string t366] 32 (0, 0)) (by (with_reducible repeat (first | refine blk_drewN ?_ _ | refine blk_drew ?_ | refine blk_alloc ?_ _)); refine blk_far ?_ NB368_373.out _; (with_reducible repeat (first | refine blk_drewN ?_ _ | refine blk_drew ?_ | refine blk_alloc ?_ _)); refine blk_far ?_ NB368_373.out _; (with_reducible repeat (first | refine blk_drewN ?_ _ | refine blk_drew ?_ | refine blk_alloc ?_ _)); refine blk_far ?_ NB368_373.out _; (with_reducible repeat (first | refine blk_drewN ?_ _ | refine blk_drew ?_ | refine blk_alloc ?_ _)); exact BK368.out) hb); have n7_ := aA (blk_below (g := gb373) (o := .cells #[.int .i64 t369, .string t370, .string t371] 32 (0, 0)) (by (with_reducible repeat (first | refine blk_drewN ?_ _ | refine blk_drew ?_ | refine blk_alloc ?_ _)); have h_ := BK373.out; exact pK 2 (pK 1 (pK 0 (h_)))) hb); have n8_ := aA (below_step (by repeat (first | (with_reducible first | exact HB.out | apply below_alloc | apply pw_below_drewN | apply below_drew1 | refine below_set ?_ GE352.out | refine below_set ?_ GE363.out | refine below_set ?_ GE368.out | refine below_set ?_ GE373.out) | exact HB.out)) hb); clear HO345 HO350 HO356 HO361 BK352 BK363 BK368 BK373 HB; have HO345 := n0_; have HO350 := n1_; have HO356 := n2_; have HO361 := n3_; have BK352 := n4_; have BK363 := n5_; have BK368 := n6_; have BK373 := n7_; have HB := n8_; clear n0_ n1_ n2_ n3_ n4_ n5_ n6_ n7_ n8_; (try clear hb); (try clear hb2); (try clear hk); (try clear hi)) | (go_at_call 15; (with_reducible refine (foghornlaw12_alive.calls k  t375 _ ?side1 A39.out).mono ?_); (case side1 => exact gok_below HG.out (by repeat (first | (with_reducible first | exact HB.out | apply below_alloc | apply pw_below_drewN | apply below_drew1 | refine below_set ?_ GE352.out | refine below_set ?_ GE363.out | refine below_set ?_ GE368.out | refine below_set ?_ GE373.out) | exact HB.out))); rintro e w48 ⟨rfl, hb⟩; have n0_ := aA (Kd.R_below (mR HO345.out) hb); have n1_ := aA (Kd.R_below (mR HO350.out) hb); have n2_ := aA (Kd.R_below (mR HO356.out) hb); have n3_ := aA (Kd.R_below (mR HO361.out) hb); have n4_ := aA (bB BK352.out hb); have n5_ := aA (bB BK363.out hb); have n6_ := aA (bB BK368.out hb); have n7_ := aA (bB BK373.out hb); have n8_ := aA (below_step (by repeat (first | (with_reducible first | exact HB.out | apply below_alloc | apply pw_below_drewN | apply below_drew1 | refine below_set ?_ GE352.out | refine below_set ?_ GE363.out | refine below_set ?_ GE368.out | refine below_set ?_ GE373.out) | exact HB.out)) hb); clear HO345 HO350 HO356 HO361 BK352 BK363 BK368 BK373 HB; have HO345 := n0_; have HO350 := n1_; have HO356 := n2_; have HO361 := n3_; have BK352 := n4_; have BK363 := n5_; have BK368 := n6_; have BK373 := n7_; have HB := n8_; clear n0_ n1_ n2_ n3_ n4_ n5_ n6_ n7_ n8_; (try clear hb); (try clear hb2); (try clear hk); (try clear hi)))
        repeat (go_quiet (first | (go_at_call 14; (with_reducible refine (foghornref12_Same.calls k t342 _ _ t343 t346 t347 _ _ t348 t353 _ _ t354 t357 t358 _ _ t359 true _ ?side1 ?side2 ?side3 ?side4 ?side5 ?side6 ?side7 ?side8 A37.out).mono ?_); (case side1 => refine (Kd.R_reads' (e := 52) (base := w.heap.size) (ok := fun k_ => (True ∧ some k_ ≠ (.slice Ao23 t354.length co23 : Value).ownBlock)) (n := t343.length) (c := co17) ?_).2.2; exact (by (with_reducible repeat (first | apply Kd.R_alloc | apply Kd.R_drewN | apply Kd.R_drew)); exact (Kd.R_mono (rF 2 (rF 1 (rF 0 (Kd.R_types HO345.out BK373.out (by decide))))) (fun _ h_ => h_.1)))); (case side2 => exact (Kd.R_reads' HO345.out).2.1); (case side3 => refine (Kd.R_reads' (e := 32) (base := w.heap.size) (ok := fun k_ => (((True ∧ some k_ ≠ (.slice Ao24 t359.length co24 : Value).ownBlock) ∧ k_ ≠ gb368) ∧ k_ ≠ gb373)) (n := t348.length) (c := co18) ?_).2.2; exact (by (with_reducible repeat (first | apply Kd.R_alloc | apply Kd.R_drewN | apply Kd.R_drew)); exact (Kd.R_mono (rF 2 (rF 1 (rF 0 (Kd.R_mono HO350.out (fun k_ hk => (⟨hk, hk.2⟩ : _ ∧ k_ ≠ gb373)))))) (fun _ h_ => h_.1)))); (case side4 => exact (Kd.R_reads' HO350.out).2.1); (case side5 => refine (Kd.R_reads' (e := 52) (base := w.heap.size) (ok := fun k_ => (True ∧ some k_ ≠ (.slice Ao17 t343.length co17 : Value).ownBlock)) (n := t354.length) (c := co23) ?_).2.2; exact (by (with_reducible repeat (first | apply Kd.R_alloc | apply Kd.R_drewN | apply Kd.R_drew)); exact (Kd.R_mono (rF 2 (rF 1 (rF 0 (Kd.R_types HO356.out BK373.out (by decide))))) (fun _ h_ => h_.1)))); (case side6 => exact (Kd.R_reads' HO356.out).2.1); (case side7 => refine (Kd.R_reads' (e := 32) (base := w.heap.size) (ok := fun k_ => (((True ∧ some k_ ≠ (.slice Ao18 t348.length co18 : Value).ownBlock) ∧ k_ ≠ gb368) ∧ k_ ≠ gb373)) (n := t359.length) (c := co24) ?_).2.2; exact (by (with_reducible repeat (first | apply Kd.R_alloc | apply Kd.R_drewN | apply Kd.R_drew)); exact (Kd.R_mono (rF 2 (rF 1 (rF 0 (Kd.R_mono HO361.out (fun k_ hk => (⟨hk, hk.2⟩ : _ ∧ k_ ≠ gb373)))))) (fun _ h_ => h_.1)))); (case side8 => exact (Kd.R_reads' HO361.out).2.1); rintro e w47 ⟨rfl, hb⟩; have n0_ := aA (Kd.R_below (by (with_reducible repeat (first | apply Kd.R_alloc | apply Kd.R_drewN | apply Kd.R_drew)); exact (Kd.R_mono (rF 2 (rF 1 (rF 0 (Kd.R_types HO345.out BK373.out (by decide))))) (fun _ h_ => h_.1))) hb); have n1_ := aA (Kd.R_below (by (with_reducible repeat (first | apply Kd.R_alloc | apply Kd.R_drewN | apply Kd.R_drew)); exact (Kd.R_mono (rF 2 (rF 1 (rF 0 (Kd.R_mono HO350.out (fun k_ hk => (⟨hk, hk.2⟩ : _ ∧ k_ ≠ gb373)))))) (fun _ h_ => h_.1))) hb); have n2_ := aA (Kd.R_below (by (with_reducible repeat (first | apply Kd.R_alloc | apply Kd.R_drewN | apply Kd.R_drew)); exact (Kd.R_mono (rF 2 (rF 1 (rF 0 (Kd.R_types HO356.out BK373.out (by decide))))) (fun _ h_ => h_.1))) hb); have n3_ := aA (Kd.R_below (by (with_reducible repeat (first | apply Kd.R_alloc | apply Kd.R_drewN | apply Kd.R_drew)); exact (Kd.R_mono (rF 2 (rF 1 (rF 0 (Kd.R_mono HO361.out (fun k_ hk => (⟨hk, hk.2⟩ : _ ∧ k_ ≠ gb373)))))) (fun _ h_ => h_.1))) hb); have n4_ := aA (blk_below (g := gb352) (o := .cells #[.int .i64 t342, .slice Ao17 t343.length co17, .int .i64 t346, .int .i64 t347, .slice Ao18 t348.length co18] 27 (0, 0)) (by (with_reducible repeat (first | refine blk_drewN ?_ _ | refine blk_drew ?_ | refine blk_alloc ?_ _)); refine blk_far ?_ NB352_373.out _; (with_reducible repeat (first | refine blk_drewN ?_ _ | refine blk_drew ?_ | refine blk_alloc ?_ _)); refine blk_far ?_ NB352_373.out _; (with_reducible repeat (first | refine blk_drewN ?_ _ | refine blk_drew ?_ | refine blk_alloc ?_ _)); refine blk_far ?_ NB352_373.out _; (with_reducible repeat (first | refine blk_drewN ?_ _ | refine blk_drew ?_ | refine blk_alloc ?_ _)); exact BK352.out) hb); have n5_ := aA (blk_below (g := gb363) (o := .cells #[.int .i64 t353, .slice Ao23 t354.length co23, .int .i64 t357, .int .i64 t358, .slice Ao24 t359.length co24] 27 (0, 0)) (by (with_reducible repeat (first | refine blk_drewN ?_ _ | refine blk_drew ?_ | refine blk_alloc ?_ _)); refine blk_far ?_ NB363_373.out _; (with_reducible repeat (first | refine blk_drewN ?_ _ | refine blk_drew ?_ | refine blk_alloc ?_ _)); refine blk_far ?_ NB363_373.out _; (with_reducible repeat (first | refine blk_drewN ?_ _ | refine blk_drew ?_ | refine blk_alloc ?_ _)); refine blk_far ?_ NB363_373.out _; (with_reducible repeat (first | refine blk_drewN ?_ _ | refine blk_drew ?_ | refine blk_alloc ?_ _)); exact BK363.out) hb); have n6_ := aA (blk_below (g := gb368) (o := .cells #[.int .i64 t364, .string t365, .string t366] 32 (0, 0)) (by (with_reducible repeat (first | refine blk_drewN ?_ _ | refine blk_drew ?_ | refine blk_alloc ?_ _)); refine blk_far ?_ NB368_373.out _; (with_reducible repeat (first | refine blk_drewN ?_ _ | refine blk_drew ?_ | refine blk_alloc ?_ _)); refine blk_far ?_ NB368_373.out _; (with_reducible repeat (first | refine blk_drewN ?_ _ | refine blk_drew ?_ | refine blk_alloc ?_ _)); refine blk_far ?_ NB368_373.out _; (with_reducible repeat (first | refine blk_drewN ?_ _ | refine blk_drew ?_ | refine blk_alloc ?_ _)); exact BK368.out) hb); have n7_ := aA (blk_below (g := gb373) (o := .cells #[.int .i64 t369, .string t370, .string t371] 32 (0, 0)) (by (with_reducible repeat (first | refine blk_drewN ?_ _ | refine blk_drew ?_ | refine blk_alloc ?_ _)); have h_ := BK373.out; exact pK 2 (pK 1 (pK 0 (h_)))) hb); have n8_ := aA (below_step (by repeat (first | (with_reducible first | exact HB.out | apply below_alloc | apply pw_below_drewN | apply below_drew1 | refine below_set ?_ GE352.out | refine below_set ?_ GE363.out | refine below_set ?_ GE368.out | refine below_set ?_ GE373.out) | exact HB.out)) hb); clear HO345 HO350 HO356 HO361 BK352 BK363 BK368 BK373 HB; have HO345 := n0_; have HO350 := n1_; have HO356 := n2_; have HO361 := n3_; have BK352 := n4_; have BK363 := n5_; have BK368 := n6_; have BK373 := n7_; have HB := n8_; clear n0_ n1_ n2_ n3_ n4_ n5_ n6_ n7_ n8_; (try clear hb); (try clear hb2); (try clear hk); (try clear hi)) | (go_at_call 15; (with_reducible refine (foghornlaw12_alive.calls k  t375 _ ?side1 A39.out).mono ?_); (case side1 => exact gok_below HG.out (by repeat (first | (with_reducible first | exact HB.out | apply below_alloc | apply pw_below_drewN | apply below_drew1 | refine below_set ?_ GE352.out | refine below_set ?_ GE363.out | refine below_set ?_ GE368.out | refine below_set ?_ GE373.out) | exact HB.out))); rintro e w48 ⟨rfl, hb⟩; have n0_ := aA (Kd.R_below (mR HO345.out) hb); have n1_ := aA (Kd.R_below (mR HO350.out) hb); have n2_ := aA (Kd.R_below (mR HO356.out) hb); have n3_ := aA (Kd.R_below (mR HO361.out) hb); have n4_ := aA (bB BK352.out hb); have n5_ := aA (bB BK363.out hb); have n6_ := aA (bB BK368.out hb); have n7_ := aA (bB BK373.out hb); have n8_ := aA (below_step (by repeat (first | (with_reducible first | exact HB.out | apply below_alloc | apply pw_below_drewN | apply below_drew1 | refine below_set ?_ GE352.out | refine below_set ?_ GE363.out | refine below_set ?_ GE368.out | refine below_set ?_ GE373.out) | exact HB.out)) hb); clear HO345 HO350 HO356 HO361 BK352 BK363 BK368 BK373 HB; have HO345 := n0_; have HO350 := n1_; have HO356 := n2_; have HO361 := n3_; have BK352 := n4_; have BK363 := n5_; have BK368 := n6_; have BK373 := n7_; have HB := n8_; clear n0_ n1_ n2_ n3_ n4_ n5_ n6_ n7_ n8_; (try clear hb); (try clear hb2); (try clear hk); (try clear hi))); try go_wp2_with (first | (go_at_call 14; (with_reducible refine (foghornref12_Same.calls k t342 _ _ t343 t346 t347 _ _ t348 t353 _ _ t354 t357 t358 _ _ t359 true _ ?side1 ?side2 ?side3 ?side4 ?side5 ?side6 ?side7 ?side8 A37.out).mono ?_); (case side1 => refine (Kd.R_reads' (e := 52) (base := w.heap.size) (ok := fun k_ => (True ∧ some k_ ≠ (.slice Ao23 t354.length co23 : Value).ownBlock)) (n := t343.length) (c := co17) ?_).2.2; exact (by (with_reducible repeat (first | apply Kd.R_alloc | apply Kd.R_drewN | apply Kd.R_drew)); exact (Kd.R_mono (rF 2 (rF 1 (rF 0 (Kd.R_types HO345.out BK373.out (by decide))))) (fun _ h_ => h_.1)))); (case side2 => exact (Kd.R_reads' HO345.out).2.1); (case side3 => refine (Kd.R_reads' (e := 32) (base := w.heap.size) (ok := fun k_ => (((True ∧ some k_ ≠ (.slice Ao24 t359.length co24 : Value).ownBlock) ∧ k_ ≠ gb368) ∧ k_ ≠ gb373)) (n := t348.length) (c := co18) ?_).2.2; exact (by (with_reducible repeat (first | apply Kd.R_alloc | apply Kd.R_drewN | apply Kd.R_drew)); exact (Kd.R_mono (rF 2 (rF 1 (rF 0 (Kd.R_mono HO350.out (fun k_ hk => (⟨hk, hk.2⟩ : _ ∧ k_ ≠ gb373)))))) (fun _ h_ => h_.1)))); (case side4 => exact (Kd.R_reads' HO350.out).2.1); (case side5 => refine (Kd.R_reads' (e := 52) (base := w.heap.size) (ok := fun k_ => (True ∧ some k_ ≠ (.slice Ao17 t343.length co17 : Value).ownBlock)) (n := t354.length) (c := co23) ?_).2.2; exact (by (with_reducible repeat (first | apply Kd.R_alloc | apply Kd.R_drewN | apply Kd.R_drew)); exact (Kd.R_mono (rF 2 (rF 1 (rF 0 (Kd.R_types HO356.out BK373.out (by decide))))) (fun _ h_ => h_.1)))); (case side6 => exact (Kd.R_reads' HO356.out).2.1); (case side7 => refine (Kd.R_reads' (e := 32) (base := w.heap.size) (ok := fun k_ => (((True ∧ some k_ ≠ (.slice Ao18 t348.length co18 : Value).ownBlock) ∧ k_ ≠ gb368) ∧ k_ ≠ gb373)) (n := t359.length) (c := co24) ?_).2.2; exact (by (with_reducible repeat (first | apply Kd.R_alloc | apply Kd.R_drewN | apply Kd.R_drew)); exact (Kd.R_mono (rF 2 (rF 1 (rF 0 (Kd.R_mono HO361.out (fun k_ hk => (⟨hk, hk.2⟩ : _ ∧ k_ ≠ gb373)))))) (fun _ h_ => h_.1)))); (case side8 => exact (Kd.R_reads' HO361.out).2.1); rintro e w47 ⟨rfl, hb⟩; have n0_ := aA (Kd.R_below (by (with_reducible repeat (first | apply Kd.R_alloc | apply Kd.R_drewN | apply Kd.R_drew)); exact (Kd.R_mono (rF 2 (rF 1 (rF 0 (Kd.R_types HO345.out BK373.out (by decide))))) (fun _ h_ => h_.1))) hb); have n1_ := aA (Kd.R_below (by (with_reducible repeat (first | apply Kd.R_alloc | apply Kd.R_drewN | apply Kd.R_drew)); exact (Kd.R_mono (rF 2 (rF 1 (rF 0 (Kd.R_mono HO350.out (fun k_ hk => (⟨hk, hk.2⟩ : _ ∧ k_ ≠ gb373)))))) (fun _ h_ => h_.1))) hb); have n2_ := aA (Kd.R_below (by (with_reducible repeat (first | apply Kd.R_alloc | apply Kd.R_drewN | apply Kd.R_drew)); exact (Kd.R_mono (rF 2 (rF 1 (rF 0 (Kd.R_types HO356.out BK373.out (by decide))))) (fun _ h_ => h_.1))) hb); have n3_ := aA (Kd.R_below (by (with_reducible repeat (first | apply Kd.R_alloc | apply Kd.R_drewN | apply Kd.R_drew)); exact (Kd.R_mono (rF 2 (rF 1 (rF 0 (Kd.R_mono HO361.out (fun k_ hk => (⟨hk, hk.2⟩ : _ ∧ k_ ≠ gb373)))))) (fun _ h_ => h_.1))) hb); have n4_ := aA (blk_below (g := gb352) (o := .cells #[.int .i64 t342, .slice Ao17 t343.length co17, .int .i64 t346, .int .i64 t347, .slice Ao18 t348.length co18] 27 (0, 0)) (by (with_reducible repeat (first | refine blk_drewN ?_ _ | refine blk_drew ?_ | refine blk_alloc ?_ _)); refine blk_far ?_ NB352_373.out _; (with_reducible repeat (first | refine blk_drewN ?_ _ | refine blk_drew ?_ | refine blk_alloc ?_ _)); refine blk_far ?_ NB352_373.out _; (with_reducible repeat (first | refine blk_drewN ?_ _ | refine blk_drew ?_ | refine blk_alloc ?_ _)); refine blk_far ?_ NB352_373.out _; (with_reducible repeat (first | refine blk_drewN ?_ _ | refine blk_drew ?_ | refine blk_alloc ?_ _)); exact BK352.out) hb); have n5_ := aA (blk_below (g := gb363) (o := .cells #[.int .i64 t353, .slice Ao23 t354.length co23, .int .i64 t357, .int .i64 t358, .slice Ao24 t359.length co24] 27 (0, 0)) (by (with_reducible repeat (first | refine blk_drewN ?_ _ | refine blk_drew ?_ | refine blk_alloc ?_ _)); refine blk_far ?_ NB363_373.out _; (with_reducible repeat (first | refine blk_drewN ?_ _ | refine blk_drew ?_ | refine blk_alloc ?_ _)); refine blk_far ?_ NB363_373.out _; (with_reducible repeat (first | refine blk_drewN ?_ _ | refine blk_drew ?_ | refine blk_alloc ?_ _)); refine blk_far ?_ NB363_373.out _; (with_reducible repeat (first | refine blk_drewN ?_ _ | refine blk_drew ?_ | refine blk_alloc ?_ _)); exact BK363.out) hb); have n6_ := aA (blk_below (g := gb368) (o := .cells #[.int .i64 t364, .string t365, .string t366] 32 (0, 0)) (by (with_reducible repeat (first | refine blk_drewN ?_ _ | refine blk_drew ?_ | refine blk_alloc ?_ _)); refine blk_far ?_ NB368_373.out _; (with_reducible repeat (first | refine blk_drewN ?_ _ | refine blk_drew ?_ | refine blk_alloc ?_ _)); refine blk_far ?_ NB368_373.out _; (with_reducible repeat (first | refine blk_drewN ?_ _ | refine blk_drew ?_ | refine blk_alloc ?_ _)); refine blk_far ?_ NB368_373.out _; (with_reducible repeat (first | refine blk_drewN ?_ _ | refine blk_drew ?_ | refine blk_alloc ?_ _)); exact BK368.out) hb); have n7_ := aA (blk_below (g := gb373) (o := .cells #[.int .i64 t369, .string t370, .string t371] 32 (0, 0)) (by (with_reducible repeat (first | refine blk_drewN ?_ _ | refine blk_drew ?_ | refine blk_alloc ?_ _)); have h_ := BK373.out; exact pK 2 (pK 1 (pK 0 (h_)))) hb); have n8_ := aA (below_step (by repeat (first | (with_reducible first | exact HB.out | apply below_alloc | apply pw_below_drewN | apply below_drew1 | refine below_set ?_ GE352.out | refine below_set ?_ GE363.out | refine below_set ?_ GE368.out | refine below_set ?_ GE373.out) | exact HB.out)) hb); clear HO345 HO350 HO356 HO361 BK352 BK363 BK368 BK373 HB; have HO345 := n0_; have HO350 := n1_; have HO356 := n2_; have HO361 := n3_; have BK352 := n4_; have BK363 := n5_; have BK368 := n6_; have BK373 := n7_; have HB := n8_; clear n0_ n1_ n2_ n3_ n4_ n5_ n6_ n7_ n8_; (try clear hb); (try clear hb2); (try clear hk); (try clear hi)) | (go_at_call 15; (with_reducible refine (foghornlaw12_alive.calls k  t375 _ ?side1 A39.out).mono ?_); (case side1 => exact gok_below HG.out (by repeat (first | (with_reducible first | exact HB.out | apply below_alloc | apply pw_below_drewN | apply below_drew1 | refine below_set ?_ GE352.out | refine below_set ?_ GE363.out | refine below_set ?_ GE368.out | refine below_set ?_ GE373.out) | exact HB.out))); rintro e w48 ⟨rfl, hb⟩; have n0_ := aA (Kd.R_below (mR HO345.out) hb); have n1_ := aA (Kd.R_below (mR HO350.out) hb); have n2_ := aA (Kd.R_below (mR HO356.out) hb); have n3_ := aA (Kd.R_below (mR HO361.out) hb); have n4_ := aA (bB BK352.out hb); have n5_ := aA (bB BK363.out hb); have n6_ := aA (bB BK368.out hb); have n7_ := aA (bB BK373.out hb); have n8_ := aA (below_step (by repeat (first | (with_reducible first | exact HB.out | apply below_alloc | apply pw_below_drewN | apply below_drew1 | refine below_set ?_ GE352.out | refine below_set ?_ GE363.out | refine below_set ?_ GE368.out | refine below_set ?_ GE373.out) | exact HB.out)) hb); clear HO345 HO350 HO356 HO361 BK352 BK363 BK368 BK373 HB; have HO345 := n0_; have HO350 := n1_; have HO356 := n2_; have HO361 := n3_; have BK352 := n4_; have BK363 := n5_; have BK368 := n6_; have BK373 := n7_; have HB := n8_; clear n0_ n1_ n2_ n3_ n4_ n5_ n6_ n7_ n8_; (try clear hb); (try clear hb2); (try clear hk); (try clear hi))))
        go_meet
        case rel => exact ⟨_, (!t375), (by first | rfl | (simp; done) | (simp [*]; done)), H', ⟨by first | omega | exact Nat.le_refl _⟩, ⟨by (with_reducible repeat (first | apply Kd.R_alloc | apply Kd.R_drewN | apply Kd.R_drew)); exact Kd.R_mono HO345.out (fun _ hk => hk.2)⟩, ⟨by (with_reducible repeat (first | apply Kd.R_alloc | apply Kd.R_drewN | apply Kd.R_drew)); exact Kd.R_mono HO350.out (fun _ hk => ⟨hk.1.1.2, ⟨hk.1.2, hk.2⟩⟩)⟩, ⟨by (with_reducible repeat (first | apply Kd.R_alloc | apply Kd.R_drewN | apply Kd.R_drew)); exact Kd.R_mono HO356.out (fun _ hk => hk.2)⟩, ⟨by (with_reducible repeat (first | apply Kd.R_alloc | apply Kd.R_drewN | apply Kd.R_drew)); exact Kd.R_mono HO361.out (fun _ hk => ⟨hk.1.1.2, ⟨hk.1.2, hk.2⟩⟩)⟩, ⟨by (with_reducible repeat (first | refine blk_drewN ?_ _ | refine blk_drew ?_ | refine blk_alloc ?_ _)); exact BK352.out⟩, ⟨by (with_reducible repeat (first | refine blk_drewN ?_ _ | refine blk_drew ?_ | refine blk_alloc ?_ _)); exact BK363.out⟩, ⟨by (with_reducible repeat (first | refine blk_drewN ?_ _ | refine blk_drew ?_ | refine blk_alloc ?_ _)); exact BK368.out⟩, ⟨by (with_reducible repeat (first | refine blk_drewN ?_ _ | refine blk_drew ?_ | refine blk_alloc ?_ _)); exact BK373.out⟩, ⟨by repeat (first | (with_reducible first | exact HB.out | apply below_alloc | apply pw_below_drewN | apply below_drew1 | refine below_set ?_ GE352.out | refine below_set ?_ GE363.out | refine below_set ?_ GE368.out | refine below_set ?_ GE373.out) | exact HB.out)⟩⟩
       ·replace c38 := Bool.eq_false_iff.mpr c38
        subst c38
        have H1 : (foghornlaw12_WireParses.j0 k t367 t372 true t364 t365 t366 t369 t370 t371) = some r := by rw [if_neg (show ¬ (false = true) by decide)] at H; exact H
        clear H
        have H := H1
        clear H1
        have H' := aA H
        clear H
        have hnb49 := NB352_363.out
        have hnc49 := NB363_352.out
        have hnb50 := NB352_368.out
        have hnc50 := NB368_352.out
        have hnb51 := NB352_373.out
        have hnc51 := NB373_352.out
        obtain ⟨hcz52_0, hcz52_1, hcz52_2, hcz52_3, hcz52_4⟩ := bC5 BK352.out
        obtain ⟨hfz52_0, hfz52_1, hfz52_2, hfz52_3, hfz52_4⟩ := bF5 BK352.out
        have hnb53 := NB363_368.out
        have hnc53 := NB368_363.out
        have hnb54 := NB363_373.out
        have hnc54 := NB373_363.out
        obtain ⟨hcz55_0, hcz55_1, hcz55_2, hcz55_3, hcz55_4⟩ := bC5 BK363.out
        obtain ⟨hfz55_0, hfz55_1, hfz55_2, hfz55_3, hfz55_4⟩ := bF5 BK363.out
        go_wp2_with (first | (go_at_call 14; (with_reducible refine (foghornref12_Same.calls k t342 _ _ t343 t346 t347 _ _ t348 t353 _ _ t354 t357 t358 _ _ t359 false _ ?side1 ?side2 ?side3 ?side4 ?side5 ?side6 ?side7 ?side8 A37.out).mono ?_); (case side1 => refine (Kd.R_reads' (e := 52) (base := w.heap.size) (ok := fun k_ => (True ∧ some k_ ≠ (.slice Ao23 t354.length co23 : Value).ownBlock)) (n := t343.length) (c := co17) ?_).2.2; exact (by (with_reducible repeat (first | apply Kd.R_alloc | apply Kd.R_drewN | apply Kd.R_drew)); exact (Kd.R_mono (rF 2 (rF 1 (rF 0 (Kd.R_types HO345.out BK373.out (by decide))))) (fun _ h_ => h_.1)))); (case side2 => exact (Kd.R_reads' HO345.out).2.1); (case side3 => refine (Kd.R_reads' (e := 32) (base := w.heap.size) (ok := fun k_ => (((True ∧ some k_ ≠ (.slice Ao24 t359.length co24 : Value).ownBlock) ∧ k_ ≠ gb368) ∧ k_ ≠ gb373)) (n := t348.length) (c := co18) ?_).2.2; exact (by (with_reducible repeat (first | apply Kd.R_alloc | apply Kd.R_drewN | apply Kd.R_drew)); exact (Kd.R_mono (rF 2 (rF 1 (rF 0 (Kd.R_mono HO350.out (fun k_ hk => (⟨hk, hk.2⟩ : _ ∧ k_ ≠ gb373)))))) (fun _ h_ => h_.1)))); (case side4 => exact (Kd.R_reads' HO350.out).2.1); (case side5 => refine (Kd.R_reads' (e := 52) (base := w.heap.size) (ok := fun k_ => (True ∧ some k_ ≠ (.slice Ao17 t343.length co17 : Value).ownBlock)) (n := t354.length) (c := co23) ?_).2.2; exact (by (with_reducible repeat (first | apply Kd.R_alloc | apply Kd.R_drewN | apply Kd.R_drew)); exact (Kd.R_mono (rF 2 (rF 1 (rF 0 (Kd.R_types HO356.out BK373.out (by decide))))) (fun _ h_ => h_.1)))); (case side6 => exact (Kd.R_reads' HO356.out).2.1); (case side7 => refine (Kd.R_reads' (e := 32) (base := w.heap.size) (ok := fun k_ => (((True ∧ some k_ ≠ (.slice Ao18 t348.length co18 : Value).ownBlock) ∧ k_ ≠ gb368) ∧ k_ ≠ gb373)) (n := t359.length) (c := co24) ?_).2.2; exact (by (with_reducible repeat (first | apply Kd.R_alloc | apply Kd.R_drewN | apply Kd.R_drew)); exact (Kd.R_mono (rF 2 (rF 1 (rF 0 (Kd.R_mono HO361.out (fun k_ hk => (⟨hk, hk.2⟩ : _ ∧ k_ ≠ gb373)))))) (fun _ h_ => h_.1)))); (case side8 => exact (Kd.R_reads' HO361.out).2.1); rintro e w56 ⟨rfl, hb⟩; have n0_ := aA (Kd.R_below (by (with_reducible repeat (first | apply Kd.R_alloc | apply Kd.R_drewN | apply Kd.R_drew)); exact (Kd.R_mono (rF 2 (rF 1 (rF 0 (Kd.R_types HO345.out BK373.out (by decide))))) (fun _ h_ => h_.1))) hb); have n1_ := aA (Kd.R_below (by (with_reducible repeat (first | apply Kd.R_alloc | apply Kd.R_drewN | apply Kd.R_drew)); exact (Kd.R_mono (rF 2 (rF 1 (rF 0 (Kd.R_mono HO350.out (fun k_ hk => (⟨hk, hk.2⟩ : _ ∧ k_ ≠ gb373)))))) (fun _ h_ => h_.1))) hb); have n2_ := aA (Kd.R_below (by (with_reducible repeat (first | apply Kd.R_alloc | apply Kd.R_drewN | apply Kd.R_drew)); exact (Kd.R_mono (rF 2 (rF 1 (rF 0 (Kd.R_types HO356.out BK373.out (by decide))))) (fun _ h_ => h_.1))) hb); have n3_ := aA (Kd.R_below (by (with_reducible repeat (first | apply Kd.R_alloc | apply Kd.R_drewN | apply Kd.R_drew)); exact (Kd.R_mono (rF 2 (rF 1 (rF 0 (Kd.R_mono HO361.out (fun k_ hk => (⟨hk, hk.2⟩ : _ ∧ k_ ≠ gb373)))))) (fun _ h_ => h_.1))) hb); have n4_ := aA (blk_below (g := gb352) (o := .cells #[.int .i64 t342, .slice Ao17 t343.length co17, .int .i64 t346, .int .i64 t347, .slice Ao18 t348.length co18] 27 (0, 0)) (by (with_reducible repeat (first | refine blk_drewN ?_ _ | refine blk_drew ?_ | refine blk_alloc ?_ _)); refine blk_far ?_ NB352_373.out _; (with_reducible repeat (first | refine blk_drewN ?_ _ | refine blk_drew ?_ | refine blk_alloc ?_ _)); refine blk_far ?_ NB352_373.out _; (with_reducible repeat (first | refine blk_drewN ?_ _ | refine blk_drew ?_ | refine blk_alloc ?_ _)); refine blk_far ?_ NB352_373.out _; (with_reducible repeat (first | refine blk_drewN ?_ _ | refine blk_drew ?_ | refine blk_alloc ?_ _)); exact BK352.out) hb); have n5_ := aA (blk_below (g := gb363) (o := .cells #[.int .i64 t353, .slice Ao23 t354.length co23, .int .i64 t357, .int .i64 t358, .slice Ao24 t359.length co24] 27 (0, 0)) (by (with_reducible repeat (first | refine blk_drewN ?_ _ | refine blk_drew ?_ | refine blk_alloc ?_ _)); refine blk_far ?_ NB363_373.out _; (with_reducible repeat (first | refine blk_drewN ?_ _ | refine blk_drew ?_ | refine blk_alloc ?_ _)); refine blk_far ?_ NB363_373.out _; (with_reducible repeat (first | refine blk_drewN ?_ _ | refine blk_drew ?_ | refine blk_alloc ?_ _)); refine blk_far ?_ NB363_373.out _; (with_reducible repeat (first | refine blk_drewN ?_ _ | refine blk_drew ?_ | refine blk_alloc ?_ _)); exact BK363.out) hb); have n6_ := aA (blk_below (g := gb368) (o := .cells #[.int .i64 t364, .string t365, .string t366] 32 (0, 0)) (by (with_reducible repeat (first | refine blk_drewN ?_ _ | refine blk_drew ?_ | refine blk_alloc ?_ _)); refine blk_far ?_ NB368_373.out _; (with_reducible repeat (first | refine blk_drewN ?_ _ | refine blk_drew ?_ | refine blk_alloc ?_ _)); refine blk_far ?_ NB368_373.out _; (with_reducible repeat (first | refine blk_drewN ?_ _ | refine blk_drew ?_ | refine blk_alloc ?_ _)); refine blk_far ?_ NB368_373.out _; (with_reducible repeat (first | refine blk_drewN ?_ _ | refine blk_drew ?_ | refine blk_alloc ?_ _)); exact BK368.out) hb); have n7_ := aA (blk_below (g := gb373) (o := .cells #[.int .i64 t369, .string t370, .string t371] 32 (0, 0)) (by (with_reducible repeat (first | refine blk_drewN ?_ _ | refine blk_drew ?_ | refine blk_alloc ?_ _)); have h_ := BK373.out; exact pK 2 (pK 1 (pK 0 (h_)))) hb); have n8_ := aA (below_step (by repeat (first | (with_reducible first | exact HB.out | apply below_alloc | apply pw_below_drewN | apply below_drew1 | refine below_set ?_ GE352.out | refine below_set ?_ GE363.out | refine below_set ?_ GE368.out | refine below_set ?_ GE373.out) | exact HB.out)) hb); clear HO345 HO350 HO356 HO361 BK352 BK363 BK368 BK373 HB; have HO345 := n0_; have HO350 := n1_; have HO356 := n2_; have HO361 := n3_; have BK352 := n4_; have BK363 := n5_; have BK368 := n6_; have BK373 := n7_; have HB := n8_; clear n0_ n1_ n2_ n3_ n4_ n5_ n6_ n7_ n8_; (try clear hb); (try clear hb2); (try clear hk); (try clear hi)))
        repeat (go_quiet (first | (go_at_call 14; (with_reducible refine (foghornref12_Same.calls k t342 _ _ t343 t346 t347 _ _ t348 t353 _ _ t354 t357 t358 _ _ t359 false _ ?side1 ?side2 ?side3 ?side4 ?side5 ?side6 ?side7 ?side8 A37.out).mono ?_); (case side1 => refine (Kd.R_reads' (e := 52) (base := w.heap.size) (ok := fun k_ => (True ∧ some k_ ≠ (.slice Ao23 t354.length co23 : Value).ownBlock)) (n := t343.length) (c := co17) ?_).2.2; exact (by (with_reducible repeat (first | apply Kd.R_alloc | apply Kd.R_drewN | apply Kd.R_drew)); exact (Kd.R_mono (rF 2 (rF 1 (rF 0 (Kd.R_types HO345.out BK373.out (by decide))))) (fun _ h_ => h_.1)))); (case side2 => exact (Kd.R_reads' HO345.out).2.1); (case side3 => refine (Kd.R_reads' (e := 32) (base := w.heap.size) (ok := fun k_ => (((True ∧ some k_ ≠ (.slice Ao24 t359.length co24 : Value).ownBlock) ∧ k_ ≠ gb368) ∧ k_ ≠ gb373)) (n := t348.length) (c := co18) ?_).2.2; exact (by (with_reducible repeat (first | apply Kd.R_alloc | apply Kd.R_drewN | apply Kd.R_drew)); exact (Kd.R_mono (rF 2 (rF 1 (rF 0 (Kd.R_mono HO350.out (fun k_ hk => (⟨hk, hk.2⟩ : _ ∧ k_ ≠ gb373)))))) (fun _ h_ => h_.1)))); (case side4 => exact (Kd.R_reads' HO350.out).2.1); (case side5 => refine (Kd.R_reads' (e := 52) (base := w.heap.size) (ok := fun k_ => (True ∧ some k_ ≠ (.slice Ao17 t343.length co17 : Value).ownBlock)) (n := t354.length) (c := co23) ?_).2.2; exact (by (with_reducible repeat (first | apply Kd.R_alloc | apply Kd.R_drewN | apply Kd.R_drew)); exact (Kd.R_mono (rF 2 (rF 1 (rF 0 (Kd.R_types HO356.out BK373.out (by decide))))) (fun _ h_ => h_.1)))); (case side6 => exact (Kd.R_reads' HO356.out).2.1); (case side7 => refine (Kd.R_reads' (e := 32) (base := w.heap.size) (ok := fun k_ => (((True ∧ some k_ ≠ (.slice Ao18 t348.length co18 : Value).ownBlock) ∧ k_ ≠ gb368) ∧ k_ ≠ gb373)) (n := t359.length) (c := co24) ?_).2.2; exact (by (with_reducible repeat (first | apply Kd.R_alloc | apply Kd.R_drewN | apply Kd.R_drew)); exact (Kd.R_mono (rF 2 (rF 1 (rF 0 (Kd.R_mono HO361.out (fun k_ hk => (⟨hk, hk.2⟩ : _ ∧ k_ ≠ gb373)))))) (fun _ h_ => h_.1)))); (case side8 => exact (Kd.R_reads' HO361.out).2.1); rintro e w56 ⟨rfl, hb⟩; have n0_ := aA (Kd.R_below (by (with_reducible repeat (first | apply Kd.R_alloc | apply Kd.R_drewN | apply Kd.R_drew)); exact (Kd.R_mono (rF 2 (rF 1 (rF 0 (Kd.R_types HO345.out BK373.out (by decide))))) (fun _ h_ => h_.1))) hb); have n1_ := aA (Kd.R_below (by (with_reducible repeat (first | apply Kd.R_alloc | apply Kd.R_drewN | apply Kd.R_drew)); exact (Kd.R_mono (rF 2 (rF 1 (rF 0 (Kd.R_mono HO350.out (fun k_ hk => (⟨hk, hk.2⟩ : _ ∧ k_ ≠ gb373)))))) (fun _ h_ => h_.1))) hb); have n2_ := aA (Kd.R_below (by (with_reducible repeat (first | apply Kd.R_alloc | apply Kd.R_drewN | apply Kd.R_drew)); exact (Kd.R_mono (rF 2 (rF 1 (rF 0 (Kd.R_types HO356.out BK373.out (by decide))))) (fun _ h_ => h_.1))) hb); have n3_ := aA (Kd.R_below (by (with_reducible repeat (first | apply Kd.R_alloc | apply Kd.R_drewN | apply Kd.R_drew)); exact (Kd.R_mono (rF 2 (rF 1 (rF 0 (Kd.R_mono HO361.out (fun k_ hk => (⟨hk, hk.2⟩ : _ ∧ k_ ≠ gb373)))))) (fun _ h_ => h_.1))) hb); have n4_ := aA (blk_below (g := gb352) (o := .cells #[.int .i64 t342, .slice Ao17 t343.length co17, .int .i64 t346, .int .i64 t347, .slice Ao18 t348.length co18] 27 (0, 0)) (by (with_reducible repeat (first | refine blk_drewN ?_ _ | refine blk_drew ?_ | refine blk_alloc ?_ _)); refine blk_far ?_ NB352_373.out _; (with_reducible repeat (first | refine blk_drewN ?_ _ | refine blk_drew ?_ | refine blk_alloc ?_ _)); refine blk_far ?_ NB352_373.out _; (with_reducible repeat (first | refine blk_drewN ?_ _ | refine blk_drew ?_ | refine blk_alloc ?_ _)); refine blk_far ?_ NB352_373.out _; (with_reducible repeat (first | refine blk_drewN ?_ _ | refine blk_drew ?_ | refine blk_alloc ?_ _)); exact BK352.out) hb); have n5_ := aA (blk_below (g := gb363) (o := .cells #[.int .i64 t353, .slice Ao23 t354.length co23, .int .i64 t357, .int .i64 t358, .slice Ao24 t359.length co24] 27 (0, 0)) (by (with_reducible repeat (first | refine blk_drewN ?_ _ | refine blk_drew ?_ | refine blk_alloc ?_ _)); refine blk_far ?_ NB363_373.out _; (with_reducible repeat (first | refine blk_drewN ?_ _ | refine blk_drew ?_ | refine blk_alloc ?_ _)); refine blk_far ?_ NB363_373.out _; (with_reducible repeat (first | refine blk_drewN ?_ _ | refine blk_drew ?_ | refine blk_alloc ?_ _)); refine blk_far ?_ NB363_373.out _; (with_reducible repeat (first | refine blk_drewN ?_ _ | refine blk_drew ?_ | refine blk_alloc ?_ _)); exact BK363.out) hb); have n6_ := aA (blk_below (g := gb368) (o := .cells #[.int .i64 t364, .string t365, .string t366] 32 (0, 0)) (by (with_reducible repeat (first | refine blk_drewN ?_ _ | refine blk_drew ?_ | refine blk_alloc ?_ _)); refine blk_far ?_ NB368_373.out _; (with_reducible repeat (first | refine blk_drewN ?_ _ | refine blk_drew ?_ | refine blk_alloc ?_ _)); refine blk_far ?_ NB368_373.out _; (with_reducible repeat (first | refine blk_drewN ?_ _ | refine blk_drew ?_ | refine blk_alloc ?_ _)); refine blk_far ?_ NB368_373.out _; (with_reducible repeat (first | refine blk_drewN ?_ _ | refine blk_drew ?_ | refine blk_alloc ?_ _)); exact BK368.out) hb); have n7_ := aA (blk_below (g := gb373) (o := .cells #[.int .i64 t369, .string t370, .string t371] 32 (0, 0)) (by (with_reducible repeat (first | refine blk_drewN ?_ _ | refine blk_drew ?_ | refine blk_alloc ?_ _)); have h_ := BK373.out; exact pK 2 (pK 1 (pK 0 (h_)))) hb); have n8_ := aA (below_step (by repeat (first | (with_reducible first | exact HB.out | apply below_alloc | apply pw_below_drewN | apply below_drew1 | refine below_set ?_ GE352.out | refine below_set ?_ GE363.out | refine below_set ?_ GE368.out | refine below_set ?_ GE373.out) | exact HB.out)) hb); clear HO345 HO350 HO356 HO361 BK352 BK363 BK368 BK373 HB; have HO345 := n0_; have HO350 := n1_; have HO356 := n2_; have HO361 := n3_; have BK352 := n4_; have BK363 := n5_; have BK368 := n6_; have BK373 := n7_; have HB := n8_; clear n0_ n1_ n2_ n3_ n4_ n5_ n6_ n7_ n8_; (try clear hb); (try clear hb2); (try clear hk); (try clear hi))); try go_wp2_with (first | (go_at_call 14; (with_reducible refine (foghornref12_Same.calls k t342 _ _ t343 t346 t347 _ _ t348 t353 _ _ t354 t357 t358 _ _ t359 false _ ?side1 ?side2 ?side3 ?side4 ?side5 ?side6 ?side7 ?side8 A37.out).mono ?_); (case side1 => refine (Kd.R_reads' (e := 52) (base := w.heap.size) (ok := fun k_ => (True ∧ some k_ ≠ (.slice Ao23 t354.length co23 : Value).ownBlock)) (n := t343.length) (c := co17) ?_).2.2; exact (by (with_reducible repeat (first | apply Kd.R_alloc | apply Kd.R_drewN | apply Kd.R_drew)); exact (Kd.R_mono (rF 2 (rF 1 (rF 0 (Kd.R_types HO345.out BK373.out (by decide))))) (fun _ h_ => h_.1)))); (case side2 => exact (Kd.R_reads' HO345.out).2.1); (case side3 => refine (Kd.R_reads' (e := 32) (base := w.heap.size) (ok := fun k_ => (((True ∧ some k_ ≠ (.slice Ao24 t359.length co24 : Value).ownBlock) ∧ k_ ≠ gb368) ∧ k_ ≠ gb373)) (n := t348.length) (c := co18) ?_).2.2; exact (by (with_reducible repeat (first | apply Kd.R_alloc | apply Kd.R_drewN | apply Kd.R_drew)); exact (Kd.R_mono (rF 2 (rF 1 (rF 0 (Kd.R_mono HO350.out (fun k_ hk => (⟨hk, hk.2⟩ : _ ∧ k_ ≠ gb373)))))) (fun _ h_ => h_.1)))); (case side4 => exact (Kd.R_reads' HO350.out).2.1); (case side5 => refine (Kd.R_reads' (e := 52) (base := w.heap.size) (ok := fun k_ => (True ∧ some k_ ≠ (.slice Ao17 t343.length co17 : Value).ownBlock)) (n := t354.length) (c := co23) ?_).2.2; exact (by (with_reducible repeat (first | apply Kd.R_alloc | apply Kd.R_drewN | apply Kd.R_drew)); exact (Kd.R_mono (rF 2 (rF 1 (rF 0 (Kd.R_types HO356.out BK373.out (by decide))))) (fun _ h_ => h_.1)))); (case side6 => exact (Kd.R_reads' HO356.out).2.1); (case side7 => refine (Kd.R_reads' (e := 32) (base := w.heap.size) (ok := fun k_ => (((True ∧ some k_ ≠ (.slice Ao18 t348.length co18 : Value).ownBlock) ∧ k_ ≠ gb368) ∧ k_ ≠ gb373)) (n := t359.length) (c := co24) ?_).2.2; exact (by (with_reducible repeat (first | apply Kd.R_alloc | apply Kd.R_drewN | apply Kd.R_drew)); exact (Kd.R_mono (rF 2 (rF 1 (rF 0 (Kd.R_mono HO361.out (fun k_ hk => (⟨hk, hk.2⟩ : _ ∧ k_ ≠ gb373)))))) (fun _ h_ => h_.1)))); (case side8 => exact (Kd.R_reads' HO361.out).2.1); rintro e w56 ⟨rfl, hb⟩; have n0_ := aA (Kd.R_below (by (with_reducible repeat (first | apply Kd.R_alloc | apply Kd.R_drewN | apply Kd.R_drew)); exact (Kd.R_mono (rF 2 (rF 1 (rF 0 (Kd.R_types HO345.out BK373.out (by decide))))) (fun _ h_ => h_.1))) hb); have n1_ := aA (Kd.R_below (by (with_reducible repeat (first | apply Kd.R_alloc | apply Kd.R_drewN | apply Kd.R_drew)); exact (Kd.R_mono (rF 2 (rF 1 (rF 0 (Kd.R_mono HO350.out (fun k_ hk => (⟨hk, hk.2⟩ : _ ∧ k_ ≠ gb373)))))) (fun _ h_ => h_.1))) hb); have n2_ := aA (Kd.R_below (by (with_reducible repeat (first | apply Kd.R_alloc | apply Kd.R_drewN | apply Kd.R_drew)); exact (Kd.R_mono (rF 2 (rF 1 (rF 0 (Kd.R_types HO356.out BK373.out (by decide))))) (fun _ h_ => h_.1))) hb); have n3_ := aA (Kd.R_below (by (with_reducible repeat (first | apply Kd.R_alloc | apply Kd.R_drewN | apply Kd.R_drew)); exact (Kd.R_mono (rF 2 (rF 1 (rF 0 (Kd.R_mono HO361.out (fun k_ hk => (⟨hk, hk.2⟩ : _ ∧ k_ ≠ gb373)))))) (fun _ h_ => h_.1))) hb); have n4_ := aA (blk_below (g := gb352) (o := .cells #[.int .i64 t342, .slice Ao17 t343.length co17, .int .i64 t346, .int .i64 t347, .slice Ao18 t348.length co18] 27 (0, 0)) (by (with_reducible repeat (first | refine blk_drewN ?_ _ | refine blk_drew ?_ | refine blk_alloc ?_ _)); refine blk_far ?_ NB352_373.out _; (with_reducible repeat (first | refine blk_drewN ?_ _ | refine blk_drew ?_ | refine blk_alloc ?_ _)); refine blk_far ?_ NB352_373.out _; (with_reducible repeat (first | refine blk_drewN ?_ _ | refine blk_drew ?_ | refine blk_alloc ?_ _)); refine blk_far ?_ NB352_373.out _; (with_reducible repeat (first | refine blk_drewN ?_ _ | refine blk_drew ?_ | refine blk_alloc ?_ _)); exact BK352.out) hb); have n5_ := aA (blk_below (g := gb363) (o := .cells #[.int .i64 t353, .slice Ao23 t354.length co23, .int .i64 t357, .int .i64 t358, .slice Ao24 t359.length co24] 27 (0, 0)) (by (with_reducible repeat (first | refine blk_drewN ?_ _ | refine blk_drew ?_ | refine blk_alloc ?_ _)); refine blk_far ?_ NB363_373.out _; (with_reducible repeat (first | refine blk_drewN ?_ _ | refine blk_drew ?_ | refine blk_alloc ?_ _)); refine blk_far ?_ NB363_373.out _; (with_reducible repeat (first | refine blk_drewN ?_ _ | refine blk_drew ?_ | refine blk_alloc ?_ _)); refine blk_far ?_ NB363_373.out _; (with_reducible repeat (first | refine blk_drewN ?_ _ | refine blk_drew ?_ | refine blk_alloc ?_ _)); exact BK363.out) hb); have n6_ := aA (blk_below (g := gb368) (o := .cells #[.int .i64 t364, .string t365, .string t366] 32 (0, 0)) (by (with_reducible repeat (first | refine blk_drewN ?_ _ | refine blk_drew ?_ | refine blk_alloc ?_ _)); refine blk_far ?_ NB368_373.out _; (with_reducible repeat (first | refine blk_drewN ?_ _ | refine blk_drew ?_ | refine blk_alloc ?_ _)); refine blk_far ?_ NB368_373.out _; (with_reducible repeat (first | refine blk_drewN ?_ _ | refine blk_drew ?_ | refine blk_alloc ?_ _)); refine blk_far ?_ NB368_373.out _; (with_reducible repeat (first | refine blk_drewN ?_ _ | refine blk_drew ?_ | refine blk_alloc ?_ _)); exact BK368.out) hb); have n7_ := aA (blk_below (g := gb373) (o := .cells #[.int .i64 t369, .string t370, .string t371] 32 (0, 0)) (by (with_reducible repeat (first | refine blk_drewN ?_ _ | refine blk_drew ?_ | refine blk_alloc ?_ _)); have h_ := BK373.out; exact pK 2 (pK 1 (pK 0 (h_)))) hb); have n8_ := aA (below_step (by repeat (first | (with_reducible first | exact HB.out | apply below_alloc | apply pw_below_drewN | apply below_drew1 | refine below_set ?_ GE352.out | refine below_set ?_ GE363.out | refine below_set ?_ GE368.out | refine below_set ?_ GE373.out) | exact HB.out)) hb); clear HO345 HO350 HO356 HO361 BK352 BK363 BK368 BK373 HB; have HO345 := n0_; have HO350 := n1_; have HO356 := n2_; have HO361 := n3_; have BK352 := n4_; have BK363 := n5_; have BK368 := n6_; have BK373 := n7_; have HB := n8_; clear n0_ n1_ n2_ n3_ n4_ n5_ n6_ n7_ n8_; (try clear hb); (try clear hb2); (try clear hk); (try clear hi))))
        go_meet
        case rel => exact ⟨_, (true), (by first | rfl | (simp; done) | (simp [*]; done)), H', ⟨by first | omega | exact Nat.le_refl _⟩, ⟨by (with_reducible repeat (first | apply Kd.R_alloc | apply Kd.R_drewN | apply Kd.R_drew)); exact Kd.R_mono HO345.out (fun _ hk => hk.2)⟩, ⟨by (with_reducible repeat (first | apply Kd.R_alloc | apply Kd.R_drewN | apply Kd.R_drew)); exact Kd.R_mono HO350.out (fun _ hk => ⟨hk.1.1.2, ⟨hk.1.2, hk.2⟩⟩)⟩, ⟨by (with_reducible repeat (first | apply Kd.R_alloc | apply Kd.R_drewN | apply Kd.R_drew)); exact Kd.R_mono HO356.out (fun _ hk => hk.2)⟩, ⟨by (with_reducible repeat (first | apply Kd.R_alloc | apply Kd.R_drewN | apply Kd.R_drew)); exact Kd.R_mono HO361.out (fun _ hk => ⟨hk.1.1.2, ⟨hk.1.2, hk.2⟩⟩)⟩, ⟨by (with_reducible repeat (first | refine blk_drewN ?_ _ | refine blk_drew ?_ | refine blk_alloc ?_ _)); exact BK352.out⟩, ⟨by (with_reducible repeat (first | refine blk_drewN ?_ _ | refine blk_drew ?_ | refine blk_alloc ?_ _)); exact BK363.out⟩, ⟨by (with_reducible repeat (first | refine blk_drewN ?_ _ | refine blk_drew ?_ | refine blk_alloc ?_ _)); exact BK368.out⟩, ⟨by (with_reducible repeat (first | refine blk_drewN ?_ _ | refine blk_drew ?_ | refine blk_alloc ?_ _)); exact BK373.out⟩, ⟨by repeat (first | (with_reducible first | exact HB.out | apply below_alloc | apply pw_below_drewN | apply below_drew1 | refine below_set ?_ GE352.out | refine below_set ?_ GE363.out | refine below_set ?_ GE368.out | refine below_set ?_ GE373.out) | exact HB.out)⟩⟩
      ·rw [if_neg c36] at H
       have c36b0 : (t351 == t362) = false := beq_eq_false_iff_ne.mpr c36
       have c36b1 : (t351 != t362) = true := bne_iff_ne.mpr c36
       (first | rw [c36b0] | (simp only [i64_w, i32_w]; rw [c36b0]) | skip)
       have H' := aA H
       clear H
       go_wp2
       repeat (go_quiet (fail); try go_wp2)
       go_meet
       case rel => exact ⟨_, (true), (by first | rfl | (simp; done) | (simp [*]; done)), H', ⟨by first | omega | exact Nat.le_refl _⟩, ⟨by (with_reducible repeat (first | apply Kd.R_alloc | apply Kd.R_drewN | apply Kd.R_drew)); exact Kd.R_mono (rF 2 (rF 1 (rF 0 (Kd.R_types HO345.out BK373.out (by decide))))) (fun _ hk => hk.1.2)⟩, ⟨by (with_reducible repeat (first | apply Kd.R_alloc | apply Kd.R_drewN | apply Kd.R_drew)); exact Kd.R_mono (rF 2 (rF 1 (rF 0 (Kd.R_mono HO350.out (fun k_ hk => (⟨hk, hk.2⟩ : _ ∧ k_ ≠ gb373)))))) (fun _ hk => ⟨hk.1.1.1.2, ⟨hk.1.1.2, hk.1.2⟩⟩)⟩, ⟨by (with_reducible repeat (first | apply Kd.R_alloc | apply Kd.R_drewN | apply Kd.R_drew)); exact Kd.R_mono (rF 2 (rF 1 (rF 0 (Kd.R_types HO356.out BK373.out (by decide))))) (fun _ hk => hk.1.2)⟩, ⟨by (with_reducible repeat (first | apply Kd.R_alloc | apply Kd.R_drewN | apply Kd.R_drew)); exact Kd.R_mono (rF 2 (rF 1 (rF 0 (Kd.R_mono HO361.out (fun k_ hk => (⟨hk, hk.2⟩ : _ ∧ k_ ≠ gb373)))))) (fun _ hk => ⟨hk.1.1.1.2, ⟨hk.1.1.2, hk.1.2⟩⟩)⟩, ⟨by (with_reducible repeat (first | refine blk_drewN ?_ _ | refine blk_drew ?_ | refine blk_alloc ?_ _)); refine blk_far ?_ NB352_373.out _; (with_reducible repeat (first | refine blk_drewN ?_ _ | refine blk_drew ?_ | refine blk_alloc ?_ _)); refine blk_far ?_ NB352_373.out _; (with_reducible repeat (first | refine blk_drewN ?_ _ | refine blk_drew ?_ | refine blk_alloc ?_ _)); refine blk_far ?_ NB352_373.out _; (with_reducible repeat (first | refine blk_drewN ?_ _ | refine blk_drew ?_ | refine blk_alloc ?_ _)); exact BK352.out⟩, ⟨by (with_reducible repeat (first | refine blk_drewN ?_ _ | refine blk_drew ?_ | refine blk_alloc ?_ _)); refine blk_far ?_ NB363_373.out _; (with_reducible repeat (first | refine blk_drewN ?_ _ | refine blk_drew ?_ | refine blk_alloc ?_ _)); refine blk_far ?_ NB363_373.out _; (with_reducible repeat (first | refine blk_drewN ?_ _ | refine blk_drew ?_ | refine blk_alloc ?_ _)); refine blk_far ?_ NB363_373.out _; (with_reducible repeat (first | refine blk_drewN ?_ _ | refine blk_drew ?_ | refine blk_alloc ?_ _)); exact BK363.out⟩, ⟨by (with_reducible repeat (first | refine blk_drewN ?_ _ | refine blk_drew ?_ | refine blk_alloc ?_ _)); refine blk_far ?_ NB368_373.out _; (with_reducible repeat (first | refine blk_drewN ?_ _ | refine blk_drew ?_ | refine blk_alloc ?_ _)); refine blk_far ?_ NB368_373.out _; (with_reducible repeat (first | refine blk_drewN ?_ _ | refine blk_drew ?_ | refine blk_alloc ?_ _)); refine blk_far ?_ NB368_373.out _; (with_reducible repeat (first | refine blk_drewN ?_ _ | refine blk_drew ?_ | refine blk_alloc ?_ _)); exact BK368.out⟩, ⟨by (with_reducible repeat (first | refine blk_drewN ?_ _ | refine blk_drew ?_ | refine blk_alloc ?_ _)); refine blk_put (cs := #[.int .i64 t369, .string t370, .string (⟨#[]⟩ : ByteArray)]) ?_ 2 _ rfl; (with_reducible repeat (first | refine blk_drewN ?_ _ | refine blk_drew ?_ | refine blk_alloc ?_ _)); refine blk_put (cs := #[.int .i64 t369, .string (⟨#[]⟩ : ByteArray), .string (⟨#[]⟩ : ByteArray)]) ?_ 1 _ rfl; (with_reducible repeat (first | refine blk_drewN ?_ _ | refine blk_drew ?_ | refine blk_alloc ?_ _)); refine blk_put (cs := #[.int .i64 0, .string (⟨#[]⟩ : ByteArray), .string (⟨#[]⟩ : ByteArray)]) ?_ 0 _ rfl; (with_reducible repeat (first | refine blk_drewN ?_ _ | refine blk_drew ?_ | refine blk_alloc ?_ _)); exact BK373.out⟩, ⟨by repeat (first | (with_reducible first | exact HB.out | apply below_alloc | apply pw_below_drewN | apply below_drew1 | refine below_set ?_ GE352.out | refine below_set ?_ GE363.out | refine below_set ?_ GE368.out | refine below_set ?_ GE373.out) | exact HB.out)⟩⟩
     case rest =>
      clear HC13
      try clear c2
      try clear p2
      try clear c3
      try clear c4
      try clear c4b0
      try clear c4b1
      try clear c5
      try clear c5b0
      try clear c5b1
      try clear c7
      try clear c7b0
      try clear c7b1
      try clear c8
      try clear c8b0
      try clear c8b1
      try clear c21
      try clear c27
      try clear c28
      try clear c32
      try clear c33
      try clear c34
      try clear c36
      try clear c36b0
      try clear c36b1
      try clear c38
      try clear c40
      try clear c41
      try clear c42
      try clear c44
      try clear c45
      try clear c49
      try clear c50
      try clear c51
      try clear c53
      try clear c54
      try clear hcz16_0 hcz16_1 hcz16_2 hcz16_3 hcz16_4
      try clear hcz22_0 hcz22_1 hcz22_2 hcz22_3 hcz22_4
      try clear hcz29_0 hcz29_1 hcz29_2
      try clear hcz35_0 hcz35_1 hcz35_2
      try clear hcz43_0 hcz43_1 hcz43_2 hcz43_3 hcz43_4
      try clear hcz46_0 hcz46_1 hcz46_2 hcz46_3 hcz46_4
      try clear hcz52_0 hcz52_1 hcz52_2 hcz52_3 hcz52_4
      try clear hcz55_0 hcz55_1 hcz55_2 hcz55_3 hcz55_4
      try clear hfz16_0 hfz16_1 hfz16_2 hfz16_3 hfz16_4
      try clear hfz22_0 hfz22_1 hfz22_2 hfz22_3 hfz22_4
      try clear hfz29_0 hfz29_1 hfz29_2
      try clear hfz35_0 hfz35_1 hfz35_2
      try clear hfz43_0 hfz43_1 hfz43_2 hfz43_3 hfz43_4
      try clear hfz46_0 hfz46_1 hfz46_2 hfz46_3 hfz46_4
      try clear hfz52_0 hfz52_1 hfz52_2 hfz52_3 hfz52_4
      try clear hfz55_0 hfz55_1 hfz55_2 hfz55_3 hfz55_4
      obtain ⟨kq, x55_12, rfl, HA, HJ12, HO_353001, HO_353004, HO_364001, HO_364004, BK352, BK363, BK368, BK373, HB⟩ := hcut
      cases kq with
      | zero => exact absurd HA.out (by simp [foghornlaw12_WireParses.j0])
      | succ kj12 =>
       have H := HA.out
       clear HA
       simp only [foghornlaw12_WireParses.j0] at H
       by_cases c57 : x55_12 = true
       ·subst c57
        have H1 : (some false) = some r := by rw [if_pos rfl] at H; exact H
        clear H
        have H := H1
        clear H1
        exact absurd (Option.some.inj H) (by rw [hrt_]; decide)
       ·replace c57 := Bool.eq_false_iff.mpr c57
        subst c57
        have H1 : (if t372 = true then (if t367 = 0 then (some (t364 == t369 && (t365.toList == t370.toList && (t366.toList == t371.toList)))) else (some false)) else (if t367 = 13 then (some (t364 == 0 && (t365.toList == ([] : List UInt8) && (t366.toList == ([] : List UInt8))))) else (some false))) = some r := by rw [if_neg (show ¬ (false = true) by decide)] at H; exact H
        clear H
        have H := H1
        clear H1
        by_cases c58 : t372 = true
        ·subst c58
         have H1 : (if t367 = 0 then (some (t364 == t369 && (t365.toList == t370.toList && (t366.toList == t371.toList)))) else (some false)) = some r := by rw [if_pos rfl] at H; exact H
         clear H
         have H := H1
         clear H1
         by_cases c59 : t367 = 0
         ·rw [if_pos c59] at H
          have c59b0 : (t367 == 0) = true := beq_iff_eq.mpr c59
          have c59b1 : (t367 != 0) = false := bne_eq_false_iff_eq.mpr c59
          clear c59
          obtain rfl := Option.some.inj H
          have hnb60 := NB368_352.out
          have hnc60 := NB352_368.out
          have hnb61 := NB368_363.out
          have hnc61 := NB363_368.out
          have hnb62 := NB368_373.out
          have hnc62 := NB373_368.out
          obtain ⟨hcz63_0, hcz63_1, hcz63_2⟩ := bC3 BK368.out
          obtain ⟨hfz63_0, hfz63_1, hfz63_2⟩ := bF3 BK368.out
          have hnb64 := NB373_352.out
          have hnc64 := NB352_373.out
          have hnb65 := NB373_363.out
          have hnc65 := NB363_373.out
          obtain ⟨hcz66_0, hcz66_1, hcz66_2⟩ := bC3 BK373.out
          obtain ⟨hfz66_0, hfz66_1, hfz66_2⟩ := bF3 BK373.out
          go_wp2
          repeat (go_quiet (fail); try go_wp2)
          go_ret
          exact ⟨by first | rfl | (simp [errW_none, errW_some] <;> rfl) | (simp only [← hji3, ← hji6]; first | rfl | (simp [errW_none, errW_some] <;> rfl)) | (simp [*, errW_none, errW_some] <;> rfl), by repeat (first | (with_reducible first | exact HB.out | apply below_alloc | apply pw_below_drewN | apply below_drew1 | refine below_set ?_ GE352.out | refine below_set ?_ GE363.out | refine below_set ?_ GE368.out | refine below_set ?_ GE373.out) | exact HB.out)⟩
         ·rw [if_neg c59] at H
          have c59b0 : (t367 == 0) = false := beq_eq_false_iff_ne.mpr c59
          have c59b1 : (t367 != 0) = true := bne_iff_ne.mpr c59
          exact absurd (Option.some.inj H) (by rw [hrt_]; decide)
        ·replace c58 := Bool.eq_false_iff.mpr c58
         subst c58
         have H1 : (if t367 = 13 then (some (t364 == 0 && (t365.toList == ([] : List UInt8) && (t366.toList == ([] : List UInt8))))) else (some false)) = some r := by rw [if_neg (show ¬ (false = true) by decide)] at H; exact H
         clear H
         have H := H1
         clear H1
         by_cases c67 : t367 = 13
         ·rw [if_pos c67] at H
          have c67b0 : (t367 == 13) = true := beq_iff_eq.mpr c67
          have c67b1 : (t367 != 13) = false := bne_eq_false_iff_eq.mpr c67
          clear c67
          obtain rfl := Option.some.inj H
          have hnb68 := NB368_352.out
          have hnc68 := NB352_368.out
          have hnb69 := NB368_363.out
          have hnc69 := NB363_368.out
          have hnb70 := NB368_373.out
          have hnc70 := NB373_368.out
          obtain ⟨hcz71_0, hcz71_1, hcz71_2⟩ := bC3 BK368.out
          obtain ⟨hfz71_0, hfz71_1, hfz71_2⟩ := bF3 BK368.out
          go_wp2
          repeat (go_quiet (fail); try go_wp2)
          go_ret
          exact ⟨by first | rfl | (simp [errW_none, errW_some] <;> rfl) | (simp only [← hji3, ← hji6]; first | rfl | (simp [errW_none, errW_some] <;> rfl)) | (simp [*, errW_none, errW_some] <;> rfl), by repeat (first | (with_reducible first | exact HB.out | apply below_alloc | apply pw_below_drewN | apply below_drew1 | refine below_set ?_ GE352.out | refine below_set ?_ GE363.out | refine below_set ?_ GE368.out | refine below_set ?_ GE373.out) | exact HB.out)⟩
         ·rw [if_neg c67] at H
          have c67b0 : (t367 == 13) = false := beq_eq_false_iff_ne.mpr c67
          have c67b1 : (t367 != 13) = true := bne_iff_ne.mpr c67
          exact absurd (Option.some.inj H) (by rw [hrt_]; decide)
    ·rw [if_neg c8] at H
     exact absurd H (by simp)
   ·rw [if_neg c7] at H
    exact absurd H (by simp)
  ·rw [if_neg c5] at H
   exact absurd H (by simp)
 ·rw [if_neg c4] at H
  exact absurd H (by simp)
end Go.Proofs.YtjfknmlchdifjaaGreatDoorQ.P
namespace Go.Proofs.YtjfknmlchdifjaaGreatDoorQ.P
open Go.RowKit Go.Proofs.YtjfknmlchdifjaaGreatDoorW.PrintWords Go.Proofs.YtjfknmlchdifjaaGreatDoorW.PrintLast Go.Proofs.YtjfknmlchdifjaaGreatDoorW.PrintMore
attribute [local go_sem] max2_int min2_int max_two min_two max_three min_three max_four min_four
def foghornlaw12_one.f (a0_0 : Int) (a0_1 : ByteArray) (a0_2 : ByteArray) : Option (Int × ByteArray × ByteArray) := if 0 ≤ (mn (a0_1.size : Int) 12) then (if (mn (a0_1.size : Int) 12) ≤ (a0_1.size : Int) then (if 0 ≤ (mn (a0_2.size : Int) 12) then (if (mn (a0_2.size : Int) 12) ≤ (a0_2.size : Int) then (some (a0_0, a0_1.extract 0 ((mn (a0_1.size : Int) 12) : Int).toNat, a0_2.extract 0 ((mn (a0_2.size : Int) 12) : Int).toNat)) else (none)) else (none)) else (none)) else (none)
end Go.Proofs.YtjfknmlchdifjaaGreatDoorQ.P
namespace Go.Proofs.YtjfknmlchdifjaaGreatDoorQ.P
open Go.RowKit Go.Proofs.YtjfknmlchdifjaaGreatDoorW.PrintWords Go.Proofs.YtjfknmlchdifjaaGreatDoorW.PrintLast Go.Proofs.YtjfknmlchdifjaaGreatDoorW.PrintMore
attribute [local go_sem] max2_int min2_int max_two min_two max_three min_three max_four min_four
mutual
def foghornlaw12_few.l0 : Nat → List (S52) → List (S52) → Int → Int → Int → List (S52) → Int → Int → List (S32) → Option (Int × (List (S52)) × Int × Int × (List (S32)))
 | 0, _, _, _, _, _, _, _, _, _ => none
 | k + 1, x3, x15, x16, x17, x379000, x379001, x379002, x379003, x379004 => if x17 < x16 then (if 0 ≤ x17 then (if x17 < (x15.length : Int) then (if 0 ≤ (mn (((rd_T52 x15 x17).f0).size : Int) 12) then (if (mn (((rd_T52 x15 x17).f0).size : Int) 12) ≤ (((rd_T52 x15 x17).f0).size : Int) then (if 0 ≤ (mn (((rd_T52 x15 x17).f1).size : Int) 12) then (if (mn (((rd_T52 x15 x17).f1).size : Int) 12) ≤ (((rd_T52 x15 x17).f1).size : Int) then (if x3.length < 4398046511104 then (foghornlaw12_few.l0 k (x3 ++ [(⟨((rd_T52 x15 x17).f0).extract 0 ((mn (((rd_T52 x15 x17).f0).size : Int) 12) : Int).toNat, ((rd_T52 x15 x17).f1).extract 0 ((mn (((rd_T52 x15 x17).f1).size : Int) 12) : Int).toNat⟩ : S52)]) x15 x16 (wrap64 (x17 + 1)) x379000 x379001 x379002 x379003 x379004) else (none)) else (none)) else (none)) else (none)) else (none)) else (none)) else (none)) else (if 0 ≤ (mn (x379004.length : Int) 6) then (if (mn (x379004.length : Int) 6) ≤ (x379004.length : Int) then ((some (x379004.take ((mn (x379004.length : Int) 6) : Int).toNat : List (S32))).bind fun y389 => (foghornlaw12_few.l1 k x3 ([] : List (S32)) y389 (y389.length : Int) 0 x379000 x379001 x379002 x379003 x379004)) else (none)) else (none))
def foghornlaw12_few.l1 : Nat → List (S52) → List (S32) → List (S32) → Int → Int → Int → List (S52) → Int → Int → List (S32) → Option (Int × (List (S52)) × Int × Int × (List (S32)))
 | 0, _, _, _, _, _, _, _, _, _, _ => none
 | k + 1, x3, x6, x48, x49, x50, x379000, x379001, x379002, x379003, x379004 => if x50 < x49 then (if 0 ≤ x50 then (if x50 < (x48.length : Int) then ((foghornlaw12_one.f ((rd_T32 x48 x50).f0) ((rd_T32 x48 x50).f1) ((rd_T32 x48 x50).f2)).bind fun bt395 => (if x6.length < 3518437208883 then (foghornlaw12_few.l1 k x3 (x6 ++ [(⟨bt395.1, bt395.2.1, bt395.2.2⟩ : S32)]) x48 x49 (wrap64 (x50 + 1)) x379000 x379001 x379002 x379003 x379004) else (none))) else (none)) else (none)) else (some (x379000, x3, x379002, x379003, x6))
end
def foghornlaw12_few.f (k : Nat) (a0_0 : Int) (l0_1 : List (S52)) (a0_2 : Int) (a0_3 : Int) (l0_4 : List (S32)) : Option (Int × (List (S52)) × Int × Int × (List (S32))) := if 0 ≤ (mn (l0_1.length : Int) 5) then (if (mn (l0_1.length : Int) 5) ≤ (l0_1.length : Int) then ((some (l0_1.take ((mn (l0_1.length : Int) 5) : Int).toNat : List (S52))).bind fun y380 => (foghornlaw12_few.l0 k ([] : List (S52)) y380 (y380.length : Int) 0 a0_0 l0_1 a0_2 a0_3 l0_4)) else (none)) else (none)
theorem foghornlaw12_few.mono_l : ∀ k, (∀ y0 y1 y2 y3 y4 y5 y6 y7 y8, LeO (foghornlaw12_few.l0 k y0 y1 y2 y3 y4 y5 y6 y7 y8) (foghornlaw12_few.l0 (k + 1) y0 y1 y2 y3 y4 y5 y6 y7 y8)) ∧ (∀ y0 y1 y2 y3 y4 y5 y6 y7 y8 y9, LeO (foghornlaw12_few.l1 k y0 y1 y2 y3 y4 y5 y6 y7 y8 y9) (foghornlaw12_few.l1 (k + 1) y0 y1 y2 y3 y4 y5 y6 y7 y8 y9))
 | 0 => ⟨fun _ _ _ _ _ _ _ _ _ r h => by simp [foghornlaw12_few.l0] at h, fun _ _ _ _ _ _ _ _ _ _ r h => by simp [foghornlaw12_few.l1] at h⟩
 | k + 1 => by
  obtain ⟨ih0, ih1⟩ := foghornlaw12_few.mono_l k
  refine ⟨?_, ?_⟩
  ·intro y0 y1 y2 y3 y4 y5 y6 y7 y8
   unfold foghornlaw12_few.l0
   repeat' first
   | (with_reducible exact ih0 _ _ _ _ _ _ _ _ _)
   | (with_reducible exact ih1 _ _ _ _ _ _ _ _ _ _)
   | (with_reducible exact LeO.refl _)
   | (with_reducible exact LeO.none _)
   | (with_reducible refine LeO.ite ?_ ?_)
   | (with_reducible refine LeO.bind ?_ (fun _ => ?_))
   | exact ih0 _ _ _ _ _ _ _ _ _
   | exact ih1 _ _ _ _ _ _ _ _ _ _
   | exact LeO.none _
   | refine LeO.ite ?_ ?_
   | refine LeO.bind ?_ (fun _ => ?_)
  ·intro y0 y1 y2 y3 y4 y5 y6 y7 y8 y9
   unfold foghornlaw12_few.l1
   repeat' first
   | (with_reducible exact ih0 _ _ _ _ _ _ _ _ _)
   | (with_reducible exact ih1 _ _ _ _ _ _ _ _ _ _)
   | (with_reducible exact LeO.refl _)
   | (with_reducible exact LeO.none _)
   | (with_reducible refine LeO.ite ?_ ?_)
   | (with_reducible refine LeO.bind ?_ (fun _ => ?_))
   | exact ih0 _ _ _ _ _ _ _ _ _
   | exact ih1 _ _ _ _ _ _ _ _ _ _
   | exact LeO.none _
   | refine LeO.ite ?_ ?_
   | refine LeO.bind ?_ (fun _ => ?_)
theorem foghornlaw12_few.mono : ∀ a0 a1 a2 a3 a4 k, LeO (foghornlaw12_few.f k a0 a1 a2 a3 a4) (foghornlaw12_few.f (k + 1) a0 a1 a2 a3 a4) := by
 intro a0 a1 a2 a3 a4 k
 obtain ⟨ih0, ih1⟩ := foghornlaw12_few.mono_l k
 unfold foghornlaw12_few.f
 repeat' first
   | (with_reducible exact ih0 _ _ _ _ _ _ _ _ _)
   | (with_reducible exact ih1 _ _ _ _ _ _ _ _ _ _)
   | (with_reducible exact LeO.refl _)
   | (with_reducible exact LeO.none _)
   | (with_reducible refine LeO.ite ?_ ?_)
   | (with_reducible refine LeO.bind ?_ (fun _ => ?_))
   | exact ih0 _ _ _ _ _ _ _ _ _
   | exact ih1 _ _ _ _ _ _ _ _ _ _
   | exact LeO.none _
   | refine LeO.ite ?_ ?_
   | refine LeO.bind ?_ (fun _ => ?_)
def foghornlaw12_few.T5 : Bool × List (List Nat × List Nat) := (true, [([], []), ([], []), ([1], [1]), ([], []), ([3], [3]), ([4], [4]), ([5], [5]), ([2, 6], [2, 6]), ([], []), ([8], [8]), ([], []), ([10], [10]), ([11], [11]), ([12], [12]), ([9, 13], [9, 13]), ([7, 14], [7, 14]), ([15], [15]), ([0, 16], [0, 16]), ([17, 17, 0, 1, 2, 3, 4, 5, 6, 7, 8, 9, 10, 11, 12, 13, 14, 15, 16, 17], [0, 17])])
def foghornlaw12_few.B5 : List Nat := [0, 0, 2, 0, 8, 24, 56, 126, 0, 256, 0, 1024, 3072, 7168, 16128, 32766, 65534, 131071, 262143]
theorem foghornlaw12_few.tab5 : rtab .any (opsOf Tryz.f16 5) = foghornlaw12_few.T5 := by kernel_rfl
theorem foghornlaw12_few.bits5 : waitsOk foghornlaw12_few.T5.2 foghornlaw12_few.B5 = true := by kernel_rfl
end Go.Proofs.YtjfknmlchdifjaaGreatDoorQ.P
namespace Go.Proofs.YtjfknmlchdifjaaGreatDoorQ.P
open Go.RowKit Go.Proofs.YtjfknmlchdifjaaGreatDoorW.PrintWords Go.Proofs.YtjfknmlchdifjaaGreatDoorW.PrintLast Go.Proofs.YtjfknmlchdifjaaGreatDoorW.PrintMore
attribute [local go_sem] max2_int min2_int max_two min_two max_three min_three max_four min_four
def wire_Ask.f (a0_0 : Int) (a0_1 : ByteArray) (a0_2 : ByteArray) : Option (ByteArray × Int) := (label_Matcher.f a0_0 a0_1 a0_2).bind fun t402 => (if t402 = true then (if 0 ≤ a0_0 then (if a0_0 ≤ (wrap64 (a0_0 + 1)) then (if (wrap64 (a0_0 + 1)) ≤ 4 then (if a0_1.size + ((⟨#[61, 33, 94, 63]⟩ : ByteArray).extract (a0_0 : Int).toNat ((wrap64 (a0_0 + 1)) : Int).toNat).size ≤ 9223372036854775807 then (if (a0_1 ++ ((⟨#[61, 33, 94, 63]⟩ : ByteArray).extract (a0_0 : Int).toNat ((wrap64 (a0_0 + 1)) : Int).toNat)).size + a0_2.size ≤ 9223372036854775807 then (some ((a0_1 ++ ((⟨#[61, 33, 94, 63]⟩ : ByteArray).extract (a0_0 : Int).toNat ((wrap64 (a0_0 + 1)) : Int).toNat)) ++ a0_2, 0)) else (none)) else (none)) else (none)) else (none)) else (none)) else (some ((⟨#[]⟩ : ByteArray), 1)))
end Go.Proofs.YtjfknmlchdifjaaGreatDoorQ.P
namespace Go.Proofs.YtjfknmlchdifjaaGreatDoorQ.P
open Go.RowKit Go.Proofs.YtjfknmlchdifjaaGreatDoorW.PrintWords Go.Proofs.YtjfknmlchdifjaaGreatDoor
def wire_isHush.f (a0_0 : Int) (a0_1 : Int) (l0_2 : List (S32)) : Option (Bool) := if matsOkB l0_2 = true then some (hushB a0_0 a0_1 (l0_2.map toMat)) else none
end Go.Proofs.YtjfknmlchdifjaaGreatDoorQ.P
namespace Go.Proofs.YtjfknmlchdifjaaGreatDoorQ.P
open Go.RowKit Go.Proofs.YtjfknmlchdifjaaGreatDoorW.PrintWords Go.Proofs.YtjfknmlchdifjaaGreatDoorW.PrintLast Go.Proofs.YtjfknmlchdifjaaGreatDoorW.PrintMore
attribute [local go_sem] max2_int min2_int max_two min_two max_three min_three max_four min_four
def wire_Right.f (a0_0 : Int) (l0_1 : List (S52)) (a0_2 : Int) (a0_3 : Int) (l0_4 : List (S32)) : Option (Bool) := if a0_0 = 2 then (if (l0_1.length : Int) = 0 then ((wire_isHush.f a0_2 a0_3 l0_4).bind fun t404 => (some t404)) else (some false)) else (if a0_2 = 0 then (if a0_3 = 0 then (if a0_0 = 0 then ((label_Right.f l0_1).bind fun t405 => (if t405 = true then (some ((l0_4.length : Int) == 0)) else (some false))) else (if a0_0 = 1 then ((label_Right.f l0_1).bind fun t406 => (if t406 = true then (some ((l0_4.length : Int) == 0)) else (some false))) else (some false))) else (if a0_0 = 0 then ((label_Right.f l0_1).bind fun t407 => (if t407 = true then (some false) else (some false))) else (if a0_0 = 1 then ((label_Right.f l0_1).bind fun t408 => (if t408 = true then (some false) else (some false))) else (some false)))) else (if a0_0 = 0 then ((label_Right.f l0_1).bind fun t409 => (if t409 = true then (some false) else (some false))) else (if a0_0 = 1 then ((label_Right.f l0_1).bind fun t410 => (if t410 = true then (some false) else (some false))) else (some false))))
end Go.Proofs.YtjfknmlchdifjaaGreatDoorQ.P
namespace Go.Proofs.YtjfknmlchdifjaaGreatDoorQ.P
open Go.RowKit Go.Proofs.YtjfknmlchdifjaaGreatDoorW.PrintWords Go.Proofs.YtjfknmlchdifjaaGreatDoorW.PrintLast Go.Proofs.YtjfknmlchdifjaaGreatDoorW.PrintMore
attribute [local go_sem] max2_int min2_int max_two min_two max_three min_three max_four min_four
mutual
def wire_Print.j0 : Nat → List ByteArray → Int → List (S52) → Int → Int → List (S32) → Option (ByteArray × Int)
 | 0, _, _, _, _, _, _ => none
 | k + 1, x4, x412000, x412001, x412002, x412003, x412004 => wire_Print.l0 k x4 x412001 (x412001.length : Int) 0 x412000 x412001 x412002 x412003 x412004
def wire_Print.l0 : Nat → List ByteArray → List (S52) → Int → Int → Int → List (S52) → Int → Int → List (S32) → Option (ByteArray × Int)
 | 0, _, _, _, _, _, _, _, _, _ => none
 | k + 1, x4, x32, x33, x34, x412000, x412001, x412002, x412003, x412004 => if x34 < x33 then (if 0 ≤ x34 then (if x34 < (x32.length : Int) then (if ((rd_T52 x32 x34).f0).size + 1 ≤ 9223372036854775807 then (if (((rd_T52 x32 x34).f0) ++ (⟨#[61]⟩ : ByteArray)).size + ((rd_T52 x32 x34).f1).size ≤ 9223372036854775807 then (if x4.length < 8796093022208 then (wire_Print.l0 k (x4 ++ [(((rd_T52 x32 x34).f0) ++ (⟨#[61]⟩ : ByteArray)) ++ ((rd_T52 x32 x34).f1)]) x32 x33 (wrap64 (x34 + 1)) x412000 x412001 x412002 x412003 x412004) else (none)) else (none)) else (none)) else (none)) else (none)) else (wire_Print.l1 k x4 x412004 (x412004.length : Int) 0)
def wire_Print.l1 : Nat → List ByteArray → List (S32) → Int → Int → Option (ByteArray × Int)
 | 0, _, _, _, _ => none
 | k + 1, x4, x50, x51, x52 => if x52 < x51 then (if 0 ≤ x52 then (if x52 < (x50.length : Int) then ((wire_Ask.f ((rd_T32 x50 x52).f0) ((rd_T32 x50 x52).f1) ((rd_T32 x50 x52).f2)).bind fun bt431 => (if x4.length < 8796093022208 then (wire_Print.l1 k (x4 ++ [bt431.1]) x50 x51 (wrap64 (x52 + 1))) else (none))) else (none)) else (none)) else ((strings_Join.f x4 (⟨#[32]⟩ : ByteArray)).bind fun t436 => (some (t436, 0)))
end
def wire_Print.f (k : Nat) (a0_0 : Int) (l0_1 : List (S52)) (a0_2 : Int) (a0_3 : Int) (l0_4 : List (S32)) : Option (ByteArray × Int) := (wire_Right.f a0_0 l0_1 a0_2 a0_3 l0_4).bind fun t412 => (if t412 = true then (if a0_0 = 1 then (wire_Print.j0 k (([(⟨#[100, 111, 110, 101]⟩ : ByteArray)] : List ByteArray)) a0_0 l0_1 a0_2 a0_3 l0_4) else (if a0_0 = 2 then ((strconv_Itoa.f a0_2).bind fun t419 => ((strconv_Itoa.f a0_3).bind fun t420 => (wire_Print.j0 k (([(⟨#[104, 117, 115, 104]⟩ : ByteArray), t419, t420] : List ByteArray)) a0_0 l0_1 a0_2 a0_3 l0_4))) else (wire_Print.j0 k (([(⟨#[102, 105, 114, 101]⟩ : ByteArray)] : List ByteArray)) a0_0 l0_1 a0_2 a0_3 l0_4))) else (some ((⟨#[]⟩ : ByteArray), 1)))
theorem wire_Print.mono_l : ∀ k, (∀ y0 y1 y2 y3 y4 y5, LeO (wire_Print.j0 k y0 y1 y2 y3 y4 y5) (wire_Print.j0 (k + 1) y0 y1 y2 y3 y4 y5)) ∧ (∀ y0 y1 y2 y3 y4 y5 y6 y7 y8, LeO (wire_Print.l0 k y0 y1 y2 y3 y4 y5 y6 y7 y8) (wire_Print.l0 (k + 1) y0 y1 y2 y3 y4 y5 y6 y7 y8)) ∧ (∀ y0 y1 y2 y3, LeO (wire_Print.l1 k y0 y1 y2 y3) (wire_Print.l1 (k + 1) y0 y1 y2 y3))
 | 0 => ⟨fun _ _ _ _ _ _ r h => by simp [wire_Print.j0] at h, fun _ _ _ _ _ _ _ _ _ r h => by simp [wire_Print.l0] at h, fun _ _ _ _ r h => by simp [wire_Print.l1] at h⟩
 | k + 1 => by
  obtain ⟨ih0, ih1, ih2⟩ := wire_Print.mono_l k
  refine ⟨?_, ?_, ?_⟩
  ·intro y0 y1 y2 y3 y4 y5
   unfold wire_Print.j0
   repeat' first
   | (with_reducible exact ih0 _ _ _ _ _ _)
   | (with_reducible exact ih1 _ _ _ _ _ _ _ _ _)
   | (with_reducible exact ih2 _ _ _ _)
   | (with_reducible exact LeO.refl _)
   | (with_reducible exact LeO.none _)
   | (with_reducible refine LeO.ite ?_ ?_)
   | (with_reducible refine LeO.bind ?_ (fun _ => ?_))
   | exact ih0 _ _ _ _ _ _
   | exact ih1 _ _ _ _ _ _ _ _ _
   | exact ih2 _ _ _ _
   | exact LeO.none _
   | refine LeO.ite ?_ ?_
   | refine LeO.bind ?_ (fun _ => ?_)
  ·intro y0 y1 y2 y3 y4 y5 y6 y7 y8
   unfold wire_Print.l0
   repeat' first
   | (with_reducible exact ih0 _ _ _ _ _ _)
   | (with_reducible exact ih1 _ _ _ _ _ _ _ _ _)
   | (with_reducible exact ih2 _ _ _ _)
   | (with_reducible exact LeO.refl _)
   | (with_reducible exact LeO.none _)
   | (with_reducible refine LeO.ite ?_ ?_)
   | (with_reducible refine LeO.bind ?_ (fun _ => ?_))
   | exact ih0 _ _ _ _ _ _
   | exact ih1 _ _ _ _ _ _ _ _ _
   | exact ih2 _ _ _ _
   | exact LeO.none _
   | refine LeO.ite ?_ ?_
   | refine LeO.bind ?_ (fun _ => ?_)
  ·intro y0 y1 y2 y3
   unfold wire_Print.l1
   repeat' first
   | (with_reducible exact ih0 _ _ _ _ _ _)
   | (with_reducible exact ih1 _ _ _ _ _ _ _ _ _)
   | (with_reducible exact ih2 _ _ _ _)
   | (with_reducible exact LeO.refl _)
   | (with_reducible exact LeO.none _)
   | (with_reducible refine LeO.ite ?_ ?_)
   | (with_reducible refine LeO.bind ?_ (fun _ => ?_))
   | exact ih0 _ _ _ _ _ _
   | exact ih1 _ _ _ _ _ _ _ _ _
   | exact ih2 _ _ _ _
   | exact LeO.none _
   | refine LeO.ite ?_ ?_
   | refine LeO.bind ?_ (fun _ => ?_)
theorem wire_Print.mono : ∀ a0 a1 a2 a3 a4 k, LeO (wire_Print.f k a0 a1 a2 a3 a4) (wire_Print.f (k + 1) a0 a1 a2 a3 a4) := by
 intro a0 a1 a2 a3 a4 k
 obtain ⟨ih0, ih1, ih2⟩ := wire_Print.mono_l k
 unfold wire_Print.f
 repeat' first
   | (with_reducible exact ih0 _ _ _ _ _ _)
   | (with_reducible exact ih1 _ _ _ _ _ _ _ _ _)
   | (with_reducible exact ih2 _ _ _ _)
   | (with_reducible exact LeO.refl _)
   | (with_reducible exact LeO.none _)
   | (with_reducible refine LeO.ite ?_ ?_)
   | (with_reducible refine LeO.bind ?_ (fun _ => ?_))
   | exact ih0 _ _ _ _ _ _
   | exact ih1 _ _ _ _ _ _ _ _ _
   | exact ih2 _ _ _ _
   | exact LeO.none _
   | refine LeO.ite ?_ ?_
   | refine LeO.bind ?_ (fun _ => ?_)
def wire_Print.T8 : Bool × List (List Nat × List Nat) := (true, [([], []), ([0], [0]), ([1], [1]), ([2], [2]), ([], []), ([4], [4]), ([5], [5]), ([6, 3], [6]), ([3, 7], [3, 7]), ([8, 7, 0, 1, 2, 3, 4, 5, 6, 7, 8], [8])])
def wire_Print.B8 : List Nat := [0, 1, 3, 7, 0, 16, 48, 127, 255, 511]
theorem wire_Print.tab8 : rtab .any (opsOf Tryz.f18 8) = wire_Print.T8 := by kernel_rfl
theorem wire_Print.bits8 : waitsOk wire_Print.T8.2 wire_Print.B8 = true := by kernel_rfl
end Go.Proofs.YtjfknmlchdifjaaGreatDoorQ.P
namespace Go.Proofs.YtjfknmlchdifjaaGreatDoorQ.P
open Go.RowKit Go.Proofs.YtjfknmlchdifjaaGreatDoorW.PrintWords Go.Proofs.YtjfknmlchdifjaaGreatDoorW.PrintLast Go.Proofs.YtjfknmlchdifjaaGreatDoorW.PrintMore
attribute [local go_sem] max2_int min2_int max_two min_two max_three min_three max_four min_four
def foghornref05_Right.f (a0 : Int) : Option (Bool) := if a0 ≥ 0 then (some (decide (a0 ≤ 1099511627776))) else (some false)
end Go.Proofs.YtjfknmlchdifjaaGreatDoorQ.P
namespace Go.Proofs.YtjfknmlchdifjaaGreatDoorQ.P
open Go.RowKit Go.Proofs.YtjfknmlchdifjaaGreatDoorW.PrintWords Go.Proofs.YtjfknmlchdifjaaGreatDoorW.PrintLast Go.Proofs.YtjfknmlchdifjaaGreatDoorW.PrintMore
attribute [local go_sem] max2_int min2_int max_two min_two max_three min_three max_four min_four
def foghornref12_Hush.f (a0_0 : Int) (a0_1 : Int) (l0_2 : List (S32)) : Option (Bool) := (foghornref05_Right.f a0_0).bind fun t438 => (if t438 = true then ((foghornref05_Right.f a0_1).bind fun t439 => (if t439 = true then (if a0_0 < a0_1 then (if (l0_2.length : Int) ≥ 1 then ((foghornref10_Matchers.f l0_2).bind fun t440 => (some t440)) else (some false)) else (some false)) else (some false))) else (some false))
end Go.Proofs.YtjfknmlchdifjaaGreatDoorQ.P
namespace Go.Proofs.YtjfknmlchdifjaaGreatDoorQ.P
open Go.RowKit Go.Proofs.YtjfknmlchdifjaaGreatDoorW.PrintWords Go.Proofs.YtjfknmlchdifjaaGreatDoorW.PrintLast Go.Proofs.YtjfknmlchdifjaaGreatDoorW.PrintMore
attribute [local go_sem] max2_int min2_int max_two min_two max_three min_three max_four min_four
def foghornref12_Right.f (a0_0 : Int) (l0_1 : List (S52)) (a0_2 : Int) (a0_3 : Int) (l0_4 : List (S32)) : Option (Bool) := if a0_0 = 2 then (if (l0_1.length : Int) = 0 then ((foghornref12_Hush.f a0_2 a0_3 l0_4).bind fun t442 => (some t442)) else (some false)) else (if a0_0 = 0 then ((foghornref10_Right.f l0_1).bind fun t443 => (if t443 = true then (if a0_2 = 0 then (if a0_3 = 0 then (some ((l0_4.length : Int) == 0)) else (some false)) else (some false)) else (some false))) else (if a0_0 = 1 then ((foghornref10_Right.f l0_1).bind fun t444 => (if t444 = true then (if a0_2 = 0 then (if a0_3 = 0 then (some ((l0_4.length : Int) == 0)) else (some false)) else (some false)) else (some false))) else (some false)))
end Go.Proofs.YtjfknmlchdifjaaGreatDoorQ.P
namespace Go.Proofs.YtjfknmlchdifjaaGreatDoorQ.P
open Go.RowKit Go.Proofs.YtjfknmlchdifjaaGreatDoorW.PrintWords Go.Proofs.YtjfknmlchdifjaaGreatDoorW.PrintLast Go.Proofs.YtjfknmlchdifjaaGreatDoorW.PrintMore
attribute [local go_sem] max2_int min2_int max_two min_two max_three min_three max_four min_four
def foghornref12_Ask.f (a0_0 : Int) (a0_1 : ByteArray) (a0_2 : ByteArray) : Option (ByteArray) := (foghornref12_sign.f a0_0).bind fun t446 => (if a0_1.size + t446.size ≤ 9223372036854775807 then (if (a0_1 ++ t446).size + a0_2.size ≤ 9223372036854775807 then (some ((a0_1 ++ t446) ++ a0_2)) else (none)) else (none))
end Go.Proofs.YtjfknmlchdifjaaGreatDoorQ.P
namespace Go.Proofs.YtjfknmlchdifjaaGreatDoorQ.P
open Go.RowKit Go.Proofs.YtjfknmlchdifjaaGreatDoorW.PrintWords Go.Proofs.YtjfknmlchdifjaaGreatDoorW.PrintLast Go.Proofs.YtjfknmlchdifjaaGreatDoorW.PrintMore
attribute [local go_sem] max2_int min2_int max_two min_two max_three min_three max_four min_four
mutual
def foghornref12_Print.l0 : Nat → ByteArray → List (S32) → Int → Int → Option (ByteArray)
 | 0, _, _, _, _ => none
 | k + 1, x3, x25, x26, x27 => if x27 < x26 then (if 0 ≤ x27 then (if x27 < (x25.length : Int) then (if x3.size + 1 ≤ 9223372036854775807 then ((foghornref12_Ask.f ((rd_T32 x25 x27).f0) ((rd_T32 x25 x27).f1) ((rd_T32 x25 x27).f2)).bind fun t452 => (if (x3 ++ (⟨#[32]⟩ : ByteArray)).size + t452.size ≤ 9223372036854775807 then (foghornref12_Print.l0 k ((x3 ++ (⟨#[32]⟩ : ByteArray)) ++ t452) x25 x26 (wrap64 (x27 + 1))) else (none))) else (none)) else (none)) else (none)) else (some x3)
def foghornref12_Print.j1 : Nat → ByteArray → Int → List (S52) → Int → Int → List (S32) → Option (ByteArray)
 | 0, _, _, _, _, _, _ => none
 | k + 1, x6, x448000, x448001, x448002, x448003, x448004 => foghornref12_Print.l1 k x6 x448001 (x448001.length : Int) 0
def foghornref12_Print.l1 : Nat → ByteArray → List (S52) → Int → Int → Option (ByteArray)
 | 0, _, _, _, _ => none
 | k + 1, x6, x42, x43, x44 => if x44 < x43 then (if 0 ≤ x44 then (if x44 < (x42.length : Int) then (if x6.size + 1 ≤ 9223372036854775807 then (if (x6 ++ (⟨#[32]⟩ : ByteArray)).size + ((rd_T52 x42 x44).f0).size ≤ 9223372036854775807 then (if ((x6 ++ (⟨#[32]⟩ : ByteArray)) ++ ((rd_T52 x42 x44).f0)).size + 1 ≤ 9223372036854775807 then (if (((x6 ++ (⟨#[32]⟩ : ByteArray)) ++ ((rd_T52 x42 x44).f0)) ++ (⟨#[61]⟩ : ByteArray)).size + ((rd_T52 x42 x44).f1).size ≤ 9223372036854775807 then (foghornref12_Print.l1 k ((((x6 ++ (⟨#[32]⟩ : ByteArray)) ++ ((rd_T52 x42 x44).f0)) ++ (⟨#[61]⟩ : ByteArray)) ++ ((rd_T52 x42 x44).f1)) x42 x43 (wrap64 (x44 + 1))) else (none)) else (none)) else (none)) else (none)) else (none)) else (none)) else (some x6)
end
def foghornref12_Print.f (k : Nat) (a0_0 : Int) (l0_1 : List (S52)) (a0_2 : Int) (a0_3 : Int) (l0_4 : List (S32)) : Option (ByteArray) := if a0_0 = 2 then ((foghornref12_Digits.f k a0_2).bind fun t448 => (if 5 + t448.size ≤ 9223372036854775807 then (if ((⟨#[104, 117, 115, 104, 32]⟩ : ByteArray) ++ t448).size + 1 ≤ 9223372036854775807 then ((foghornref12_Digits.f k a0_3).bind fun t449 => (if (((⟨#[104, 117, 115, 104, 32]⟩ : ByteArray) ++ t448) ++ (⟨#[32]⟩ : ByteArray)).size + t449.size ≤ 9223372036854775807 then (foghornref12_Print.l0 k ((((⟨#[104, 117, 115, 104, 32]⟩ : ByteArray) ++ t448) ++ (⟨#[32]⟩ : ByteArray)) ++ t449) l0_4 (l0_4.length : Int) 0) else (none))) else (none)) else (none))) else (if a0_0 = 1 then (foghornref12_Print.j1 k (⟨#[100, 111, 110, 101]⟩ : ByteArray) a0_0 l0_1 a0_2 a0_3 l0_4) else (foghornref12_Print.j1 k (⟨#[102, 105, 114, 101]⟩ : ByteArray) a0_0 l0_1 a0_2 a0_3 l0_4))
theorem foghornref12_Print.mono_l : ∀ k, (∀ y0 y1 y2 y3, LeO (foghornref12_Print.l0 k y0 y1 y2 y3) (foghornref12_Print.l0 (k + 1) y0 y1 y2 y3)) ∧ (∀ y0 y1 y2 y3 y4 y5, LeO (foghornref12_Print.j1 k y0 y1 y2 y3 y4 y5) (foghornref12_Print.j1 (k + 1) y0 y1 y2 y3 y4 y5)) ∧ (∀ y0 y1 y2 y3, LeO (foghornref12_Print.l1 k y0 y1 y2 y3) (foghornref12_Print.l1 (k + 1) y0 y1 y2 y3))
 | 0 => ⟨fun _ _ _ _ r h => by simp [foghornref12_Print.l0] at h, fun _ _ _ _ _ _ r h => by simp [foghornref12_Print.j1] at h, fun _ _ _ _ r h => by simp [foghornref12_Print.l1] at h⟩
 | k + 1 => by
  obtain ⟨ih0, ih1, ih2⟩ := foghornref12_Print.mono_l k
  refine ⟨?_, ?_, ?_⟩
  ·intro y0 y1 y2 y3
   unfold foghornref12_Print.l0
   repeat' first
   | (with_reducible exact ih0 _ _ _ _)
   | (with_reducible exact ih1 _ _ _ _ _ _)
   | (with_reducible exact ih2 _ _ _ _)
   | (with_reducible exact foghornref12_Digits.mono _ _)
   | (with_reducible exact LeO.refl _)
   | (with_reducible exact LeO.none _)
   | (with_reducible refine LeO.ite ?_ ?_)
   | (with_reducible refine LeO.bind ?_ (fun _ => ?_))
   | exact ih0 _ _ _ _
   | exact ih1 _ _ _ _ _ _
   | exact ih2 _ _ _ _
   | exact foghornref12_Digits.mono _ _
   | exact LeO.none _
   | refine LeO.ite ?_ ?_
   | refine LeO.bind ?_ (fun _ => ?_)
  ·intro y0 y1 y2 y3 y4 y5
   unfold foghornref12_Print.j1
   repeat' first
   | (with_reducible exact ih0 _ _ _ _)
   | (with_reducible exact ih1 _ _ _ _ _ _)
   | (with_reducible exact ih2 _ _ _ _)
   | (with_reducible exact foghornref12_Digits.mono _ _)
   | (with_reducible exact LeO.refl _)
   | (with_reducible exact LeO.none _)
   | (with_reducible refine LeO.ite ?_ ?_)
   | (with_reducible refine LeO.bind ?_ (fun _ => ?_))
   | exact ih0 _ _ _ _
   | exact ih1 _ _ _ _ _ _
   | exact ih2 _ _ _ _
   | exact foghornref12_Digits.mono _ _
   | exact LeO.none _
   | refine LeO.ite ?_ ?_
   | refine LeO.bind ?_ (fun _ => ?_)
  ·intro y0 y1 y2 y3
   unfold foghornref12_Print.l1
   repeat' first
   | (with_reducible exact ih0 _ _ _ _)
   | (with_reducible exact ih1 _ _ _ _ _ _)
   | (with_reducible exact ih2 _ _ _ _)
   | (with_reducible exact foghornref12_Digits.mono _ _)
   | (with_reducible exact LeO.refl _)
   | (with_reducible exact LeO.none _)
   | (with_reducible refine LeO.ite ?_ ?_)
   | (with_reducible refine LeO.bind ?_ (fun _ => ?_))
   | exact ih0 _ _ _ _
   | exact ih1 _ _ _ _ _ _
   | exact ih2 _ _ _ _
   | exact foghornref12_Digits.mono _ _
   | exact LeO.none _
   | refine LeO.ite ?_ ?_
   | refine LeO.bind ?_ (fun _ => ?_)
theorem foghornref12_Print.mono : ∀ a0 a1 a2 a3 a4 k, LeO (foghornref12_Print.f k a0 a1 a2 a3 a4) (foghornref12_Print.f (k + 1) a0 a1 a2 a3 a4) := by
 intro a0 a1 a2 a3 a4 k
 obtain ⟨ih0, ih1, ih2⟩ := foghornref12_Print.mono_l k
 unfold foghornref12_Print.f
 repeat' first
   | (with_reducible exact ih0 _ _ _ _)
   | (with_reducible exact ih1 _ _ _ _ _ _)
   | (with_reducible exact ih2 _ _ _ _)
   | (with_reducible exact foghornref12_Digits.mono _ _)
   | (with_reducible exact LeO.refl _)
   | (with_reducible exact LeO.none _)
   | (with_reducible refine LeO.ite ?_ ?_)
   | (with_reducible refine LeO.bind ?_ (fun _ => ?_))
   | exact ih0 _ _ _ _
   | exact ih1 _ _ _ _ _ _
   | exact ih2 _ _ _ _
   | exact foghornref12_Digits.mono _ _
   | exact LeO.none _
   | refine LeO.ite ?_ ?_
   | refine LeO.bind ?_ (fun _ => ?_)
end Go.Proofs.YtjfknmlchdifjaaGreatDoorQ.P
namespace Go.Proofs.YtjfknmlchdifjaaGreatDoorQ.P
open Go.RowKit Go.Proofs.YtjfknmlchdifjaaGreatDoorW.PrintWords Go.Proofs.YtjfknmlchdifjaaGreatDoorW.PrintLast Go.Proofs.YtjfknmlchdifjaaGreatDoorW.PrintMore
attribute [local go_sem] max2_int min2_int max_two min_two max_three min_three max_four min_four
mutual
def foghornlaw12_WirePrints.j0 : Nat → ByteArray → Int → ByteArray → Int → Bool → Int → List (S52) → Int → Int → List (S32) → Int → ByteArray → ByteArray → Option (Bool)
 | 0, _, _, _, _, _, _, _, _, _, _, _, _, _ => none
 | k + 1, x5, x6, x7, x8, x31, x456000, x456001, x456002, x456003, x456004, x457000, x457001, x457002 => if x31 = true then (some false) else ((foghornref10_Matcher.f x457000 x457001 x457002).bind fun t476 => (if t476 = true then (if x8 = 0 then ((foghornref12_Ask.f x457000 x457001 x457002).bind fun t477 => (if x7.toList = t477.toList then (foghornlaw12_WirePrints.j1 k x5 x6 x456000 x456001 x456002 x456003 x456004) else (some false))) else (some false)) else (if x8 = 1 then (if x7.toList = ([] : List UInt8) then (foghornlaw12_WirePrints.j1 k x5 x6 x456000 x456001 x456002 x456003 x456004) else (some false)) else (some false))))
def foghornlaw12_WirePrints.j1 : Nat → ByteArray → Int → Int → List (S52) → Int → Int → List (S32) → Option (Bool)
 | 0, _, _, _, _, _, _, _ => none
 | k + 1, x5, x6, x456000, x456001, x456002, x456003, x456004 => (foghornref12_Right.f x456000 x456001 x456002 x456003 x456004).bind fun t478 => (if t478 = true then (if x6 = 0 then ((foghornref12_Print.f k x456000 x456001 x456002 x456003 x456004).bind fun t479 => (some (x5.toList == t479.toList))) else (some false)) else (if x6 = 1 then (some (x5.toList == ([] : List UInt8))) else (some false)))
end
theorem foghornlaw12_WirePrints.mono_l : ∀ k, (∀ y0 y1 y2 y3 y4 y5 y6 y7 y8 y9 y10 y11 y12, LeO (foghornlaw12_WirePrints.j0 k y0 y1 y2 y3 y4 y5 y6 y7 y8 y9 y10 y11 y12) (foghornlaw12_WirePrints.j0 (k + 1) y0 y1 y2 y3 y4 y5 y6 y7 y8 y9 y10 y11 y12)) ∧ (∀ y0 y1 y2 y3 y4 y5 y6, LeO (foghornlaw12_WirePrints.j1 k y0 y1 y2 y3 y4 y5 y6) (foghornlaw12_WirePrints.j1 (k + 1) y0 y1 y2 y3 y4 y5 y6))
 | 0 => ⟨fun _ _ _ _ _ _ _ _ _ _ _ _ _ r h => by simp [foghornlaw12_WirePrints.j0] at h, fun _ _ _ _ _ _ _ r h => by simp [foghornlaw12_WirePrints.j1] at h⟩
 | k + 1 => by
  obtain ⟨ih0, ih1⟩ := foghornlaw12_WirePrints.mono_l k
  refine ⟨?_, ?_⟩
  ·intro y0 y1 y2 y3 y4 y5 y6 y7 y8 y9 y10 y11 y12
   unfold foghornlaw12_WirePrints.j0
   repeat' first
   | (with_reducible exact ih0 _ _ _ _ _ _ _ _ _ _ _ _ _)
   | (with_reducible exact ih1 _ _ _ _ _ _ _)
   | (with_reducible exact foghornlaw12_alive.mono _)
   | (with_reducible exact foghornlaw12_few.mono _ _ _ _ _ _)
   | (with_reducible exact foghornref12_Print.mono _ _ _ _ _ _)
   | (with_reducible exact wire_Print.mono _ _ _ _ _ _)
   | (with_reducible exact LeO.refl _)
   | (with_reducible exact LeO.none _)
   | (with_reducible refine LeO.ite ?_ ?_)
   | (with_reducible refine LeO.bind ?_ (fun _ => ?_))
   | exact ih0 _ _ _ _ _ _ _ _ _ _ _ _ _
   | exact ih1 _ _ _ _ _ _ _
   | exact foghornlaw12_alive.mono _
   | exact foghornlaw12_few.mono _ _ _ _ _ _
   | exact foghornref12_Print.mono _ _ _ _ _ _
   | exact wire_Print.mono _ _ _ _ _ _
   | exact LeO.none _
   | refine LeO.ite ?_ ?_
   | refine LeO.bind ?_ (fun _ => ?_)
  ·intro y0 y1 y2 y3 y4 y5 y6
   unfold foghornlaw12_WirePrints.j1
   repeat' first
   | (with_reducible exact ih0 _ _ _ _ _ _ _ _ _ _ _ _ _)
   | (with_reducible exact ih1 _ _ _ _ _ _ _)
   | (with_reducible exact foghornlaw12_alive.mono _)
   | (with_reducible exact foghornlaw12_few.mono _ _ _ _ _ _)
   | (with_reducible exact foghornref12_Print.mono _ _ _ _ _ _)
   | (with_reducible exact wire_Print.mono _ _ _ _ _ _)
   | (with_reducible exact LeO.refl _)
   | (with_reducible exact LeO.none _)
   | (with_reducible refine LeO.ite ?_ ?_)
   | (with_reducible refine LeO.bind ?_ (fun _ => ?_))
   | exact ih0 _ _ _ _ _ _ _ _ _ _ _ _ _
   | exact ih1 _ _ _ _ _ _ _
   | exact foghornlaw12_alive.mono _
   | exact foghornlaw12_few.mono _ _ _ _ _ _
   | exact foghornref12_Print.mono _ _ _ _ _ _
   | exact wire_Print.mono _ _ _ _ _ _
   | exact LeO.none _
   | refine LeO.ite ?_ ?_
   | refine LeO.bind ?_ (fun _ => ?_)
def foghornlaw12_WirePrints.T4 : Bool × List (List Nat × List Nat) := (true, [([], []), ([0], [0]), ([], []), ([2, 1], [2]), ([1, 3], [1, 3]), ([4, 3], [4]), ([5, 5], [5]), ([6, 5], [5, 6]), ([5, 7], [5, 7])])
def foghornlaw12_WirePrints.B4 : List Nat := [0, 1, 0, 7, 15, 31, 63, 127, 255]
theorem foghornlaw12_WirePrints.tab4 : rtab .any (opsOf Tryz.f4 4) = foghornlaw12_WirePrints.T4 := by kernel_rfl
theorem foghornlaw12_WirePrints.bits4 : waitsOk foghornlaw12_WirePrints.T4.2 foghornlaw12_WirePrints.B4 = true := by kernel_rfl
end Go.Proofs.YtjfknmlchdifjaaGreatDoorQ.P
namespace Go.Proofs.YtjfknmlchdifjaaGreatDoorQ.P
open Go.RowKit Go.Proofs.YtjfknmlchdifjaaGreatDoorW.PrintWords Go.Proofs.YtjfknmlchdifjaaGreatDoorW.PrintLast Go.Proofs.YtjfknmlchdifjaaGreatDoorW.PrintMore
attribute [local go_sem] max2_int min2_int max_two min_two max_three min_three max_four min_four
def foghornlaw12_WireBack.j0 : Nat → ByteArray → Option (Bool)
 | 0, _ => none
 | k + 1, x1 => (wire_Parse.f k x1).bind fun bt504 => (if bt504.2.2.2.2.2 = 0 then ((wire_Print.f k bt504.1 bt504.2.1 bt504.2.2.1 bt504.2.2.2.1 bt504.2.2.2.2.1).bind fun bt517 => ((wire_Parse.f k bt517.1).bind fun bt519 => ((foghornlaw12_alive.f k).bind fun t530 => (if t530 = true then ((wire_Right.f bt504.1 bt504.2.1 bt504.2.2.1 bt504.2.2.2.1 bt504.2.2.2.2.1).bind fun t531 => (if t531 = true then (if bt517.2 = 0 then (if bt519.2.2.2.2.2 = 0 then ((foghornref12_Same.f k bt504.1 bt504.2.1 bt504.2.2.1 bt504.2.2.2.1 bt504.2.2.2.2.1 bt519.1 bt519.2.1 bt519.2.2.1 bt519.2.2.2.1 bt519.2.2.2.2.1).bind fun t532 => (some t532)) else (some false)) else (some false)) else (some false))) else (some false))))) else ((foghornlaw12_alive.f k).bind fun t515 => (if t515 = true then ((foghornref12_Same.f k bt504.1 bt504.2.1 bt504.2.2.1 bt504.2.2.2.1 bt504.2.2.2.2.1 0 ([] : List (S52)) 0 0 ([] : List (S32))).bind fun t516 => (some t516)) else (some false))))
theorem foghornlaw12_WireBack.mono_l : ∀ k, (∀ y0, LeO (foghornlaw12_WireBack.j0 k y0) (foghornlaw12_WireBack.j0 (k + 1) y0))
 | 0 => fun _ r h => by simp [foghornlaw12_WireBack.j0] at h
 | k + 1 => by
  have ih0 := foghornlaw12_WireBack.mono_l k
  ·intro y0
   unfold foghornlaw12_WireBack.j0
   repeat' first
   | (with_reducible exact ih0 _)
   | (with_reducible exact foghornlaw12_alive.mono _)
   | (with_reducible exact foghornlaw12_few.mono _ _ _ _ _ _)
   | (with_reducible exact foghornref12_Same.mono _ _ _ _ _ _ _ _ _ _ _)
   | (with_reducible exact wire_Parse.mono _ _)
   | (with_reducible exact wire_Print.mono _ _ _ _ _ _)
   | (with_reducible exact LeO.refl _)
   | (with_reducible exact LeO.none _)
   | (with_reducible refine LeO.ite ?_ ?_)
   | (with_reducible refine LeO.bind ?_ (fun _ => ?_))
   | exact ih0 _
   | exact foghornlaw12_alive.mono _
   | exact foghornlaw12_few.mono _ _ _ _ _ _
   | exact foghornref12_Same.mono _ _ _ _ _ _ _ _ _ _ _
   | exact wire_Parse.mono _ _
   | exact wire_Print.mono _ _ _ _ _ _
   | exact LeO.none _
   | refine LeO.ite ?_ ?_
   | refine LeO.bind ?_ (fun _ => ?_)
end Go.Proofs.YtjfknmlchdifjaaGreatDoorQ.P
namespace Go.Proofs.YtjfknmlchdifjaaGreatDoorQ.P
open Go.RowKit Go.Proofs.YtjfknmlchdifjaaGreatDoorW.PrintWords Go.Proofs.YtjfknmlchdifjaaGreatDoorW.PrintLast Go.Proofs.YtjfknmlchdifjaaGreatDoorW.PrintMore
attribute [local go_sem] max2_int min2_int max_two min_two max_three min_three max_four min_four
mutual
def foghornlaw12_WireOrder.j0 : Nat → Int → ByteArray → Bool → Int → List (S52) → Int → Int → List (S32) → Option (Bool)
 | 0, _, _, _, _, _, _, _, _ => none
 | k + 1, x1, x5, x28, x534000, x534001, x534002, x534003, x534004 => if x28 = true then ((foghornlaw12_alive.f k).bind fun t545 => (some t545)) else (if x534000 = 1 then (foghornlaw12_WireOrder.j1 k x1 x5 (⟨#[100, 111, 110, 101]⟩ : ByteArray) x534000 x534001 x534002 x534003 x534004) else (foghornlaw12_WireOrder.j1 k x1 x5 (⟨#[102, 105, 114, 101]⟩ : ByteArray) x534000 x534001 x534002 x534003 x534004))
def foghornlaw12_WireOrder.j1 : Nat → Int → ByteArray → ByteArray → Int → List (S52) → Int → Int → List (S32) → Option (Bool)
 | 0, _, _, _, _, _, _, _, _ => none
 | k + 1, x1, x5, x7, x534000, x534001, x534002, x534003, x534004 => foghornlaw12_WireOrder.l0 k x1 x5 x7 (x534001.length : Int) (x534001.length : Int) 0 x534000 x534001 x534002 x534003 x534004
def foghornlaw12_WireOrder.l0 : Nat → Int → ByteArray → ByteArray → Int → Int → Int → Int → List (S52) → Int → Int → List (S32) → Option (Bool)
 | 0, _, _, _, _, _, _, _, _, _, _, _ => none
 | k + 1, x1, x5, x7, x8, x36, x37, x534000, x534001, x534002, x534003, x534004 => if x37 < x36 then (if x8 = 0 then (none) else (if 0 ≤ (wrap64 ((wrap64 (x8 - 1)) - (Int.tmod (wrap64 (x37 + (Int.tmod (wrap64 ((Int.tmod x1 3) + 3)) 3))) x8))) then (if (wrap64 ((wrap64 (x8 - 1)) - (Int.tmod (wrap64 (x37 + (Int.tmod (wrap64 ((Int.tmod x1 3) + 3)) 3))) x8))) < (x534001.length : Int) then (if 1 + ((rd_T52 x534001 (wrap64 ((wrap64 (x8 - 1)) - (Int.tmod (wrap64 (x37 + (Int.tmod (wrap64 ((Int.tmod x1 3) + 3)) 3))) x8)))).f0).size ≤ 9223372036854775807 then (if ((⟨#[32]⟩ : ByteArray) ++ ((rd_T52 x534001 (wrap64 ((wrap64 (x8 - 1)) - (Int.tmod (wrap64 (x37 + (Int.tmod (wrap64 ((Int.tmod x1 3) + 3)) 3))) x8)))).f0)).size + 1 ≤ 9223372036854775807 then (if (((⟨#[32]⟩ : ByteArray) ++ ((rd_T52 x534001 (wrap64 ((wrap64 (x8 - 1)) - (Int.tmod (wrap64 (x37 + (Int.tmod (wrap64 ((Int.tmod x1 3) + 3)) 3))) x8)))).f0)) ++ (⟨#[61]⟩ : ByteArray)).size + ((rd_T52 x534001 (wrap64 ((wrap64 (x8 - 1)) - (Int.tmod (wrap64 (x37 + (Int.tmod (wrap64 ((Int.tmod x1 3) + 3)) 3))) x8)))).f1).size ≤ 9223372036854775807 then (if x7.size + ((((⟨#[32]⟩ : ByteArray) ++ ((rd_T52 x534001 (wrap64 ((wrap64 (x8 - 1)) - (Int.tmod (wrap64 (x37 + (Int.tmod (wrap64 ((Int.tmod x1 3) + 3)) 3))) x8)))).f0)) ++ (⟨#[61]⟩ : ByteArray)) ++ ((rd_T52 x534001 (wrap64 ((wrap64 (x8 - 1)) - (Int.tmod (wrap64 (x37 + (Int.tmod (wrap64 ((Int.tmod x1 3) + 3)) 3))) x8)))).f1)).size ≤ 9223372036854775807 then (foghornlaw12_WireOrder.l0 k x1 x5 (x7 ++ ((((⟨#[32]⟩ : ByteArray) ++ ((rd_T52 x534001 (wrap64 ((wrap64 (x8 - 1)) - (Int.tmod (wrap64 (x37 + (Int.tmod (wrap64 ((Int.tmod x1 3) + 3)) 3))) x8)))).f0)) ++ (⟨#[61]⟩ : ByteArray)) ++ ((rd_T52 x534001 (wrap64 ((wrap64 (x8 - 1)) - (Int.tmod (wrap64 (x37 + (Int.tmod (wrap64 ((Int.tmod x1 3) + 3)) 3))) x8)))).f1))) x8 x36 (wrap64 (x37 + 1)) x534000 x534001 x534002 x534003 x534004) else (none)) else (none)) else (none)) else (none)) else (none)) else (none))) else ((wire_Parse.f k x7).bind fun bt548 => ((wire_Parse.f k x5).bind fun bt559 => ((foghornlaw12_alive.f k).bind fun t570 => (if t570 = true then (if bt548.2.2.2.2.2 = 0 then (if bt559.2.2.2.2.2 = 0 then ((foghornref12_Same.f k bt548.1 bt548.2.1 bt548.2.2.1 bt548.2.2.2.1 bt548.2.2.2.2.1 bt559.1 bt559.2.1 bt559.2.2.1 bt559.2.2.2.1 bt559.2.2.2.2.1).bind fun t571 => (if t571 = true then ((foghornref12_Same.f k bt548.1 bt548.2.1 bt548.2.2.1 bt548.2.2.2.1 bt548.2.2.2.2.1 x534000 x534001 x534002 x534003 x534004).bind fun t572 => (some t572)) else (some false))) else (some false)) else (some false)) else (some false)))))
end
theorem foghornlaw12_WireOrder.mono_l : ∀ k, (∀ y0 y1 y2 y3 y4 y5 y6 y7, LeO (foghornlaw12_WireOrder.j0 k y0 y1 y2 y3 y4 y5 y6 y7) (foghornlaw12_WireOrder.j0 (k + 1) y0 y1 y2 y3 y4 y5 y6 y7)) ∧ (∀ y0 y1 y2 y3 y4 y5 y6 y7, LeO (foghornlaw12_WireOrder.j1 k y0 y1 y2 y3 y4 y5 y6 y7) (foghornlaw12_WireOrder.j1 (k + 1) y0 y1 y2 y3 y4 y5 y6 y7)) ∧ (∀ y0 y1 y2 y3 y4 y5 y6 y7 y8 y9 y10, LeO (foghornlaw12_WireOrder.l0 k y0 y1 y2 y3 y4 y5 y6 y7 y8 y9 y10) (foghornlaw12_WireOrder.l0 (k + 1) y0 y1 y2 y3 y4 y5 y6 y7 y8 y9 y10))
 | 0 => ⟨fun _ _ _ _ _ _ _ _ r h => by simp [foghornlaw12_WireOrder.j0] at h, fun _ _ _ _ _ _ _ _ r h => by simp [foghornlaw12_WireOrder.j1] at h, fun _ _ _ _ _ _ _ _ _ _ _ r h => by simp [foghornlaw12_WireOrder.l0] at h⟩
 | k + 1 => by
  obtain ⟨ih0, ih1, ih2⟩ := foghornlaw12_WireOrder.mono_l k
  refine ⟨?_, ?_, ?_⟩
  ·intro y0 y1 y2 y3 y4 y5 y6 y7
   unfold foghornlaw12_WireOrder.j0
   repeat' first
   | (with_reducible exact ih0 _ _ _ _ _ _ _ _)
   | (with_reducible exact ih1 _ _ _ _ _ _ _ _)
   | (with_reducible exact ih2 _ _ _ _ _ _ _ _ _ _ _)
   | (with_reducible exact foghornlaw12_alive.mono _)
   | (with_reducible exact foghornlaw12_few.mono _ _ _ _ _ _)
   | (with_reducible exact foghornref12_Same.mono _ _ _ _ _ _ _ _ _ _ _)
   | (with_reducible exact wire_Parse.mono _ _)
   | (with_reducible exact wire_Print.mono _ _ _ _ _ _)
   | (with_reducible exact LeO.refl _)
   | (with_reducible exact LeO.none _)
   | (with_reducible refine LeO.ite ?_ ?_)
   | (with_reducible refine LeO.bind ?_ (fun _ => ?_))
   | exact ih0 _ _ _ _ _ _ _ _
   | exact ih1 _ _ _ _ _ _ _ _
   | exact ih2 _ _ _ _ _ _ _ _ _ _ _
   | exact foghornlaw12_alive.mono _
   | exact foghornlaw12_few.mono _ _ _ _ _ _
   | exact foghornref12_Same.mono _ _ _ _ _ _ _ _ _ _ _
   | exact wire_Parse.mono _ _
   | exact wire_Print.mono _ _ _ _ _ _
   | exact LeO.none _
   | refine LeO.ite ?_ ?_
   | refine LeO.bind ?_ (fun _ => ?_)
  ·intro y0 y1 y2 y3 y4 y5 y6 y7
   unfold foghornlaw12_WireOrder.j1
   repeat' first
   | (with_reducible exact ih0 _ _ _ _ _ _ _ _)
   | (with_reducible exact ih1 _ _ _ _ _ _ _ _)
   | (with_reducible exact ih2 _ _ _ _ _ _ _ _ _ _ _)
   | (with_reducible exact foghornlaw12_alive.mono _)
   | (with_reducible exact foghornlaw12_few.mono _ _ _ _ _ _)
   | (with_reducible exact foghornref12_Same.mono _ _ _ _ _ _ _ _ _ _ _)
   | (with_reducible exact wire_Parse.mono _ _)
   | (with_reducible exact wire_Print.mono _ _ _ _ _ _)
   | (with_reducible exact LeO.refl _)
   | (with_reducible exact LeO.none _)
   | (with_reducible refine LeO.ite ?_ ?_)
   | (with_reducible refine LeO.bind ?_ (fun _ => ?_))
   | exact ih0 _ _ _ _ _ _ _ _
   | exact ih1 _ _ _ _ _ _ _ _
   | exact ih2 _ _ _ _ _ _ _ _ _ _ _
   | exact foghornlaw12_alive.mono _
   | exact foghornlaw12_few.mono _ _ _ _ _ _
   | exact foghornref12_Same.mono _ _ _ _ _ _ _ _ _ _ _
   | exact wire_Parse.mono _ _
   | exact wire_Print.mono _ _ _ _ _ _
   | exact LeO.none _
   | refine LeO.ite ?_ ?_
   | refine LeO.bind ?_ (fun _ => ?_)
  ·intro y0 y1 y2 y3 y4 y5 y6 y7 y8 y9 y10
   unfold foghornlaw12_WireOrder.l0
   repeat' first
   | (with_reducible exact ih0 _ _ _ _ _ _ _ _)
   | (with_reducible exact ih1 _ _ _ _ _ _ _ _)
   | (with_reducible exact ih2 _ _ _ _ _ _ _ _ _ _ _)
   | (with_reducible exact foghornlaw12_alive.mono _)
   | (with_reducible exact foghornlaw12_few.mono _ _ _ _ _ _)
   | (with_reducible exact foghornref12_Same.mono _ _ _ _ _ _ _ _ _ _ _)
   | (with_reducible exact wire_Parse.mono _ _)
   | (with_reducible exact wire_Print.mono _ _ _ _ _ _)
   | (with_reducible exact LeO.refl _)
   | (with_reducible exact LeO.none _)
   | (with_reducible refine LeO.ite ?_ ?_)
   | (with_reducible refine LeO.bind ?_ (fun _ => ?_))
   | exact ih0 _ _ _ _ _ _ _ _
   | exact ih1 _ _ _ _ _ _ _ _
   | exact ih2 _ _ _ _ _ _ _ _ _ _ _
   | exact foghornlaw12_alive.mono _
   | exact foghornlaw12_few.mono _ _ _ _ _ _
   | exact foghornref12_Same.mono _ _ _ _ _ _ _ _ _ _ _
   | exact wire_Parse.mono _ _
   | exact wire_Print.mono _ _ _ _ _ _
   | exact LeO.none _
   | refine LeO.ite ?_ ?_
   | refine LeO.bind ?_ (fun _ => ?_)
end Go.Proofs.YtjfknmlchdifjaaGreatDoorQ.P
namespace Go.Proofs.YtjfknmlchdifjaaGreatDoorQ.P
open Go.RowKit Go.Proofs.YtjfknmlchdifjaaGreatDoorW.PrintWords Go.Proofs.YtjfknmlchdifjaaGreatDoorW.PrintLast Go.Proofs.YtjfknmlchdifjaaGreatDoorW.PrintMore Go.Proofs.YtjfknmlchdifjaaGreatDoor
def msgSz (m : Msg) : Prop := (∀ x ∈ m.labs, x.name.size ≤ 1000 ∧ x.value.size ≤ 1000) ∧ (∀ x ∈ m.asked, x.name.size ≤ 1000 ∧ x.value.size ≤ 1000) ∧ m.labs.length ≤ 100 ∧ m.asked.length ≤ 100
theorem okB_parts {m : Msg} (h : m.okB = true) : (∀ x ∈ m.labs, labB x = true) ∧ (∀ x ∈ m.asked, matB x = true) ∧ m.labs.length ≤ 3 ∧ m.asked.length ≤ 4 := by
  unfold Msg.okB at h
  split at h
  · simp only [Bool.and_eq_true, decide_eq_true_eq] at h
    obtain ⟨_, _, _, _, h4, hm⟩ := hushB_parts h.2
    rw [h.1]
    exact ⟨by simp, hm, by simp, h4⟩
  · simp only [Bool.and_eq_true, decide_eq_true_eq] at h
    obtain ⟨_, h3, hl⟩ := eachB_all (labsB_each h.1.2)
    rw [h.2.2]
    exact ⟨hl, by simp, h3, by simp⟩
theorem askedSame_l (xs : List S32) (hn : xs.length ≤ 100000) (d : Nat) : ∀ (k i : Nat), i + d = xs.length → d < k → foghornref10_Asked.l0 k xs xs (xs.length : Int) (i : Int) = some true := by
  induction d with
  | zero =>
    intro k i hi hk
    obtain ⟨k, rfl⟩ : ∃ q, k = q + 1 := ⟨k - 1, by omega⟩
    rw [foghornref10_Asked.l0, if_neg (by omega)]
  | succ d ih =>
    intro k i hi hk
    obtain ⟨k, rfl⟩ : ∃ q, k = q + 1 := ⟨k - 1, by omega⟩
    rw [foghornref10_Asked.l0, if_pos (by omega), if_pos (by omega), if_pos (by omega), if_pos (by omega), if_neg (by simp), w64s (by omega)]
    exact ih k (i + 1) (by omega) (by omega)
theorem same_self (a : Int) (l : List S52) (b c : Int) (xs : List S32) (hn : xs.length ≤ 100000) {k : Nat} (hk : xs.length < k) : foghornref12_Same.f k a l b c xs a l b c xs = some true := by
  unfold foghornref12_Same.f foghornref12_Hushes.f foghornref10_Asked.f foghornref10_Same.f
  rw [if_pos rfl, Option.bind_some, if_pos (by simp), if_pos rfl, if_pos rfl, if_pos rfl, n0, askedSame_l xs hn xs.length k 0 (by omega) hk]
  rfl
end Go.Proofs.YtjfknmlchdifjaaGreatDoorQ.P
namespace Go.Proofs.YtjfknmlchdifjaaGreatDoorQ.P
open Go.RowKit Go.Proofs.YtjfknmlchdifjaaGreatDoorW.PrintWords Go.Proofs.YtjfknmlchdifjaaGreatDoorW.PrintLast Go.Proofs.YtjfknmlchdifjaaGreatDoorW.PrintMore Go.Proofs.YtjfknmlchdifjaaGreatDoor
theorem ok_sz {m : Msg} (h : m.okB = true) : msgSz m := by
  obtain ⟨h1, h2, h3, h4⟩ := okB_parts h
  refine ⟨fun x hx => ?_, fun x hx => ?_, by omega, by omega⟩
  · have := labB_sz (h1 x hx)
    omega
  · obtain ⟨_, _, a, b⟩ := matB_parts (h2 x hx)
    have := (nameB_all a).2.2
    have := (valB_all b).2
    omega
theorem same_msg {m : Msg} (h : msgSz m) {k : Nat} (hk : 200 < k) : foghornref12_Same.f k m.kind (m.labs.map ofLab) m.fr m.til (m.asked.map ofMat) m.kind (m.labs.map ofLab) m.fr m.til (m.asked.map ofMat) = some true :=
  same_self _ _ _ _ _ (by have := h.2.2.2; rw [List.length_map]; omega) (by have := h.2.2.2; rw [List.length_map]; omega)
theorem empty_beq : ((⟨#[]⟩ : ByteArray).toList == ([] : List UInt8)) = true := by rw [toList_data]; rfl
theorem wireParses_pure (a0 a1 : ByteArray) : foghornlaw12_WireParses.f 8002 a0 a1 = some true := by
  have e1 := mn_eq (a0.size : Int) 220
  have e2 := mn_eq (a1.size : Int) 30
  have z1 := cutB_size 220 a0
  have z2 := cutB_size 30 a1
  unfold foghornlaw12_WireParses.f
  rw [if_pos (by omega), if_pos (by omega), if_pos (by omega), if_pos (by omega), cutB_mn 220 220 _ rfl, cutB_mn 30 30 _ rfl]
  generalize cutB 220 a0 = s at z1 ⊢
  generalize cutB 30 a1 = w at z2 ⊢
  rw [parse_f (by omega) (by omega), rparse_f (by omega) (by omega), asked_f (by omega), ask_f (by omega) (by omega)]
  simp only [Option.bind_some]
  rw [if_pos trivial]
  have hs : foghornref12_Same.f 8002 (msgR (parseP s.data.toList)).1 (msgR (parseP s.data.toList)).2.1 (msgR (parseP s.data.toList)).2.2.1 (msgR (parseP s.data.toList)).2.2.2.1 (msgR (parseP s.data.toList)).2.2.2.2.1 (msgR (parseP s.data.toList)).1 (msgR (parseP s.data.toList)).2.1 (msgR (parseP s.data.toList)).2.2.1 (msgR (parseP s.data.toList)).2.2.2.1 (msgR (parseP s.data.toList)).2.2.2.2.1 = some true := by
    rcases parse_cases s.data.toList with ⟨m, hm, ho⟩ | ⟨e, _, hm⟩
    · rw [hm]
      exact same_msg (ok_sz ho) (by omega)
    · rw [hm]
      exact same_self _ _ _ _ _ (by simp [msgR, Msg.zero]) (by simp [msgR, Msg.zero])
  rw [hs, Option.bind_some, if_pos rfl, alive12_f (by omega), Option.bind_some, foghornlaw12_WireParses.j0, if_neg (by simp)]
  cases hc : cutP signB w.data.toList with
  | none =>
    rw [askP_none hc]
    show (if false = true then _ else (if (13 : Int) = 13 then some ((0 : Int) == 0 && ((⟨#[]⟩ : ByteArray).toList == ([] : List UInt8) && (⟨#[]⟩ : ByteArray).toList == ([] : List UInt8))) else _)) = _
    rw [if_neg (by simp), if_pos rfl, empty_beq]
    rfl
  | some r =>
    by_cases hm : matB (askM r) = true
    · rw [askP_some hc hm]
      show (if matB (askM r) = true then (if (0 : Int) = 0 then some (kindOf r.2.1 == kindOf r.2.1 && ((tx r.1).toList == (tx r.1).toList && (tx r.2.2).toList == (tx r.2.2).toList)) else _) else _) = _
      rw [if_pos hm, if_pos rfl]
      simp
    · rw [askP_bad hc hm]
      show (if matB (askM r) = true then _ else (if (13 : Int) = 13 then some ((0 : Int) == 0 && ((⟨#[]⟩ : ByteArray).toList == ([] : List UInt8) && (⟨#[]⟩ : ByteArray).toList == ([] : List UInt8))) else _)) = _
      rw [if_neg hm, if_pos rfl, empty_beq]
      rfl
theorem WireParses_walk (a0 a1 : ByteArray) (w : World) (hG : GOK w) (h0 : a0.size ≤ maxLen) (h1 : a1.size ≤ maxLen) :
    Calls Tryz.prog 3 #[.string a0, .string a1] w fun e w' => e = .returned (.bool true) ∧ Below w.heap.size w w' :=
  foghornlaw12_WireParses.calls 8002 a0 a1 true w hG (wireParses_pure a0 a1)
end Go.Proofs.YtjfknmlchdifjaaGreatDoorQ.P
namespace Go.Proofs.YtjfknmlchdifjaaGreatDoor
open Go.RowKit Go.ChangeShapes Go.WideShapes Go.ChangeAt Go.Proofs.YtjfknmlchdifjaaGreatDoorW.PrintWords
def Opens (P : Program) (W : World) (t : TypeId) {α : Type} (d : Kd α) (Q : α → Prop) : Prop :=
  ∀ {H : Type} (enc : TypeId × Value → H) (base : Nat) (spare : Nat → Bool) (held : Bool) (fuel : Nat) (cs : List Value) (y : DataW H × List MemPlace), DataW.trod enc P W base spare held fuel t cs = some y → cs.length = d.sz → ∃ x, d.K W x cs ∧ Q x
section
variable {P : Program} {W : World} {t e : TypeId} {α β : Type} {d : Kd α} {Q : α → Prop}
theorem Opens.imp {Q' : α → Prop} (h : Opens P W t d Q) (hq : ∀ x, Q x → Q' x) : Opens P W t d Q' := by
  intro H enc base spare held fuel cs y hy hl
  obtain ⟨x, hk, hx⟩ := h enc base spare held fuel cs y hy hl
  exact ⟨x, hk, hq x hx⟩
end
end Go.Proofs.YtjfknmlchdifjaaGreatDoor
namespace Go.Proofs.YtjfknmlchdifjaaGreatDoor
open Go
variable {H : Type} {enc : TypeId × Value → H}
theorem handed_and_shaped {a : Assume} {C : Checked} {os : Os} {f : FuncId} {fn : Func} {s : ChangeSpec} {conds : List PathCond} {apart fresh handsOn again : Bool} {X : World → Array Value → Prop}
    (hX : ∀ (w w' : World) (args : Array Value), w.heap = w'.heap → X w args → X w' args)
    (own : ownKnob C.prog.godebug = none) (started : os.Started) (noInit : C.prog.inits.idxOf? f = none) (hfn : C.prog.funcs[f]? = some fn)
    (witness : ∃ (w : World) (tape : Tape) (i : Input), w.os = os ∧ (w.forCall tape i).Shaped C.prog ∧ i.vars = [] ∧ Input.okWide C.prog (w.forCall tape i) .any w.heap.size f i ∧
      ((s.pre enc C.prog fn conds apart (w.forCall tape i).memory i.args ∧ X (w.forCall tape i).memory i.args) ∧ sizedMet enc C.prog fn (OpenSpec.ofChange s) apart (w.forCall tape i).memory i.args) ∧ a.holds C.prog (lone (Frame.enter C.prog f i.args .normal) [] (w.forCall tape i)))
    (contract : ∀ (W : World) (base : Nat) (args : Array Value) (ds gs : List (DataW H)) (before : List MemPlace),
      (∀ (j : Nat) t v, fn.params[j]? = some t → args[j]? = some v → Value.okWide C.prog W .any base t v) →
      DataW.Whole enc C.prog fn.params.toList s.vars apart W args.toList ds gs before →
      conds.all (PathCond.test C.prog ⟨fn.params.toList, ds, s.plain.varTypes C.prog, gs⟩) = true →
      (DataW.weightsEach C.prog (fn.params.toList ++ s.plain.varTypes C.prog) (ds ++ gs)).all (· ≤ reachBytes) = true → X W args → W.ShapedOpen C.prog →
      a.holds C.prog (lone (Frame.enter C.prog f args .normal) [] W) →
      Calls C.prog f args W fun e W' => ∃ v, e = .returned v ∧ s.post enc C.prog fn apart fresh handsOn again W args v W') :
    ReturnsInHanded a C os f .any (fun w args => (s.pre enc C.prog fn conds apart w args ∧ X w args) ∧ sizedMet enc C.prog fn (OpenSpec.ofChange s) apart w args) (s.post enc C.prog fn apart fresh handsOn again) := by
  refine returnsInHanded_of_calls own started noInit witness ?_
  intro w tape i _ hsh _ hok hpre hholds
  obtain ⟨_, _, _, fn', hfn', _, _, _, _, hval⟩ := hok
  have e : fn' = fn := Option.some.inj (hfn'.symm.trans hfn)
  subst e
  obtain ⟨⟨⟨ds, gs, before, hw, hc⟩, hx⟩, hz⟩ := hpre
  have hw' := DataW.Whole.of_heap (w' := w.forCall tape i) (by rfl) hw
  refine (contract (w.forCall tape i) w.heap.size i.args ds gs before hval hw' hc (hz.weights hw) (hX _ _ _ (by rfl) hx) hsh hholds).mono fun e W' ⟨v, he, hp⟩ => ?_
  subst he
  exact ChangeSpec.post_blind hp
end Go.Proofs.YtjfknmlchdifjaaGreatDoor
namespace Go.Proofs.YtjfknmlchdifjaaGreatDoor.wireParses
open Go.ChangeShapes Go.WideShapes Go.ChangeAt Go.WideMaps Go.WideElems Go.RowKit Go.Proofs.YtjfknmlchdifjaaGreatDoorQ.P Go.Proofs.YtjfknmlchdifjaaGreatDoorQ
open Go.ChangeMaps (open_string shut_string)
theorem own : ownKnob Tryz.prog.godebug = none := by kernel_rfl
theorem laidOut : laidOutB Tryz.prog = true := by kernel_rfl
def laidL : List (String × DataW Unit) := [("math/bits.deBruijn32tab", Rows.laid_math_bits_deBruijn32tab), ("math/bits.deBruijn64tab", Rows.laid_math_bits_deBruijn64tab), ("internal/strconv.uint64pow10", Rows.laid_internal_strconv_uint64pow10), ("unicode/utf8.acceptRanges", Rows.laid_unicode_utf8_acceptRanges), ("strconv.ErrRange", Rows.laid_strconv_ErrRange), ("strconv.ErrSyntax", Rows.laid_strconv_ErrSyntax), ("unicode/utf8.first", Rows.laid_unicode_utf8_first)]
theorem laid_met (os : Os) (args : Array Value) : laidMetH Tryz.prog laidL ((World.laidAll Tryz.prog os laidL).forCall (fun _ _ => 0) ⟨#[], args, []⟩).memory := by
  rw [MakeChecks.laidMetH_plain _ _ _ (by kernel_rfl)]; exact laidMet_laidAll _ (by kernel_rfl) (by kernel_rfl)
set_option maxRecDepth 100000 in
theorem starErr : "*" ++ "errors.errorString" = "*errors.errorString" := by decide
theorem rowErr (u : TypeId) (h : Tryz.prog.typeName? 3 u = some "*errors.errorString") : u = 228 := typeName_ptr_named (nm := "errors.errorString") (by rw [starErr]; kernel_rfl) (by kernel_rfl) (by decide) u (by rw [starErr]; exact h)
set_option maxRecDepth 100000 in
theorem gok_of {W : World} (h : laidMetH Tryz.prog laidL W) (hs : W.ShapedOpen Tryz.prog) : GOK W := by
  rw [MakeChecks.laidMetH_plain _ _ _ (by kernel_rfl)] at h
  have h00 := h
  obtain ⟨ps, ⟨g0, t0, cs0, f0, p0, q0, hg0, ht0, hv0, hd0, ⟨g1, t1, cs1, f1, p1, q1, hg1, ht1, hv1, hd1, ⟨g2, t2, cs2, f2, p2, q2, hg2, ht2, hv2, hd2, ⟨g3, t3, cs3, f3, p3, q3, hg3, ht3, hv3, hd3, ⟨g4, t4, cs4, f4, p4, q4, hg4, ht4, hv4, hd4, ⟨g5, t5, cs5, f5, p5, q5, hg5, ht5, hv5, hd5, ⟨g6, t6, cs6, f6, p6, q6, hg6, ht6, hv6, hd6, _, _⟩, _⟩, _⟩, _⟩, _⟩, _⟩, _⟩, _, _⟩ := h
  have k1 : Lib.TabIs Tryz.prog W "math/bits.deBruijn64tab" .u8 tab_math_bits_deBruijn64tab := by
    obtain rfl := Option.some.inj ((show Tryz.prog.globalNamed "math/bits.deBruijn64tab" = some 7 by kernel_rfl).symm.trans hg1)
    obtain rfl := Option.some.inj ((show (Tryz.prog.globals[7]?).map (·.type) = some 232 by kernel_rfl).symm.trans ht1)
    unfold Lib.TabIs
    have hd' := Lib.cells_of_tab (zs := tab_math_bits_deBruijn64tab) (k := .u8) Tryz.underlying232 Tryz.underlying5 (by kernel_rfl) (by kernel_rfl) hd1
    rw [hv1, ← hd']
  have k2 : Lib.TabIs Tryz.prog W "internal/strconv.uint64pow10" .u64 tab_internal_strconv_uint64pow10 := by
    obtain rfl := Option.some.inj ((show Tryz.prog.globalNamed "internal/strconv.uint64pow10" = some 1 by kernel_rfl).symm.trans hg2)
    obtain rfl := Option.some.inj ((show (Tryz.prog.globals[1]?).map (·.type) = some 205 by kernel_rfl).symm.trans ht2)
    unfold Lib.TabIs
    have hd' := Lib.cells_of_tab (zs := tab_internal_strconv_uint64pow10) (k := .u64) Tryz.underlying205 Tryz.underlying182 (by kernel_rfl) (by kernel_rfl) hd2
    rw [hv2, ← hd']
  have kmax : ∃ m, W.cell? ⟨0, 0, none⟩ = some (.int .i64 m) := Go.Proofs.cell_of_shapedOpen_int hs (of_decide_eq_true (by kernel_rfl)) (show ((begin Tryz.prog (fun _ _ => 0) default).world.heap[0]?).bind Obj.row? = some (#[.int .i64 0], 3) by kernel_rfl) rfl (by kernel_rfl) (by kernel_rfl) Tryz.underlying3
  have kerrsyntax : ∃ t p, W.cell? ⟨4, 0, none⟩ = some (.iface t p) := by
    obtain ⟨a, s, hv, _⟩ := laid_sentinel (tp := 228) (te := 230) (ts := 9) (laidMet.tail (laidMet.tail (laidMet.tail (laidMet.tail (laidMet.tail (h00)))))) (show Tryz.prog.globalNamed "strconv.ErrSyntax" = some 4 by kernel_rfl) (show (Tryz.prog.globals[4]?).map (·.type) = some 100 by kernel_rfl) Tryz.underlying100 rowErr Tryz.underlying228 Tryz.underlying230 rfl rfl Tryz.underlying9 (by kernel_rfl) (by kernel_rfl)
    have h0 := World.var?_cell (show Tryz.prog.globalNamed "strconv.ErrSyntax" = some 4 by kernel_rfl) hv 0
    exact ⟨_, _, by simpa using h0⟩
  have kerrrange : ∃ t p, W.cell? ⟨5, 0, none⟩ = some (.iface t p) := by
    obtain ⟨a, s, hv, _⟩ := laid_sentinel (tp := 228) (te := 230) (ts := 9) (laidMet.tail (laidMet.tail (laidMet.tail (laidMet.tail (h00))))) (show Tryz.prog.globalNamed "strconv.ErrRange" = some 5 by kernel_rfl) (show (Tryz.prog.globals[5]?).map (·.type) = some 100 by kernel_rfl) Tryz.underlying100 rowErr Tryz.underlying228 Tryz.underlying230 rfl rfl Tryz.underlying9 (by kernel_rfl) (by kernel_rfl)
    have h0 := World.var?_cell (show Tryz.prog.globalNamed "strconv.ErrRange" = some 5 by kernel_rfl) hv 0
    exact ⟨_, _, by simpa using h0⟩
  exact ⟨k1, k2, kmax, kerrsyntax, kerrrange, trivial⟩
set_option maxRecDepth 100000 in
theorem lifted (os : Os) (started : os.Started) (H : Type) (enc : TypeId × Value → H) :
    ReturnsInHanded {} Tryz.checked os 3 .any (fun w args => (Rows.wireParsesSpec.pre enc Tryz.prog Tryz.f3 [] false w args ∧ laidMetH Tryz.prog laidL w) ∧ sizedMet enc Tryz.prog Tryz.f3 (OpenSpec.ofChange Rows.wireParsesSpec) false w args) (Rows.wireParsesSpec.post enc Tryz.prog Tryz.f3 false true false false) := by
  refine handed_and_shaped (C := Tryz.checked) (X := fun w _ => laidMetH Tryz.prog laidL w) (fun _ _ _ hh h => h.of_heap hh) own started (by kernel_rfl) Tryz.func3
    (ChangeSpec.witness_shaped (enc := enc) (C := Tryz.checked) (os := os) (X := fun w _ => laidMetH Tryz.prog laidL w) false (World.laidAll Tryz.prog os laidL) #[.string ByteArray.empty, .string ByteArray.empty] 8 (World.laidAll_os _ _ _) (World.shaped_of_ZipB (by kernel_rfl) (by kernel_rfl)) (by kernel_rfl) (by kernel_rfl) (by kernel_rfl) (laid_met os _)) ?_
  intro W base args ds gs before hval0 hW _ _ hL hSh _
  have hG := gok_of hL hSh
  have hval : ∀ (j : Nat) t v, Tryz.f3.params[j]? = some t → args[j]? = some v → Value.okWide Tryz.prog W .any base t v := hval0
  have hW' := hW
  obtain ⟨p, q, hA0, hV, rfl, hfz, hnd⟩ := hW
  have hA : DataW.TrodAll enc Tryz.prog W 0 (fun _ => true) true Tryz.f3.params.toList args.toList ds p := hA0
  rw [Tryz.params3] at hA hval
  obtain ⟨v0, vs0, d0, ds0, p0, q0, hargs, rfl, rfl, h0, r0⟩ := trodAll_cons hA
  obtain ⟨v1, vs1, d1, ds1, p1, q1, rfl, rfl, rfl, h1, r1⟩ := trodAll_cons r0
  obtain ⟨rfl, rfl, rfl⟩ := trodAll_nil r1
  obtain rfl : args = #[v0, v1] := by cases args; simp_all
  obtain ⟨rfl, rfl⟩ := trodVars_none hV
  have lt0 : ∀ x ∈ p0, x.block < W.heap.size := by obtain ⟨m, hm⟩ := h0; exact DataW.trod_lt m _ _ _ hm
  have k0 := h0
  have lt1 : ∀ x ∈ p1, x.block < W.heap.size := by obtain ⟨m, hm⟩ := h1; exact DataW.trod_lt m _ _ _ hm
  have k1 := h1
  obtain ⟨a0, rfl, rfl, rfl, w0⟩ := open_string Tryz.underlying9 (hval 0 9 v0 rfl rfl) h0
  obtain ⟨a1, rfl, rfl, rfl, w1⟩ := open_string Tryz.underlying9 (hval 1 9 v1 rfl rfl) h1
  clear hA0 hval0
  refine (WireParses_walk a0 a1 W hG w0 w1).mono fun e W' ⟨he, bel⟩ => ?_
  subst he
  exact ⟨_, rfl, _, _, _, [], _, [], hW', trodAll_mk1 (shut_bool Tryz.underlying4 _), (trodAll_cons_mk (Below.trod laidOut (by kernel_rfl) (of_decide_eq_true (by kernel_rfl)) k0 bel lt0) (trodAll_cons_mk (Below.trod laidOut (by kernel_rfl) (of_decide_eq_true (by kernel_rfl)) k1 bel lt1) trodAll_mk0)), rfl, bel.frame _, fun h => by cases h⟩
theorem over : Rows.WireParsesSaid :=
  OpenClaim.holds_of_wide 3 Tryz.f3 rfl rfl rfl rfl rfl rfl rfl ⟨rfl, rfl, rfl, rfl, rfl⟩ rfl rfl rfl rfl rfl (by kernel_rfl) Tryz.func3 (by kernel_rfl)
    (of_decide_eq_true (by kernel_rfl)) (by unfold Func.isWrapper; first | (rw [if_pos (by decide +kernel)]; kernel_rfl) | (rw [if_neg (by decide +kernel)]; exact ⟨rfl, rfl⟩))
    (fun os started H enc _ => lifted os started H enc)
end Go.Proofs.YtjfknmlchdifjaaGreatDoor.wireParses
namespace Go.Proofs.YtjfknmlchdifjaaGreatDoor
theorem wireParses_holds : Rows.WireParsesCardSaid :=
  Claim7.holds_tied_plain_at .later [] [.data, .data, .data, .data, .sentinel, .sentinel, .pinned] true (true, "f5978d46c07f0da5ee69488404ae682c79dd4e309cc46e29ddb0ab219e64abfa") true wireParses.over (fun _ h => by cases h) (by kernel_rfl) (fun _ h => by cases h) wireParses_row_tie rfl ⟨rfl, rfl⟩ (by kernel_rfl) rfl
    (fun f fn hf hfn => by
      obtain rfl : f = 3 := Option.some.inj ((show Tryz.prog.funcNamed "foghorn/foghornlaw12.WireParses" = some 3 by kernel_rfl).symm.trans hf) |>.symm
      obtain rfl : fn = Tryz.f3 := (Option.some.inj (Tryz.func3.symm.trans hfn)).symm
      exact ⟨by kernel_rfl, fun j t ht => by
        rw [Tryz.params3] at ht
        have hm : t ∈ [9, 9] := by simpa using Array.mem_of_getElem? ht
        have hall : ([9, 9].all fun u => !Tryz.prog.wantsStandIn u) = true := by kernel_rfl
        exact (show Tryz.prog.wantsStandIn t = false by simpa using List.all_eq_true.1 hall t hm)⟩)
    (by kernel_rfl)
#print axioms wireParses_holds
end Go.Proofs.YtjfknmlchdifjaaGreatDoor
