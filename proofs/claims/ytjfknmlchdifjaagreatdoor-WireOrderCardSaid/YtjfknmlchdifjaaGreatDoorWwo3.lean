/- Part 3 of a proof: contracts and plain laws of what the statement reaches. No condition. -/
import Derived.Test.YtjfknmlchdifjaaGreatDoorWwo1
import Derived.Test.YtjfknmlchdifjaaGreatDoorWwo2
set_option linter.unusedVariables false
set_option linter.unusedSimpArgs false
namespace Go.Proofs.YtjfknmlchdifjaaGreatDoorQ.P
open Go.RowKit Go.Proofs.YtjfknmlchdifjaaGreatDoorW.PrintWords Go.Proofs.YtjfknmlchdifjaaGreatDoorW.PrintLast Go.Proofs.YtjfknmlchdifjaaGreatDoorW.PrintMore
attribute [local go_sem] max2_int min2_int max_two min_two max_three min_three max_four min_four
def wire_Parse.f (k : Nat) (a0 : ByteArray) : Option (Int × (List (S52)) × Int × Int × (List (S32)) × Int) := if (a0.size : Int) > 200 then (some (0, ([] : List (S52)), 0, 0, ([] : List (S32)), 2)) else ((strings_Split.f a0 (⟨#[32]⟩ : ByteArray)).bind fun t143 => (if 0 < (t143.length : Int) then (if (rdOf ByteArray.empty t143 0).toList = ([102, 105, 114, 101] : List UInt8) then (if 1 ≤ (t143.length : Int) then ((wire_alert.f k 0 (t143.drop 1)).bind fun bt151 => (some (bt151.1, bt151.2.1, bt151.2.2.1, bt151.2.2.2.1, bt151.2.2.2.2.1, bt151.2.2.2.2.2))) else (none)) else (if (rdOf ByteArray.empty t143 0).toList = ([100, 111, 110, 101] : List UInt8) then (if 1 ≤ (t143.length : Int) then ((wire_alert.f k 1 (t143.drop 1)).bind fun bt165 => (some (bt165.1, bt165.2.1, bt165.2.2.1, bt165.2.2.2.1, bt165.2.2.2.2.1, bt165.2.2.2.2.2))) else (none)) else (if (rdOf ByteArray.empty t143 0).toList = ([104, 117, 115, 104] : List UInt8) then (if 1 ≤ (t143.length : Int) then ((wire_hush.f k (t143.drop 1)).bind fun bt179 => (some (bt179.1, bt179.2.1, bt179.2.2.1, bt179.2.2.2.1, bt179.2.2.2.2.1, bt179.2.2.2.2.2))) else (none)) else (some (0, ([] : List (S52)), 0, 0, ([] : List (S32)), 10))))) else (none)))
theorem wire_Parse.mono : ∀ a0 k, LeO (wire_Parse.f k a0) (wire_Parse.f (k + 1) a0) := by
 intro a0 k
 unfold wire_Parse.f
 repeat' first
   | (with_reducible exact wire_alert.mono _ _ _)
   | (with_reducible exact wire_hush.mono _ _)
   | (with_reducible exact LeO.refl _)
   | (with_reducible exact LeO.none _)
   | (with_reducible refine LeO.ite ?_ ?_)
   | (with_reducible refine LeO.bind ?_ (fun _ => ?_))
   | exact wire_alert.mono _ _ _
   | exact wire_hush.mono _ _
   | exact LeO.none _
   | refine LeO.ite ?_ ?_
   | refine LeO.bind ?_ (fun _ => ?_)
set_option maxHeartbeats 8000000 in
set_option maxRecDepth 100000 in
theorem wire_Parse.calls (k : Nat) (a0 : ByteArray) (r1 : Int) (r2 : List (S52)) (r3 : Int) (r4 : Int) (r5 : List (S32)) (r6 : Int) (w : World) (hG : GOK w) (h : wire_Parse.f k a0 = some (r1, r2, r3, r4, r5, r6)) :
  Calls Tryz.prog 10 #[.string a0] w fun e w' => ∃ v1_ v4_ : Value, e = .returned (.tuple #[.agg #[.int .i64 r1, v1_, .int .i64 r3, .int .i64 r4, v4_], .int .i64 r6]) ∧ Kd.R k52 52 w' w.heap.size (fun _ => True) v1_ r2 ∧ Kd.R k32 32 w' w.heap.size (fun _ => True) v4_ r5 ∧ Below w.heap.size w w' := by
 have hu27 := Tryz.underlying27
 have HG := aA hG
 clear hG
 have HB := aA (Below.refl w.heap.size w)
 have H : (if (a0.size : Int) > 200 then (some (0, ([] : List (S52)), 0, 0, ([] : List (S32)), 2)) else ((strings_Split.f a0 (⟨#[32]⟩ : ByteArray)).bind fun t143 => (if 0 < (t143.length : Int) then (if (rdOf ByteArray.empty t143 0).toList = ([102, 105, 114, 101] : List UInt8) then (if 1 ≤ (t143.length : Int) then ((wire_alert.f k 0 (t143.drop 1)).bind fun bt151 => (some (bt151.1, bt151.2.1, bt151.2.2.1, bt151.2.2.2.1, bt151.2.2.2.2.1, bt151.2.2.2.2.2))) else (none)) else (if (rdOf ByteArray.empty t143 0).toList = ([100, 111, 110, 101] : List UInt8) then (if 1 ≤ (t143.length : Int) then ((wire_alert.f k 1 (t143.drop 1)).bind fun bt165 => (some (bt165.1, bt165.2.1, bt165.2.2.1, bt165.2.2.2.1, bt165.2.2.2.2.1, bt165.2.2.2.2.2))) else (none)) else (if (rdOf ByteArray.empty t143 0).toList = ([104, 117, 115, 104] : List UInt8) then (if 1 ≤ (t143.length : Int) then ((wire_hush.f k (t143.drop 1)).bind fun bt179 => (some (bt179.1, bt179.2.1, bt179.2.2.1, bt179.2.2.2.1, bt179.2.2.2.2.1, bt179.2.2.2.2.2))) else (none)) else (some (0, ([] : List (S52)), 0, 0, ([] : List (S32)), 10))))) else (none)))) = some (r1, r2, r3, r4, r5, r6) := h
 clear h
 by_cases c2 : (a0.size : Int) > 200
 ·rw [if_pos c2] at H
  have c2b0 : decide (200 < (a0.size : Int)) = true := decide_eq_true c2
  have c2b1 : decide (200 < a0.size) = true := decide_eq_true (by omega)
  clear c2
  simp only [Option.some.injEq, Prod.mk.injEq] at H
  obtain ⟨rfl, rfl, rfl, rfl, rfl, rfl⟩ := H
  go_enter Tryz.func10, Tryz.ntmps10
  go_wp2_with (first | ((with_reducible refine gate_dst (N := 2) rfl ?_); refine box_event ?hg (N := 2) ?hd (cs := #[.int .i64 0, .slice none 0 0, .int .i64 0, .int .i64 0, .slice none 0 0]) (t := 27) ?hr ?_; (case hd => rfl); (case hg => rfl); (case hr => first | (go_simp; done) | (go_simp; rfl)); intro gb142 hg w3 hbox hb; have n0_ := aA (below_step mB hb); have n1_ := aA (hbox); have n2_ := aA ((bZ hg mB)); have n3_ := aA ((bZ hg mB)); clear HB; have HB := n0_; have BK142 := n1_; have GW142 := n2_; have GE142 := n3_; clear n0_ n1_ n2_ n3_ hb hbox hg; obtain ⟨hcz4_0, hcz4_1, hcz4_2, hcz4_3, hcz4_4⟩ := bC5 BK142.out; obtain ⟨hfz4_0, hfz4_1, hfz4_2, hfz4_3, hfz4_4⟩ := bF5 BK142.out))
  refine bodyPost_ret (results_ct rfl _ _ gb142 27 #[.int .i64 0, .slice none 0 0, .int .i64 0, .int .i64 0, .slice none 0 0] (0, 0) _ rfl (by (with_reducible repeat (first | refine blk_drewN ?_ _ | refine blk_drew ?_ | refine blk_alloc ?_ _)); have h_ := BK142.out; exact pK 4 (pK 3 (pK 2 (pK 1 (pK 0 (h_)))))) Tryz.underlying27 rfl (by kernel_rfl)) rfl ?_
  exact ⟨_, _, by first | rfl | (simp [errW_none, errW_some] <;> rfl) | (simp [*, errW_none, errW_some] <;> rfl), by first | exact Kd.R_nil _ _ _ _ _ | exact Kd.N_nil _ _ _ _ _ | exact Kd.V_nil _ _ _ _ _ | exact Kd.Q_nil _ _ _ _ _ | exact Kd.S_nil _ _ _ _ _, by first | exact Kd.R_nil _ _ _ _ _ | exact Kd.N_nil _ _ _ _ _ | exact Kd.V_nil _ _ _ _ _ | exact Kd.Q_nil _ _ _ _ _ | exact Kd.S_nil _ _ _ _ _, by repeat (first | (with_reducible first | exact HB.out | apply below_alloc | apply pw_below_drewN | apply below_drew1 | refine below_set ?_ GE142.out) | exact HB.out)⟩
 ·rw [if_neg c2] at H
  have c2b0 : decide (200 < (a0.size : Int)) = false := decide_eq_false c2
  have c2b1 : decide (200 < a0.size) = false := decide_eq_false (by omega)
  clear c2
  replace H := Option.bind_eq_some_iff.mp H
  obtain ⟨t143, A50, H⟩ := H
  replace H : (if 0 < (t143.length : Int) then (if (rdOf ByteArray.empty t143 0).toList = ([102, 105, 114, 101] : List UInt8) then (if 1 ≤ (t143.length : Int) then ((wire_alert.f k 0 (t143.drop 1)).bind fun bt151 => (some (bt151.1, bt151.2.1, bt151.2.2.1, bt151.2.2.2.1, bt151.2.2.2.2.1, bt151.2.2.2.2.2))) else (none)) else (if (rdOf ByteArray.empty t143 0).toList = ([100, 111, 110, 101] : List UInt8) then (if 1 ≤ (t143.length : Int) then ((wire_alert.f k 1 (t143.drop 1)).bind fun bt165 => (some (bt165.1, bt165.2.1, bt165.2.2.1, bt165.2.2.2.1, bt165.2.2.2.2.1, bt165.2.2.2.2.2))) else (none)) else (if (rdOf ByteArray.empty t143 0).toList = ([104, 117, 115, 104] : List UInt8) then (if 1 ≤ (t143.length : Int) then ((wire_hush.f k (t143.drop 1)).bind fun bt179 => (some (bt179.1, bt179.2.1, bt179.2.2.1, bt179.2.2.2.1, bt179.2.2.2.2.1, bt179.2.2.2.2.2))) else (none)) else (some (0, ([] : List (S52)), 0, 0, ([] : List (S32)), 10))))) else (none)) = some (r1, r2, r3, r4, r5, r6) := H
  have A5 := aA A50
  clear A50
  by_cases c6 : 0 < (t143.length : Int)
  ·rw [if_pos c6] at H
   have c6b0 : decide (0 < (t143.length : Int)) = true := decide_eq_true c6
   have c6b1 : decide (0 < t143.length) = true := decide_eq_true (by omega)
   clear c6
   by_cases c7 : (rdOf ByteArray.empty t143 0).toList = ([102, 105, 114, 101] : List UInt8)
   ·rw [if_pos c7] at H
    have c7b0 : ((rdOf ByteArray.empty t143 0).toList == ([102, 105, 114, 101] : List UInt8)) = true := beq_iff_eq.mpr c7
    have c7b1 : ((rdOf ByteArray.empty t143 0).toList != ([102, 105, 114, 101] : List UInt8)) = false := bne_eq_false_iff_eq.mpr c7
    clear c7
    by_cases c8 : 1 ≤ (t143.length : Int)
    ·rw [if_pos c8] at H
     have c8b0 := eq_true c8
     have c8b1 := decide_eq_true c8
     clear c8
     obtain ⟨y147, hy147⟩ : ∃ y_ : List ByteArray, y_ = (t143.drop 1) := ⟨_, rfl⟩
     replace H : ((wire_alert.f k 0 y147).bind fun bt151 => (some (bt151.1, bt151.2.1, bt151.2.2.1, bt151.2.2.2.1, bt151.2.2.2.2.1, bt151.2.2.2.2.2))) = some (r1, r2, r3, r4, r5, r6) := by first | (rw [hy147]; with_reducible exact H) | (have H2_ := (Option.bind_some _ _).symm.trans H; rw [hy147]; with_reducible exact H2_) | (have H2_ := (Option.bind_some _ _).symm.trans H; with_reducible exact H2_) | with_reducible exact H | (rw [hy147]; exact H) | exact H
     have Ny147 := aA hy147
     clear hy147
     replace H := Option.bind_eq_some_iff.mp H
     obtain ⟨⟨t151, t152, t155, t156, t157, t160⟩, A90, H⟩ := H
     replace H : (some (t151, t152, t155, t156, t157, t160)) = some (r1, r2, r3, r4, r5, r6) := H
     have A9 := aA A90
     clear A90
     simp only [Option.some.injEq, Prod.mk.injEq] at H
     obtain ⟨rfl, rfl, rfl, rfl, rfl, rfl⟩ := H
     go_enter Tryz.func10, Tryz.ntmps10
     go_wp2_with (first | ((with_reducible refine gate_dst (N := 2) rfl ?_); refine box_event ?hg (N := 2) ?hd (cs := #[.int .i64 0, .slice none 0 0, .int .i64 0, .int .i64 0, .slice none 0 0]) (t := 27) ?hr ?_; (case hd => rfl); (case hg => rfl); (case hr => first | (go_simp; done) | (go_simp; rfl)); intro gb142 hg w10 hbox hb; have n0_ := aA (below_step mB hb); have n1_ := aA (hbox); have n2_ := aA ((bZ hg mB)); have n3_ := aA ((bZ hg mB)); clear HB; have HB := n0_; have BK142 := n1_; have GW142 := n2_; have GE142 := n3_; clear n0_ n1_ n2_ n3_ hb hbox hg) | ((with_reducible refine gate_callee (f := 34) rfl ?_); refine goesL_ (some 10) rfl rfl Tryz.func34 (by kernel_rfl) rfl #[.string a0, .string (⟨#[32]⟩ : ByteArray)] rfl mS ?_; (with_reducible refine (strings_Split.calls a0 (⟨#[32]⟩ : ByteArray) t143 _ ?side1 A5.out).mono ?_); (case side1 => exact gok_below HG.out (mD1 GE142.out)); rintro e w11 ⟨v144, rfl, ho0, hb⟩; refine ⟨_, rfl, ?_⟩; have n0_ := aA (Kd.R_lower ho0 (below_size (mD1 GE142.out))); have n1_ := aA (bB BK142.out hb); have n2_ := aA (below_step (mD1 GE142.out) hb); clear BK142 HB; have HO145 := n0_; have BK142 := n1_; have HB := n2_; clear n0_ n1_ n2_; (try clear hb); (try clear hb2); (try clear hk); (try clear hi); (try clear ho0); obtain ⟨Ao12, co12, eo12⟩ := Kd.R_slice HO145.out; subst eo12; have p146 : 0 ≤ (0 : Int) := (by omega); have q146 : 0 < (t143.length : Int) := of_decide_eq_true (by first | (with_reducible assumption) | assumption); obtain ⟨ad146, e146, hx146_0⟩ := Kd.at_string (Kd.R_reads' HO145.out).2.2 0 p146 q146; cases e146; have qi146 : (0 < t143.length) = True := eq_true (by omega); (try rw [show ((0 : Int)).toNat = 0 from rfl] at hx146_0); (try rw [Addr.add_zero'] at hx146_0); replace p146 := eq_true p146; replace q146 := eq_true q146; have q13 : (1 : Int) ≤ ((t143.length : Int) : Int) := of_decide_eq_true (by first | (with_reducible assumption) | assumption); obtain ⟨i013, hi013, _, hsz13, _⟩ := info_parts info9; have hroom13 : t143.length ≤ co12 := (Kd.R_reads' HO145.out).2.1; have hC13 : Kd.C Kd.string _ (some ad146) t143.length t143 := (Kd.R_reads' HO145.out).2.2; have hcut13 := cut_from (P := Tryz.prog) 67 9 .i64 Tryz.underlying67 hi013 1 hsz13 (some ad146) t143.length co12 1 (by omega) q13; have hr13 := Kd.C_drop (m := (1 : Int).toNat) (c := co12) hC13 (by omega) hroom13; obtain ⟨A13, hA13⟩ : ∃ A1, A1 = (if co12 = (1 : Int).toNat then (some ad146) else ((some ad146) : Option Addr).map (·.add ((1 : Int).toNat * 1))) := ⟨_, rfl⟩; obtain ⟨c13, hc13⟩ : ∃ c1, c1 = co12 - (1 : Int).toNat := ⟨_, rfl⟩; have hy13 : y147.length = t143.length - (1 : Int).toNat := (by rw [Ny147.out, List.length_drop] <;> omega); rw [show (t143).drop (1 : Int).toNat = y147 from Ny147.out.symm] at hr13; replace hr13 : Kd.C Kd.string _ A13 y147.length y147 := (by rw [hA13]; exact hr13); rw [← hy13, ← hA13, ← hc13] at hcut13; have HR150 := aA hr13; have HC150 := aA (show y147.length ≤ c13 from by rw [hy13, hc13]; exact Nat.sub_le_sub_right hroom13 _); clear hr13 hC13 hroom13 hi013 hsz13 hc13; have KY13 := aA hy13; have KA13 := aA hA13; clear hy13 hA13; have KL13 := aA (show 1 ≤ t143.length from by omega); replace q13 := eq_true q13) | ((with_reducible refine gate_callee (f := 35) rfl ?_); refine goesL_ (some 18) rfl rfl Tryz.func35 (by kernel_rfl) rfl #[.int .i64 0, .slice A13 y147.length c13] rfl mS ?_; (with_reducible refine (wire_alert.calls k 0 _ _ y147 t151 t152 t155 t156 t157 t160 _ ?side1 ?side2 ?side3 A9.out).mono ?_); (case side1 => exact gok_below HG.out (mD1 GE142.out)); (case side2 => repeat (first | exact (by repeat (first | (with_reducible exact HR150.out) | (with_reducible refine Kd.C_alloc ?_ _) | (with_reducible refine Kd.C_drewN ?_ _) | (with_reducible refine Kd.C_drew ?_) | exact HR150.out)) | (with_reducible refine Kd.C_alloc ?_ _) | (with_reducible refine Kd.C_drewN ?_ _) | (with_reducible refine Kd.C_drew ?_))); (case side3 => exact HC150.out); rintro e w14 ⟨v153, v158, rfl, ho0, ho1, hb⟩; refine ⟨_, rfl, ?_⟩; have n0_ := aA (Kd.R_below (mR HO145.out) hb); have n1_ := aA (Kd.R_lower ho0 (below_size (mD1 GE142.out))); have n2_ := aA (Kd.R_lower ho1 (below_size (mD1 GE142.out))); have n3_ := aA (bB BK142.out hb); have n4_ := aA (Kd.C_below (by repeat (first | (with_reducible exact HR150.out) | (with_reducible refine Kd.C_alloc ?_ _) | (with_reducible refine Kd.C_drewN ?_ _) | (with_reducible refine Kd.C_drew ?_) | exact HR150.out)) hb); have n5_ := aA (below_step (mD1 GE142.out) hb); clear HO145 BK142 HR150 HB; have HO145 := n0_; have HO154 := n1_; have HO159 := n2_; have BK142 := n3_; have HR150 := n4_; have HB := n5_; clear n0_ n1_ n2_ n3_ n4_ n5_; (try clear hb); (try clear hb2); (try clear hk); (try clear hi); (try clear ho0); (try clear ho1); obtain ⟨hcz15_0, hcz15_1, hcz15_2, hcz15_3, hcz15_4⟩ := bC5 BK142.out; obtain ⟨hfz15_0, hfz15_1, hfz15_2, hfz15_3, hfz15_4⟩ := bF5 BK142.out; obtain ⟨Ao16, co16, eo16⟩ := Kd.R_slice HO154.out; subst eo16; obtain ⟨Ao17, co17, eo17⟩ := Kd.R_slice HO159.out; subst eo17))
     refine bodyPost_ret (results_ct rfl _ _ gb142 27 #[.int .i64 t151, .slice Ao16 t152.length co16, .int .i64 t155, .int .i64 t156, .slice Ao17 t157.length co17] (0, 0) _ rfl (by (with_reducible repeat (first | refine blk_drewN ?_ _ | refine blk_drew ?_ | refine blk_alloc ?_ _)); have h_ := BK142.out; exact pK 4 (pK 3 (pK 2 (pK 1 (pK 0 (h_)))))) Tryz.underlying27 rfl (by kernel_rfl)) rfl ?_
     exact ⟨_, _, by first | rfl | (simp [errW_none, errW_some] <;> rfl) | (simp [*, errW_none, errW_some] <;> rfl), by (with_reducible repeat (first | apply Kd.R_alloc | apply Kd.R_drewN | apply Kd.R_drew)); exact Kd.R_mono (rF 4 (rF 3 (rF 2 (rF 1 (rF 0 (Kd.R_types HO154.out BK142.out (by decide))))))) (fun _ hk => trivial), by (with_reducible repeat (first | apply Kd.R_alloc | apply Kd.R_drewN | apply Kd.R_drew)); exact Kd.R_mono (rF 4 (rF 3 (rF 2 (rF 1 (rF 0 (Kd.R_types HO159.out BK142.out (by decide))))))) (fun _ hk => trivial), by repeat (first | (with_reducible first | exact HB.out | apply below_alloc | apply pw_below_drewN | apply below_drew1 | refine below_set ?_ GE142.out) | exact HB.out)⟩
    ·rw [if_neg c8] at H
     exact absurd H (by simp)
   ·rw [if_neg c7] at H
    have c7b0 : ((rdOf ByteArray.empty t143 0).toList == ([102, 105, 114, 101] : List UInt8)) = false := beq_eq_false_iff_ne.mpr c7
    have c7b1 : ((rdOf ByteArray.empty t143 0).toList != ([102, 105, 114, 101] : List UInt8)) = true := bne_iff_ne.mpr c7
    by_cases c18 : (rdOf ByteArray.empty t143 0).toList = ([100, 111, 110, 101] : List UInt8)
    ·rw [if_pos c18] at H
     have c18b0 : ((rdOf ByteArray.empty t143 0).toList == ([100, 111, 110, 101] : List UInt8)) = true := beq_iff_eq.mpr c18
     have c18b1 : ((rdOf ByteArray.empty t143 0).toList != ([100, 111, 110, 101] : List UInt8)) = false := bne_eq_false_iff_eq.mpr c18
     clear c18
     by_cases c19 : 1 ≤ (t143.length : Int)
     ·rw [if_pos c19] at H
      have c19b0 := eq_true c19
      have c19b1 := decide_eq_true c19
      clear c19
      obtain ⟨y161, hy161⟩ : ∃ y_ : List ByteArray, y_ = (t143.drop 1) := ⟨_, rfl⟩
      replace H : ((wire_alert.f k 1 y161).bind fun bt165 => (some (bt165.1, bt165.2.1, bt165.2.2.1, bt165.2.2.2.1, bt165.2.2.2.2.1, bt165.2.2.2.2.2))) = some (r1, r2, r3, r4, r5, r6) := by first | (rw [hy161]; with_reducible exact H) | (have H2_ := (Option.bind_some _ _).symm.trans H; rw [hy161]; with_reducible exact H2_) | (have H2_ := (Option.bind_some _ _).symm.trans H; with_reducible exact H2_) | with_reducible exact H | (rw [hy161]; exact H) | exact H
      have Ny161 := aA hy161
      clear hy161
      replace H := Option.bind_eq_some_iff.mp H
      obtain ⟨⟨t165, t166, t169, t170, t171, t174⟩, A200, H⟩ := H
      replace H : (some (t165, t166, t169, t170, t171, t174)) = some (r1, r2, r3, r4, r5, r6) := H
      have A20 := aA A200
      clear A200
      simp only [Option.some.injEq, Prod.mk.injEq] at H
      obtain ⟨rfl, rfl, rfl, rfl, rfl, rfl⟩ := H
      go_enter Tryz.func10, Tryz.ntmps10
      go_wp2_with (first | ((with_reducible refine gate_dst (N := 2) rfl ?_); refine box_event ?hg (N := 2) ?hd (cs := #[.int .i64 0, .slice none 0 0, .int .i64 0, .int .i64 0, .slice none 0 0]) (t := 27) ?hr ?_; (case hd => rfl); (case hg => rfl); (case hr => first | (go_simp; done) | (go_simp; rfl)); intro gb142 hg w21 hbox hb; have n0_ := aA (below_step mB hb); have n1_ := aA (hbox); have n2_ := aA ((bZ hg mB)); have n3_ := aA ((bZ hg mB)); clear HB; have HB := n0_; have BK142 := n1_; have GW142 := n2_; have GE142 := n3_; clear n0_ n1_ n2_ n3_ hb hbox hg) | ((with_reducible refine gate_callee (f := 34) rfl ?_); refine goesL_ (some 10) rfl rfl Tryz.func34 (by kernel_rfl) rfl #[.string a0, .string (⟨#[32]⟩ : ByteArray)] rfl mS ?_; (with_reducible refine (strings_Split.calls a0 (⟨#[32]⟩ : ByteArray) t143 _ ?side1 A5.out).mono ?_); (case side1 => exact gok_below HG.out (mD1 GE142.out)); rintro e w22 ⟨v144, rfl, ho0, hb⟩; refine ⟨_, rfl, ?_⟩; have n0_ := aA (Kd.R_lower ho0 (below_size (mD1 GE142.out))); have n1_ := aA (bB BK142.out hb); have n2_ := aA (below_step (mD1 GE142.out) hb); clear BK142 HB; have HO145 := n0_; have BK142 := n1_; have HB := n2_; clear n0_ n1_ n2_; (try clear hb); (try clear hb2); (try clear hk); (try clear hi); (try clear ho0); obtain ⟨Ao23, co23, eo23⟩ := Kd.R_slice HO145.out; subst eo23; have p146 : 0 ≤ (0 : Int) := (by omega); have q146 : 0 < (t143.length : Int) := of_decide_eq_true (by first | (with_reducible assumption) | assumption); obtain ⟨ad146, e146, hx146_0⟩ := Kd.at_string (Kd.R_reads' HO145.out).2.2 0 p146 q146; cases e146; have qi146 : (0 < t143.length) = True := eq_true (by omega); (try rw [show ((0 : Int)).toNat = 0 from rfl] at hx146_0); (try rw [Addr.add_zero'] at hx146_0); replace p146 := eq_true p146; replace q146 := eq_true q146; have q24 : (1 : Int) ≤ ((t143.length : Int) : Int) := of_decide_eq_true (by first | (with_reducible assumption) | assumption); obtain ⟨i024, hi024, _, hsz24, _⟩ := info_parts info9; have hroom24 : t143.length ≤ co23 := (Kd.R_reads' HO145.out).2.1; have hC24 : Kd.C Kd.string _ (some ad146) t143.length t143 := (Kd.R_reads' HO145.out).2.2; have hcut24 := cut_from (P := Tryz.prog) 67 9 .i64 Tryz.underlying67 hi024 1 hsz24 (some ad146) t143.length co23 1 (by omega) q24; have hr24 := Kd.C_drop (m := (1 : Int).toNat) (c := co23) hC24 (by omega) hroom24; obtain ⟨A24, hA24⟩ : ∃ A1, A1 = (if co23 = (1 : Int).toNat then (some ad146) else ((some ad146) : Option Addr).map (·.add ((1 : Int).toNat * 1))) := ⟨_, rfl⟩; obtain ⟨c24, hc24⟩ : ∃ c1, c1 = co23 - (1 : Int).toNat := ⟨_, rfl⟩; have hy24 : y161.length = t143.length - (1 : Int).toNat := (by rw [Ny161.out, List.length_drop] <;> omega); rw [show (t143).drop (1 : Int).toNat = y161 from Ny161.out.symm] at hr24; replace hr24 : Kd.C Kd.string _ A24 y161.length y161 := (by rw [hA24]; exact hr24); rw [← hy24, ← hA24, ← hc24] at hcut24; have HR164 := aA hr24; have HC164 := aA (show y161.length ≤ c24 from by rw [hy24, hc24]; exact Nat.sub_le_sub_right hroom24 _); clear hr24 hC24 hroom24 hi024 hsz24 hc24; have KY24 := aA hy24; have KA24 := aA hA24; clear hy24 hA24; have KL24 := aA (show 1 ≤ t143.length from by omega); replace q24 := eq_true q24) | ((with_reducible refine gate_callee (f := 35) rfl ?_); refine goesL_ (some 25) rfl rfl Tryz.func35 (by kernel_rfl) rfl #[.int .i64 1, .slice A24 y161.length c24] rfl mS ?_; (with_reducible refine (wire_alert.calls k 1 _ _ y161 t165 t166 t169 t170 t171 t174 _ ?side1 ?side2 ?side3 A20.out).mono ?_); (case side1 => exact gok_below HG.out (mD1 GE142.out)); (case side2 => repeat (first | exact (by repeat (first | (with_reducible exact HR164.out) | (with_reducible refine Kd.C_alloc ?_ _) | (with_reducible refine Kd.C_drewN ?_ _) | (with_reducible refine Kd.C_drew ?_) | exact HR164.out)) | (with_reducible refine Kd.C_alloc ?_ _) | (with_reducible refine Kd.C_drewN ?_ _) | (with_reducible refine Kd.C_drew ?_))); (case side3 => exact HC164.out); rintro e w25 ⟨v167, v172, rfl, ho0, ho1, hb⟩; refine ⟨_, rfl, ?_⟩; have n0_ := aA (Kd.R_below (mR HO145.out) hb); have n1_ := aA (Kd.R_lower ho0 (below_size (mD1 GE142.out))); have n2_ := aA (Kd.R_lower ho1 (below_size (mD1 GE142.out))); have n3_ := aA (bB BK142.out hb); have n4_ := aA (Kd.C_below (by repeat (first | (with_reducible exact HR164.out) | (with_reducible refine Kd.C_alloc ?_ _) | (with_reducible refine Kd.C_drewN ?_ _) | (with_reducible refine Kd.C_drew ?_) | exact HR164.out)) hb); have n5_ := aA (below_step (mD1 GE142.out) hb); clear HO145 BK142 HR164 HB; have HO145 := n0_; have HO168 := n1_; have HO173 := n2_; have BK142 := n3_; have HR164 := n4_; have HB := n5_; clear n0_ n1_ n2_ n3_ n4_ n5_; (try clear hb); (try clear hb2); (try clear hk); (try clear hi); (try clear ho0); (try clear ho1); obtain ⟨hcz26_0, hcz26_1, hcz26_2, hcz26_3, hcz26_4⟩ := bC5 BK142.out; obtain ⟨hfz26_0, hfz26_1, hfz26_2, hfz26_3, hfz26_4⟩ := bF5 BK142.out; obtain ⟨Ao27, co27, eo27⟩ := Kd.R_slice HO168.out; subst eo27; obtain ⟨Ao28, co28, eo28⟩ := Kd.R_slice HO173.out; subst eo28))
      refine bodyPost_ret (results_ct rfl _ _ gb142 27 #[.int .i64 t165, .slice Ao27 t166.length co27, .int .i64 t169, .int .i64 t170, .slice Ao28 t171.length co28] (0, 0) _ rfl (by (with_reducible repeat (first | refine blk_drewN ?_ _ | refine blk_drew ?_ | refine blk_alloc ?_ _)); have h_ := BK142.out; exact pK 4 (pK 3 (pK 2 (pK 1 (pK 0 (h_)))))) Tryz.underlying27 rfl (by kernel_rfl)) rfl ?_
      exact ⟨_, _, by first | rfl | (simp [errW_none, errW_some] <;> rfl) | (simp [*, errW_none, errW_some] <;> rfl), by (with_reducible repeat (first | apply Kd.R_alloc | apply Kd.R_drewN | apply Kd.R_drew)); exact Kd.R_mono (rF 4 (rF 3 (rF 2 (rF 1 (rF 0 (Kd.R_types HO168.out BK142.out (by decide))))))) (fun _ hk => trivial), by (with_reducible repeat (first | apply Kd.R_alloc | apply Kd.R_drewN | apply Kd.R_drew)); exact Kd.R_mono (rF 4 (rF 3 (rF 2 (rF 1 (rF 0 (Kd.R_types HO173.out BK142.out (by decide))))))) (fun _ hk => trivial), by repeat (first | (with_reducible first | exact HB.out | apply below_alloc | apply pw_below_drewN | apply below_drew1 | refine below_set ?_ GE142.out) | exact HB.out)⟩
     ·rw [if_neg c19] at H
      exact absurd H (by simp)
    ·rw [if_neg c18] at H
     have c18b0 : ((rdOf ByteArray.empty t143 0).toList == ([100, 111, 110, 101] : List UInt8)) = false := beq_eq_false_iff_ne.mpr c18
     have c18b1 : ((rdOf ByteArray.empty t143 0).toList != ([100, 111, 110, 101] : List UInt8)) = true := bne_iff_ne.mpr c18
     by_cases c29 : (rdOf ByteArray.empty t143 0).toList = ([104, 117, 115, 104] : List UInt8)
     ·rw [if_pos c29] at H
      have c29b0 : ((rdOf ByteArray.empty t143 0).toList == ([104, 117, 115, 104] : List UInt8)) = true := beq_iff_eq.mpr c29
      have c29b1 : ((rdOf ByteArray.empty t143 0).toList != ([104, 117, 115, 104] : List UInt8)) = false := bne_eq_false_iff_eq.mpr c29
      clear c29
      by_cases c30 : 1 ≤ (t143.length : Int)
      ·rw [if_pos c30] at H
       have c30b0 := eq_true c30
       have c30b1 := decide_eq_true c30
       clear c30
       obtain ⟨y175, hy175⟩ : ∃ y_ : List ByteArray, y_ = (t143.drop 1) := ⟨_, rfl⟩
       replace H : ((wire_hush.f k y175).bind fun bt179 => (some (bt179.1, bt179.2.1, bt179.2.2.1, bt179.2.2.2.1, bt179.2.2.2.2.1, bt179.2.2.2.2.2))) = some (r1, r2, r3, r4, r5, r6) := by first | (rw [hy175]; with_reducible exact H) | (have H2_ := (Option.bind_some _ _).symm.trans H; rw [hy175]; with_reducible exact H2_) | (have H2_ := (Option.bind_some _ _).symm.trans H; with_reducible exact H2_) | with_reducible exact H | (rw [hy175]; exact H) | exact H
       have Ny175 := aA hy175
       clear hy175
       replace H := Option.bind_eq_some_iff.mp H
       obtain ⟨⟨t179, t180, t183, t184, t185, t188⟩, A310, H⟩ := H
       replace H : (some (t179, t180, t183, t184, t185, t188)) = some (r1, r2, r3, r4, r5, r6) := H
       have A31 := aA A310
       clear A310
       simp only [Option.some.injEq, Prod.mk.injEq] at H
       obtain ⟨rfl, rfl, rfl, rfl, rfl, rfl⟩ := H
       go_enter Tryz.func10, Tryz.ntmps10
       go_wp2_with (first | ((with_reducible refine gate_dst (N := 2) rfl ?_); refine box_event ?hg (N := 2) ?hd (cs := #[.int .i64 0, .slice none 0 0, .int .i64 0, .int .i64 0, .slice none 0 0]) (t := 27) ?hr ?_; (case hd => rfl); (case hg => rfl); (case hr => first | (go_simp; done) | (go_simp; rfl)); intro gb142 hg w32 hbox hb; have n0_ := aA (below_step mB hb); have n1_ := aA (hbox); have n2_ := aA ((bZ hg mB)); have n3_ := aA ((bZ hg mB)); clear HB; have HB := n0_; have BK142 := n1_; have GW142 := n2_; have GE142 := n3_; clear n0_ n1_ n2_ n3_ hb hbox hg) | ((with_reducible refine gate_callee (f := 34) rfl ?_); refine goesL_ (some 10) rfl rfl Tryz.func34 (by kernel_rfl) rfl #[.string a0, .string (⟨#[32]⟩ : ByteArray)] rfl mS ?_; (with_reducible refine (strings_Split.calls a0 (⟨#[32]⟩ : ByteArray) t143 _ ?side1 A5.out).mono ?_); (case side1 => exact gok_below HG.out (mD1 GE142.out)); rintro e w33 ⟨v144, rfl, ho0, hb⟩; refine ⟨_, rfl, ?_⟩; have n0_ := aA (Kd.R_lower ho0 (below_size (mD1 GE142.out))); have n1_ := aA (bB BK142.out hb); have n2_ := aA (below_step (mD1 GE142.out) hb); clear BK142 HB; have HO145 := n0_; have BK142 := n1_; have HB := n2_; clear n0_ n1_ n2_; (try clear hb); (try clear hb2); (try clear hk); (try clear hi); (try clear ho0); obtain ⟨Ao34, co34, eo34⟩ := Kd.R_slice HO145.out; subst eo34; have p146 : 0 ≤ (0 : Int) := (by omega); have q146 : 0 < (t143.length : Int) := of_decide_eq_true (by first | (with_reducible assumption) | assumption); obtain ⟨ad146, e146, hx146_0⟩ := Kd.at_string (Kd.R_reads' HO145.out).2.2 0 p146 q146; cases e146; have qi146 : (0 < t143.length) = True := eq_true (by omega); (try rw [show ((0 : Int)).toNat = 0 from rfl] at hx146_0); (try rw [Addr.add_zero'] at hx146_0); replace p146 := eq_true p146; replace q146 := eq_true q146; have q35 : (1 : Int) ≤ ((t143.length : Int) : Int) := of_decide_eq_true (by first | (with_reducible assumption) | assumption); obtain ⟨i035, hi035, _, hsz35, _⟩ := info_parts info9; have hroom35 : t143.length ≤ co34 := (Kd.R_reads' HO145.out).2.1; have hC35 : Kd.C Kd.string _ (some ad146) t143.length t143 := (Kd.R_reads' HO145.out).2.2; have hcut35 := cut_from (P := Tryz.prog) 67 9 .i64 Tryz.underlying67 hi035 1 hsz35 (some ad146) t143.length co34 1 (by omega) q35; have hr35 := Kd.C_drop (m := (1 : Int).toNat) (c := co34) hC35 (by omega) hroom35; obtain ⟨A35, hA35⟩ : ∃ A1, A1 = (if co34 = (1 : Int).toNat then (some ad146) else ((some ad146) : Option Addr).map (·.add ((1 : Int).toNat * 1))) := ⟨_, rfl⟩; obtain ⟨c35, hc35⟩ : ∃ c1, c1 = co34 - (1 : Int).toNat := ⟨_, rfl⟩; have hy35 : y175.length = t143.length - (1 : Int).toNat := (by rw [Ny175.out, List.length_drop] <;> omega); rw [show (t143).drop (1 : Int).toNat = y175 from Ny175.out.symm] at hr35; replace hr35 : Kd.C Kd.string _ A35 y175.length y175 := (by rw [hA35]; exact hr35); rw [← hy35, ← hA35, ← hc35] at hcut35; have HR178 := aA hr35; have HC178 := aA (show y175.length ≤ c35 from by rw [hy35, hc35]; exact Nat.sub_le_sub_right hroom35 _); clear hr35 hC35 hroom35 hi035 hsz35 hc35; have KY35 := aA hy35; have KA35 := aA hA35; clear hy35 hA35; have KL35 := aA (show 1 ≤ t143.length from by omega); replace q35 := eq_true q35) | ((with_reducible refine gate_callee (f := 36) rfl ?_); refine goesL_ (some 32) rfl rfl Tryz.func36 (by kernel_rfl) rfl #[.slice A35 y175.length c35] rfl mS ?_; (with_reducible refine (wire_hush.calls k _ _ y175 t179 t180 t183 t184 t185 t188 _ ?side1 ?side2 ?side3 A31.out).mono ?_); (case side1 => exact gok_below HG.out (mD1 GE142.out)); (case side2 => repeat (first | exact (by repeat (first | (with_reducible exact HR178.out) | (with_reducible refine Kd.C_alloc ?_ _) | (with_reducible refine Kd.C_drewN ?_ _) | (with_reducible refine Kd.C_drew ?_) | exact HR178.out)) | (with_reducible refine Kd.C_alloc ?_ _) | (with_reducible refine Kd.C_drewN ?_ _) | (with_reducible refine Kd.C_drew ?_))); (case side3 => exact HC178.out); rintro e w36 ⟨v181, v186, rfl, ho0, ho1, hb⟩; refine ⟨_, rfl, ?_⟩; have n0_ := aA (Kd.R_below (mR HO145.out) hb); have n1_ := aA (Kd.R_lower ho0 (below_size (mD1 GE142.out))); have n2_ := aA (Kd.R_lower ho1 (below_size (mD1 GE142.out))); have n3_ := aA (bB BK142.out hb); have n4_ := aA (Kd.C_below (by repeat (first | (with_reducible exact HR178.out) | (with_reducible refine Kd.C_alloc ?_ _) | (with_reducible refine Kd.C_drewN ?_ _) | (with_reducible refine Kd.C_drew ?_) | exact HR178.out)) hb); have n5_ := aA (below_step (mD1 GE142.out) hb); clear HO145 BK142 HR178 HB; have HO145 := n0_; have HO182 := n1_; have HO187 := n2_; have BK142 := n3_; have HR178 := n4_; have HB := n5_; clear n0_ n1_ n2_ n3_ n4_ n5_; (try clear hb); (try clear hb2); (try clear hk); (try clear hi); (try clear ho0); (try clear ho1); obtain ⟨hcz37_0, hcz37_1, hcz37_2, hcz37_3, hcz37_4⟩ := bC5 BK142.out; obtain ⟨hfz37_0, hfz37_1, hfz37_2, hfz37_3, hfz37_4⟩ := bF5 BK142.out; obtain ⟨Ao38, co38, eo38⟩ := Kd.R_slice HO182.out; subst eo38; obtain ⟨Ao39, co39, eo39⟩ := Kd.R_slice HO187.out; subst eo39))
       refine bodyPost_ret (results_ct rfl _ _ gb142 27 #[.int .i64 t179, .slice Ao38 t180.length co38, .int .i64 t183, .int .i64 t184, .slice Ao39 t185.length co39] (0, 0) _ rfl (by (with_reducible repeat (first | refine blk_drewN ?_ _ | refine blk_drew ?_ | refine blk_alloc ?_ _)); have h_ := BK142.out; exact pK 4 (pK 3 (pK 2 (pK 1 (pK 0 (h_)))))) Tryz.underlying27 rfl (by kernel_rfl)) rfl ?_
       exact ⟨_, _, by first | rfl | (simp [errW_none, errW_some] <;> rfl) | (simp [*, errW_none, errW_some] <;> rfl), by (with_reducible repeat (first | apply Kd.R_alloc | apply Kd.R_drewN | apply Kd.R_drew)); exact Kd.R_mono (rF 4 (rF 3 (rF 2 (rF 1 (rF 0 (Kd.R_types HO182.out BK142.out (by decide))))))) (fun _ hk => trivial), by (with_reducible repeat (first | apply Kd.R_alloc | apply Kd.R_drewN | apply Kd.R_drew)); exact Kd.R_mono (rF 4 (rF 3 (rF 2 (rF 1 (rF 0 (Kd.R_types HO187.out BK142.out (by decide))))))) (fun _ hk => trivial), by repeat (first | (with_reducible first | exact HB.out | apply below_alloc | apply pw_below_drewN | apply below_drew1 | refine below_set ?_ GE142.out) | exact HB.out)⟩
      ·rw [if_neg c30] at H
       exact absurd H (by simp)
     ·rw [if_neg c29] at H
      have c29b0 : ((rdOf ByteArray.empty t143 0).toList == ([104, 117, 115, 104] : List UInt8)) = false := beq_eq_false_iff_ne.mpr c29
      have c29b1 : ((rdOf ByteArray.empty t143 0).toList != ([104, 117, 115, 104] : List UInt8)) = true := bne_iff_ne.mpr c29
      simp only [Option.some.injEq, Prod.mk.injEq] at H
      obtain ⟨rfl, rfl, rfl, rfl, rfl, rfl⟩ := H
      go_enter Tryz.func10, Tryz.ntmps10
      go_wp2_with (first | ((with_reducible refine gate_dst (N := 2) rfl ?_); refine box_event ?hg (N := 2) ?hd (cs := #[.int .i64 0, .slice none 0 0, .int .i64 0, .int .i64 0, .slice none 0 0]) (t := 27) ?hr ?_; (case hd => rfl); (case hg => rfl); (case hr => first | (go_simp; done) | (go_simp; rfl)); intro gb142 hg w40 hbox hb; have n0_ := aA (below_step mB hb); have n1_ := aA (hbox); have n2_ := aA ((bZ hg mB)); have n3_ := aA ((bZ hg mB)); clear HB; have HB := n0_; have BK142 := n1_; have GW142 := n2_; have GE142 := n3_; clear n0_ n1_ n2_ n3_ hb hbox hg) | ((with_reducible refine gate_callee (f := 34) rfl ?_); refine goesL_ (some 10) rfl rfl Tryz.func34 (by kernel_rfl) rfl #[.string a0, .string (⟨#[32]⟩ : ByteArray)] rfl mS ?_; (with_reducible refine (strings_Split.calls a0 (⟨#[32]⟩ : ByteArray) t143 _ ?side1 A5.out).mono ?_); (case side1 => exact gok_below HG.out (mD1 GE142.out)); rintro e w41 ⟨v144, rfl, ho0, hb⟩; refine ⟨_, rfl, ?_⟩; have n0_ := aA (Kd.R_lower ho0 (below_size (mD1 GE142.out))); have n1_ := aA (bB BK142.out hb); have n2_ := aA (below_step (mD1 GE142.out) hb); clear BK142 HB; have HO145 := n0_; have BK142 := n1_; have HB := n2_; clear n0_ n1_ n2_; (try clear hb); (try clear hb2); (try clear hk); (try clear hi); (try clear ho0); obtain ⟨Ao42, co42, eo42⟩ := Kd.R_slice HO145.out; subst eo42; have p146 : 0 ≤ (0 : Int) := (by omega); have q146 : 0 < (t143.length : Int) := of_decide_eq_true (by first | (with_reducible assumption) | assumption); obtain ⟨ad146, e146, hx146_0⟩ := Kd.at_string (Kd.R_reads' HO145.out).2.2 0 p146 q146; cases e146; have qi146 : (0 < t143.length) = True := eq_true (by omega); (try rw [show ((0 : Int)).toNat = 0 from rfl] at hx146_0); (try rw [Addr.add_zero'] at hx146_0); replace p146 := eq_true p146; replace q146 := eq_true q146; obtain ⟨hcz43_0, hcz43_1, hcz43_2, hcz43_3, hcz43_4⟩ := bC5 BK142.out; obtain ⟨hfz43_0, hfz43_1, hfz43_2, hfz43_3, hfz43_4⟩ := bF5 BK142.out))
      refine bodyPost_ret (results_ct rfl _ _ gb142 27 #[.int .i64 0, .slice none 0 0, .int .i64 0, .int .i64 0, .slice none 0 0] (0, 0) _ rfl (by (with_reducible repeat (first | refine blk_drewN ?_ _ | refine blk_drew ?_ | refine blk_alloc ?_ _)); have h_ := BK142.out; exact pK 4 (pK 3 (pK 2 (pK 1 (pK 0 (h_)))))) Tryz.underlying27 rfl (by kernel_rfl)) rfl ?_
      exact ⟨_, _, by first | rfl | (simp [errW_none, errW_some] <;> rfl) | (simp [*, errW_none, errW_some] <;> rfl), by first | exact Kd.R_nil _ _ _ _ _ | exact Kd.N_nil _ _ _ _ _ | exact Kd.V_nil _ _ _ _ _ | exact Kd.Q_nil _ _ _ _ _ | exact Kd.S_nil _ _ _ _ _, by first | exact Kd.R_nil _ _ _ _ _ | exact Kd.N_nil _ _ _ _ _ | exact Kd.V_nil _ _ _ _ _ | exact Kd.Q_nil _ _ _ _ _ | exact Kd.S_nil _ _ _ _ _, by repeat (first | (with_reducible first | exact HB.out | apply below_alloc | apply pw_below_drewN | apply below_drew1 | refine below_set ?_ GE142.out) | exact HB.out)⟩
  ·rw [if_neg c6] at H
   exact absurd H (by simp)
end Go.Proofs.YtjfknmlchdifjaaGreatDoorQ.P
namespace Go.Proofs.YtjfknmlchdifjaaGreatDoorQ.P
open Go.RowKit Go.Proofs.YtjfknmlchdifjaaGreatDoorW.PrintWords Go.Proofs.YtjfknmlchdifjaaGreatDoorW.PrintLast Go.Proofs.YtjfknmlchdifjaaGreatDoorW.PrintMore
attribute [local go_sem] max2_int min2_int max_two min_two max_three min_three max_four min_four
def foghornlaw12_alive.f (k : Nat)  : Option (Bool) := (wire_Parse.f k (⟨#[104, 117, 115, 104, 32, 53, 32, 57, 32, 97, 94, 119, 101, 32, 122, 63]⟩ : ByteArray)).bind fun bt330 => (if bt330.2.2.2.2.2 = 0 then (if bt330.1 = 2 then (if bt330.2.2.2.1 = 9 then (if (bt330.2.2.2.2.1.length : Int) = 2 then (if 0 < (bt330.2.2.2.2.1.length : Int) then (some (((rd_T32 bt330.2.2.2.2.1 0).f2).toList == ([119, 101] : List UInt8))) else (none)) else (some false)) else (some false)) else (some false)) else (some false))
theorem foghornlaw12_alive.mono : ∀ k, LeO (foghornlaw12_alive.f k ) (foghornlaw12_alive.f (k + 1) ) := by
 intro  k
 unfold foghornlaw12_alive.f
 repeat' first
   | (with_reducible exact wire_Parse.mono _ _)
   | (with_reducible exact LeO.refl _)
   | (with_reducible exact LeO.none _)
   | (with_reducible refine LeO.ite ?_ ?_)
   | (with_reducible refine LeO.bind ?_ (fun _ => ?_))
   | exact wire_Parse.mono _ _
   | exact LeO.none _
   | refine LeO.ite ?_ ?_
   | refine LeO.bind ?_ (fun _ => ?_)
set_option maxHeartbeats 8000000 in
set_option maxRecDepth 100000 in
theorem foghornlaw12_alive.callsT (k : Nat)  (r : Bool) (w : World) (hG : GOK w) (h : foghornlaw12_alive.f k  = some r) (hrt_ : r = true) :
  Calls Tryz.prog 15 #[] w fun e w' => e = .returned (.bool r) ∧ Below w.heap.size w w' := by
 have hu27 := Tryz.underlying27
 have HG := aA hG
 clear hG
 have HB := aA (Below.refl w.heap.size w)
 have H : ((wire_Parse.f k (⟨#[104, 117, 115, 104, 32, 53, 32, 57, 32, 97, 94, 119, 101, 32, 122, 63]⟩ : ByteArray)).bind fun bt330 => (if bt330.2.2.2.2.2 = 0 then (if bt330.1 = 2 then (if bt330.2.2.2.1 = 9 then (if (bt330.2.2.2.2.1.length : Int) = 2 then (if 0 < (bt330.2.2.2.2.1.length : Int) then (some (((rd_T32 bt330.2.2.2.2.1 0).f2).toList == ([119, 101] : List UInt8))) else (none)) else (some false)) else (some false)) else (some false)) else (some false))) = some r := h
 clear h
 replace H := Option.bind_eq_some_iff.mp H
 obtain ⟨⟨t330, t331, t334, t335, t336, t339⟩, A10, H⟩ := H
 have A1 := aA A10
 clear A10
 by_cases c2 : t339 = 0
 ·rw [if_pos c2] at H
  have c2b0 : (t339 == 0) = true := beq_iff_eq.mpr c2
  have c2b1 : (t339 != 0) = false := bne_eq_false_iff_eq.mpr c2
  clear c2
  by_cases c3 : t330 = 2
  ·rw [if_pos c3] at H
   have c3b0 : (t330 == 2) = true := beq_iff_eq.mpr c3
   have c3b1 : (t330 != 2) = false := bne_eq_false_iff_eq.mpr c3
   clear c3
   by_cases c4 : t335 = 9
   ·rw [if_pos c4] at H
    have c4b0 : (t335 == 9) = true := beq_iff_eq.mpr c4
    have c4b1 : (t335 != 9) = false := bne_eq_false_iff_eq.mpr c4
    clear c4
    by_cases c5 : (t336.length : Int) = 2
    ·rw [if_pos c5] at H
     have c5b0 : ((t336.length : Int) == 2) = true := beq_iff_eq.mpr c5
     have c5b1 : ((t336.length : Int) != 2) = false := bne_eq_false_iff_eq.mpr c5
     clear c5
     by_cases c6 : 0 < (t336.length : Int)
     ·rw [if_pos c6] at H
      have c6b0 : decide (0 < (t336.length : Int)) = true := decide_eq_true c6
      have c6b1 : decide (0 < t336.length) = true := decide_eq_true (by omega)
      clear c6
      obtain rfl := Option.some.inj H
      go_enter Tryz.func15, Tryz.ntmps15
      go_wp2_with (first | ((with_reducible refine gate_callee (f := 10) rfl ?_); refine goesL_ (some 4) rfl rfl Tryz.func10 (by kernel_rfl) rfl #[.string (⟨#[104, 117, 115, 104, 32, 53, 32, 57, 32, 97, 94, 119, 101, 32, 122, 63]⟩ : ByteArray)] rfl mS ?_; (with_reducible refine (wire_Parse.calls k (⟨#[104, 117, 115, 104, 32, 53, 32, 57, 32, 97, 94, 119, 101, 32, 122, 63]⟩ : ByteArray) t330 t331 t334 t335 t336 t339 _ ?side1 A1.out).mono ?_); (case side1 => exact gok_below HG.out mB); rintro e w7 ⟨v332, v337, rfl, ho0, ho1, hb⟩; refine ⟨_, rfl, ?_⟩; have n0_ := aA (Kd.R_lower ho0 (below_size mB)); have n1_ := aA (Kd.R_lower ho1 (below_size mB)); have n2_ := aA (below_step mB hb); clear HB; have HO333 := n0_; have HO338 := n1_; have HB := n2_; clear n0_ n1_ n2_; (try clear hb); (try clear hb2); (try clear hk); (try clear hi); (try clear ho0); (try clear ho1)) | ((with_reducible refine gate_dst (N := 1) rfl ?_); (try (refine gate_guard (by rfl) ?_; dsimp only)); refine box_event ?hg (N := 1) ?hd (cs := #[.int .i64 0, .slice none 0 0, .int .i64 0, .int .i64 0, .slice none 0 0]) (t := 27) ?hr ?_; (case hd => rfl); (case hg => rfl); (case hr => first | (go_simp; done) | (go_simp; rfl)); intro gb340 hg w8 hbox hb; have n0_ := aA (Kd.R_below (mR HO333.out) hb); have n1_ := aA (Kd.R_below (mR HO338.out) hb); have n2_ := aA (below_step mB hb); have n3_ := aA (hbox); have n4_ := aA ((bZ hg mB)); have n5_ := aA ((bZ hg mB)); clear HO333 HO338 HB; have HO333 := n0_; have HO338 := n1_; have HB := n2_; have BK340 := n3_; have GW340 := n4_; have GE340 := n5_; clear n0_ n1_ n2_ n3_ n4_ n5_ hb hbox hg; obtain ⟨hcz9_0, hcz9_1, hcz9_2, hcz9_3, hcz9_4⟩ := bC5 BK340.out; obtain ⟨hfz9_0, hfz9_1, hfz9_2, hfz9_3, hfz9_4⟩ := bF5 BK340.out; obtain ⟨Ao10, co10, eo10⟩ := Kd.R_slice HO333.out; subst eo10; obtain ⟨Ao11, co11, eo11⟩ := Kd.R_slice HO338.out; subst eo11; have p341 : 0 ≤ (0 : Int) := (by omega); have q341 : 0 < (t336.length : Int) := of_decide_eq_true (by first | (with_reducible assumption) | assumption); obtain ⟨ad341, e341, hx341_0, hx341_1, hx341_2⟩ := at_T32 (Kd.R_reads' HO338.out).2.2 0 p341 q341; cases e341; have qi341 : (0 < t336.length) = True := eq_true (by omega); (try rw [show ((0 : Int)).toNat = 0 from rfl] at hx341_0); (try rw [show 0 * 3 = 0 from rfl] at hx341_0); (try rw [Addr.add_zero'] at hx341_0); (try rw [show ((0 : Int)).toNat = 0 from rfl] at hx341_1); (try rw [show 0 * 3 = 0 from rfl] at hx341_1); (try rw [Addr.add_zero'] at hx341_1); (try rw [show ((0 : Int)).toNat = 0 from rfl] at hx341_2); (try rw [show 0 * 3 = 0 from rfl] at hx341_2); (try rw [Addr.add_zero'] at hx341_2); have hn341_0 : ad341.block ≠ gb340 := Kd.own_blk (Kd.R_ne HO338.out BK340.out (by decide)); have hn341_1 : ad341.block ≠ gb340 := Kd.own_blk (Kd.R_ne HO338.out BK340.out (by decide)); have hn341_2 : ad341.block ≠ gb340 := Kd.own_blk (Kd.R_ne HO338.out BK340.out (by decide)); have hn341_3 : ad341.block ≠ gb340 := Kd.own_blk (Kd.R_ne HO338.out BK340.out (by decide)); have hn341_4 : ad341.block ≠ gb340 := Kd.own_blk (Kd.R_ne HO338.out BK340.out (by decide)); replace hx341_0 := (cell_far (p := ⟨gb340, 0, none⟩) (by first | (rw [add_block]; exact hn341_0) | (show (Addr.add _ _).block ≠ _; rw [add_block]; exact hn341_0) | exact hn341_0) (.int .i64 t330)).trans hx341_0; replace hx341_1 := (cell_far (p := ⟨gb340, 0, none⟩) (by first | (rw [add_block]; exact hn341_0) | (show (Addr.add _ _).block ≠ _; rw [add_block]; exact hn341_0) | exact hn341_0) (.int .i64 t330)).trans hx341_1; replace hx341_2 := (cell_far (p := ⟨gb340, 0, none⟩) (by first | (rw [add_block]; exact hn341_0) | (show (Addr.add _ _).block ≠ _; rw [add_block]; exact hn341_0) | exact hn341_0) (.int .i64 t330)).trans hx341_2; replace hx341_0 := (cell_far (p := ⟨gb340, 1, none⟩) (by first | (rw [add_block]; exact hn341_1) | (show (Addr.add _ _).block ≠ _; rw [add_block]; exact hn341_1) | exact hn341_1) (.slice Ao10 t331.length co10)).trans hx341_0; replace hx341_1 := (cell_far (p := ⟨gb340, 1, none⟩) (by first | (rw [add_block]; exact hn341_1) | (show (Addr.add _ _).block ≠ _; rw [add_block]; exact hn341_1) | exact hn341_1) (.slice Ao10 t331.length co10)).trans hx341_1; replace hx341_2 := (cell_far (p := ⟨gb340, 1, none⟩) (by first | (rw [add_block]; exact hn341_1) | (show (Addr.add _ _).block ≠ _; rw [add_block]; exact hn341_1) | exact hn341_1) (.slice Ao10 t331.length co10)).trans hx341_2; replace hx341_0 := (cell_far (p := ⟨gb340, 2, none⟩) (by first | (rw [add_block]; exact hn341_2) | (show (Addr.add _ _).block ≠ _; rw [add_block]; exact hn341_2) | exact hn341_2) (.int .i64 t334)).trans hx341_0; replace hx341_1 := (cell_far (p := ⟨gb340, 2, none⟩) (by first | (rw [add_block]; exact hn341_2) | (show (Addr.add _ _).block ≠ _; rw [add_block]; exact hn341_2) | exact hn341_2) (.int .i64 t334)).trans hx341_1; replace hx341_2 := (cell_far (p := ⟨gb340, 2, none⟩) (by first | (rw [add_block]; exact hn341_2) | (show (Addr.add _ _).block ≠ _; rw [add_block]; exact hn341_2) | exact hn341_2) (.int .i64 t334)).trans hx341_2; replace hx341_0 := (cell_far (p := ⟨gb340, 3, none⟩) (by first | (rw [add_block]; exact hn341_3) | (show (Addr.add _ _).block ≠ _; rw [add_block]; exact hn341_3) | exact hn341_3) (.int .i64 t335)).trans hx341_0; replace hx341_1 := (cell_far (p := ⟨gb340, 3, none⟩) (by first | (rw [add_block]; exact hn341_3) | (show (Addr.add _ _).block ≠ _; rw [add_block]; exact hn341_3) | exact hn341_3) (.int .i64 t335)).trans hx341_1; replace hx341_2 := (cell_far (p := ⟨gb340, 3, none⟩) (by first | (rw [add_block]; exact hn341_3) | (show (Addr.add _ _).block ≠ _; rw [add_block]; exact hn341_3) | exact hn341_3) (.int .i64 t335)).trans hx341_2; replace hx341_0 := (cell_far (p := ⟨gb340, 4, none⟩) (by first | (rw [add_block]; exact hn341_4) | (show (Addr.add _ _).block ≠ _; rw [add_block]; exact hn341_4) | exact hn341_4) (.slice (some ad341) t336.length co11)).trans hx341_0; replace hx341_1 := (cell_far (p := ⟨gb340, 4, none⟩) (by first | (rw [add_block]; exact hn341_4) | (show (Addr.add _ _).block ≠ _; rw [add_block]; exact hn341_4) | exact hn341_4) (.slice (some ad341) t336.length co11)).trans hx341_1; replace hx341_2 := (cell_far (p := ⟨gb340, 4, none⟩) (by first | (rw [add_block]; exact hn341_4) | (show (Addr.add _ _).block ≠ _; rw [add_block]; exact hn341_4) | exact hn341_4) (.slice (some ad341) t336.length co11)).trans hx341_2; clear hn341_0 hn341_1 hn341_2 hn341_3 hn341_4; replace p341 := eq_true p341; replace q341 := eq_true q341))
      go_ret
      exact ⟨by first | rfl | (simp [errW_none, errW_some] <;> rfl) | (simp [*, errW_none, errW_some] <;> rfl), by repeat (first | (with_reducible first | exact HB.out | apply below_alloc | apply pw_below_drewN | apply below_drew1 | refine below_set ?_ GE340.out) | exact HB.out)⟩
     ·rw [if_neg c6] at H
      exact absurd H (by simp)
    ·rw [if_neg c5] at H
     have c5b0 : ((t336.length : Int) == 2) = false := beq_eq_false_iff_ne.mpr c5
     have c5b1 : ((t336.length : Int) != 2) = true := bne_iff_ne.mpr c5
     exact absurd (Option.some.inj H) (by rw [hrt_]; decide)
   ·rw [if_neg c4] at H
    have c4b0 : (t335 == 9) = false := beq_eq_false_iff_ne.mpr c4
    have c4b1 : (t335 != 9) = true := bne_iff_ne.mpr c4
    exact absurd (Option.some.inj H) (by rw [hrt_]; decide)
  ·rw [if_neg c3] at H
   have c3b0 : (t330 == 2) = false := beq_eq_false_iff_ne.mpr c3
   have c3b1 : (t330 != 2) = true := bne_iff_ne.mpr c3
   exact absurd (Option.some.inj H) (by rw [hrt_]; decide)
 ·rw [if_neg c2] at H
  have c2b0 : (t339 == 0) = false := beq_eq_false_iff_ne.mpr c2
  have c2b1 : (t339 != 0) = true := bne_iff_ne.mpr c2
  exact absurd (Option.some.inj H) (by rw [hrt_]; decide)
end Go.Proofs.YtjfknmlchdifjaaGreatDoorQ.P
namespace Go.Proofs.YtjfknmlchdifjaaGreatDoorQ.P
open Go.RowKit Go.Proofs.YtjfknmlchdifjaaGreatDoorW.PrintWords Go.Proofs.YtjfknmlchdifjaaGreatDoorW.PrintLast Go.Proofs.YtjfknmlchdifjaaGreatDoorW.PrintMore
attribute [local go_sem] max2_int min2_int max_two min_two max_three min_three max_four min_four
def foghornref12_Words.l0 : Nat → ByteArray → List ByteArray → Int → Int → Option (List ByteArray)
 | 0, _, _, _, _ => none
 | k + 1, x0, x3, x4, x5 => if x5 < (x0.size : Int) then (if 0 ≤ x5 then (if (bt x0 x5) = 32 then (if 0 ≤ x4 then (if x4 ≤ x5 then (if x5 ≤ (x0.size : Int) then (if x3.length < 8796093022208 then (foghornref12_Words.l0 k x0 (x3 ++ [x0.extract (x4 : Int).toNat (x5 : Int).toNat]) (wrap64 (x5 + 1)) (wrap64 (x5 + 1))) else (none)) else (none)) else (none)) else (none)) else (foghornref12_Words.l0 k x0 x3 x4 (wrap64 (x5 + 1)))) else (none)) else (if 0 ≤ x4 then (if x4 ≤ (x0.size : Int) then (if x3.length < 8796093022208 then (some (x3 ++ [x0.extract (x4 : Int).toNat x0.size])) else (none)) else (none)) else (none))
def foghornref12_Words.f (k : Nat) (a0 : ByteArray) : Option (List ByteArray) := foghornref12_Words.l0 k a0 (([] : List ByteArray)) 0 0
theorem foghornref12_Words.mono_l : ∀ k, (∀ y0 y1 y2 y3, LeO (foghornref12_Words.l0 k y0 y1 y2 y3) (foghornref12_Words.l0 (k + 1) y0 y1 y2 y3))
 | 0 => fun _ _ _ _ r h => by simp [foghornref12_Words.l0] at h
 | k + 1 => by
  have ih0 := foghornref12_Words.mono_l k
  ·intro y0 y1 y2 y3
   unfold foghornref12_Words.l0
   repeat' first
   | (with_reducible exact ih0 _ _ _ _)
   | (with_reducible exact LeO.refl _)
   | (with_reducible exact LeO.none _)
   | (with_reducible refine LeO.ite ?_ ?_)
   | (with_reducible refine LeO.bind ?_ (fun _ => ?_))
   | exact ih0 _ _ _ _
   | exact LeO.none _
   | refine LeO.ite ?_ ?_
   | refine LeO.bind ?_ (fun _ => ?_)
theorem foghornref12_Words.mono : ∀ a0 k, LeO (foghornref12_Words.f k a0) (foghornref12_Words.f (k + 1) a0) := by
 intro a0 k
 have ih0 := foghornref12_Words.mono_l k
 unfold foghornref12_Words.f
 repeat' first
   | (with_reducible exact ih0 _ _ _ _)
   | (with_reducible exact LeO.refl _)
   | (with_reducible exact LeO.none _)
   | (with_reducible refine LeO.ite ?_ ?_)
   | (with_reducible refine LeO.bind ?_ (fun _ => ?_))
   | exact ih0 _ _ _ _
   | exact LeO.none _
   | refine LeO.ite ?_ ?_
   | refine LeO.bind ?_ (fun _ => ?_)
end Go.Proofs.YtjfknmlchdifjaaGreatDoorQ.P
namespace Go.Proofs.YtjfknmlchdifjaaGreatDoorQ.P
open Go.RowKit Go.Proofs.YtjfknmlchdifjaaGreatDoorW.PrintWords Go.Proofs.YtjfknmlchdifjaaGreatDoorW.PrintLast Go.Proofs.YtjfknmlchdifjaaGreatDoorW.PrintMore
attribute [local go_sem] max2_int min2_int max_two min_two max_three min_three max_four min_four
def foghornref10_Name.l0 : Nat → ByteArray → Int → Option (Bool)
 | 0, _, _ => none
 | k + 1, x0, x3 => if x3 < (x0.size : Int) then (if 0 ≤ x3 then (if (bt x0 x3) < 97 then (some false) else (if (bt x0 x3) > 122 then (some false) else (foghornref10_Name.l0 k x0 (wrap64 (x3 + 1))))) else (none)) else (if (x0.size : Int) ≥ 1 then (some (decide ((x0.size : Int) ≤ 8))) else (some false))
def foghornref10_Name.f (k : Nat) (a0 : ByteArray) : Option (Bool) := foghornref10_Name.l0 k a0 0
theorem foghornref10_Name.mono_l : ∀ k, (∀ y0 y1, LeO (foghornref10_Name.l0 k y0 y1) (foghornref10_Name.l0 (k + 1) y0 y1))
 | 0 => fun _ _ r h => by simp [foghornref10_Name.l0] at h
 | k + 1 => by
  have ih0 := foghornref10_Name.mono_l k
  ·intro y0 y1
   unfold foghornref10_Name.l0
   repeat' first
   | (with_reducible exact ih0 _ _)
   | (with_reducible exact LeO.refl _)
   | (with_reducible exact LeO.none _)
   | (with_reducible refine LeO.ite ?_ ?_)
   | (with_reducible refine LeO.bind ?_ (fun _ => ?_))
   | exact ih0 _ _
   | exact LeO.none _
   | refine LeO.ite ?_ ?_
   | refine LeO.bind ?_ (fun _ => ?_)
theorem foghornref10_Name.mono : ∀ a0 k, LeO (foghornref10_Name.f k a0) (foghornref10_Name.f (k + 1) a0) := by
 intro a0 k
 have ih0 := foghornref10_Name.mono_l k
 unfold foghornref10_Name.f
 repeat' first
   | (with_reducible exact ih0 _ _)
   | (with_reducible exact LeO.refl _)
   | (with_reducible exact LeO.none _)
   | (with_reducible refine LeO.ite ?_ ?_)
   | (with_reducible refine LeO.bind ?_ (fun _ => ?_))
   | exact ih0 _ _
   | exact LeO.none _
   | refine LeO.ite ?_ ?_
   | refine LeO.bind ?_ (fun _ => ?_)
end Go.Proofs.YtjfknmlchdifjaaGreatDoorQ.P
namespace Go.Proofs.YtjfknmlchdifjaaGreatDoorQ.P
open Go.RowKit Go.Proofs.YtjfknmlchdifjaaGreatDoorW.PrintWords Go.Proofs.YtjfknmlchdifjaaGreatDoorW.PrintLast Go.Proofs.YtjfknmlchdifjaaGreatDoorW.PrintMore
attribute [local go_sem] max2_int min2_int max_two min_two max_three min_three max_four min_four
def foghornref10_Value.l0 : Nat → ByteArray → Int → Option (Bool)
 | 0, _, _ => none
 | k + 1, x0, x3 => if x3 < (x0.size : Int) then (if 0 ≤ x3 then (if (bt x0 x3) ≥ 97 then (if (bt x0 x3) ≤ 122 then (foghornref10_Value.l0 k x0 (wrap64 (x3 + 1))) else (if (bt x0 x3) ≥ 48 then (if (bt x0 x3) ≤ 57 then (foghornref10_Value.l0 k x0 (wrap64 (x3 + 1))) else (if ((bt x0 x3) = 45) then (foghornref10_Value.l0 k x0 (wrap64 (x3 + 1))) else (some false))) else (if ((bt x0 x3) = 45) then (foghornref10_Value.l0 k x0 (wrap64 (x3 + 1))) else (some false)))) else (if (bt x0 x3) ≥ 48 then (if (bt x0 x3) ≤ 57 then (foghornref10_Value.l0 k x0 (wrap64 (x3 + 1))) else (if ((bt x0 x3) = 45) then (foghornref10_Value.l0 k x0 (wrap64 (x3 + 1))) else (some false))) else (if ((bt x0 x3) = 45) then (foghornref10_Value.l0 k x0 (wrap64 (x3 + 1))) else (some false)))) else (none)) else (some (decide ((x0.size : Int) ≤ 8)))
def foghornref10_Value.f (k : Nat) (a0 : ByteArray) : Option (Bool) := foghornref10_Value.l0 k a0 0
theorem foghornref10_Value.mono_l : ∀ k, (∀ y0 y1, LeO (foghornref10_Value.l0 k y0 y1) (foghornref10_Value.l0 (k + 1) y0 y1))
 | 0 => fun _ _ r h => by simp [foghornref10_Value.l0] at h
 | k + 1 => by
  have ih0 := foghornref10_Value.mono_l k
  ·intro y0 y1
   unfold foghornref10_Value.l0
   repeat' first
   | (with_reducible exact ih0 _ _)
   | (with_reducible exact LeO.refl _)
   | (with_reducible exact LeO.none _)
   | (with_reducible refine LeO.ite ?_ ?_)
   | (with_reducible refine LeO.bind ?_ (fun _ => ?_))
   | exact ih0 _ _
   | exact LeO.none _
   | refine LeO.ite ?_ ?_
   | refine LeO.bind ?_ (fun _ => ?_)
theorem foghornref10_Value.mono : ∀ a0 k, LeO (foghornref10_Value.f k a0) (foghornref10_Value.f (k + 1) a0) := by
 intro a0 k
 have ih0 := foghornref10_Value.mono_l k
 unfold foghornref10_Value.f
 repeat' first
   | (with_reducible exact ih0 _ _)
   | (with_reducible exact LeO.refl _)
   | (with_reducible exact LeO.none _)
   | (with_reducible refine LeO.ite ?_ ?_)
   | (with_reducible refine LeO.bind ?_ (fun _ => ?_))
   | exact ih0 _ _
   | exact LeO.none _
   | refine LeO.ite ?_ ?_
   | refine LeO.bind ?_ (fun _ => ?_)
end Go.Proofs.YtjfknmlchdifjaaGreatDoorQ.P
namespace Go.Proofs.YtjfknmlchdifjaaGreatDoorQ.P
open Go.RowKit Go.Proofs.YtjfknmlchdifjaaGreatDoorW.PrintWords Go.Proofs.YtjfknmlchdifjaaGreatDoorW.PrintLast Go.Proofs.YtjfknmlchdifjaaGreatDoorW.PrintMore
attribute [local go_sem] max2_int min2_int max_two min_two max_three min_three max_four min_four
def foghornref12_label.l0 : Nat → ByteArray → Int → Option (ByteArray × ByteArray × Bool)
 | 0, _, _ => none
 | k + 1, x0, x4 => if x4 < (x0.size : Int) then (if 0 ≤ x4 then (if (bt x0 x4) = 61 then (if x4 ≤ (x0.size : Int) then (if 0 ≤ (wrap64 (x4 + 1)) then (if (wrap64 (x4 + 1)) ≤ (x0.size : Int) then ((foghornref10_Name.f k (x0.extract 0 (x4 : Int).toNat)).bind fun t200 => (if t200 = true then ((foghornref10_Value.f k (x0.extract ((wrap64 (x4 + 1)) : Int).toNat x0.size)).bind fun t201 => (some (x0.extract 0 (x4 : Int).toNat, x0.extract ((wrap64 (x4 + 1)) : Int).toNat x0.size, t201))) else (some (x0.extract 0 (x4 : Int).toNat, x0.extract ((wrap64 (x4 + 1)) : Int).toNat x0.size, false)))) else (none)) else (none)) else (none)) else (foghornref12_label.l0 k x0 (wrap64 (x4 + 1)))) else (none)) else (some ((⟨#[]⟩ : ByteArray), (⟨#[]⟩ : ByteArray), false))
def foghornref12_label.f (k : Nat) (a0 : ByteArray) : Option (ByteArray × ByteArray × Bool) := foghornref12_label.l0 k a0 0
theorem foghornref12_label.mono_l : ∀ k, (∀ y0 y1, LeO (foghornref12_label.l0 k y0 y1) (foghornref12_label.l0 (k + 1) y0 y1))
 | 0 => fun _ _ r h => by simp [foghornref12_label.l0] at h
 | k + 1 => by
  have ih0 := foghornref12_label.mono_l k
  ·intro y0 y1
   unfold foghornref12_label.l0
   repeat' first
   | (with_reducible exact ih0 _ _)
   | (with_reducible exact foghornref10_Name.mono _ _)
   | (with_reducible exact foghornref10_Value.mono _ _)
   | (with_reducible exact LeO.refl _)
   | (with_reducible exact LeO.none _)
   | (with_reducible refine LeO.ite ?_ ?_)
   | (with_reducible refine LeO.bind ?_ (fun _ => ?_))
   | exact ih0 _ _
   | exact foghornref10_Name.mono _ _
   | exact foghornref10_Value.mono _ _
   | exact LeO.none _
   | refine LeO.ite ?_ ?_
   | refine LeO.bind ?_ (fun _ => ?_)
theorem foghornref12_label.mono : ∀ a0 k, LeO (foghornref12_label.f k a0) (foghornref12_label.f (k + 1) a0) := by
 intro a0 k
 have ih0 := foghornref12_label.mono_l k
 unfold foghornref12_label.f
 repeat' first
   | (with_reducible exact ih0 _ _)
   | (with_reducible exact foghornref10_Name.mono _ _)
   | (with_reducible exact foghornref10_Value.mono _ _)
   | (with_reducible exact LeO.refl _)
   | (with_reducible exact LeO.none _)
   | (with_reducible refine LeO.ite ?_ ?_)
   | (with_reducible refine LeO.bind ?_ (fun _ => ?_))
   | exact ih0 _ _
   | exact foghornref10_Name.mono _ _
   | exact foghornref10_Value.mono _ _
   | exact LeO.none _
   | refine LeO.ite ?_ ?_
   | refine LeO.bind ?_ (fun _ => ?_)
def foghornref12_label.T5 : Bool × List (List Nat × List Nat) := (true, [([], []), ([], []), ([0, 1], [0, 1]), ([], []), ([], []), ([4], [4]), ([3, 5], [3, 5]), ([2, 6], [2, 6]), ([], []), ([8, 7, 0, 1, 2, 3, 4, 5, 6, 7, 8], [7, 8])])
def foghornref12_label.B5 : List Nat := [0, 0, 3, 0, 0, 16, 56, 127, 0, 511]
theorem foghornref12_label.tab5 : rtab .any (opsOf Tryz.f77 5) = foghornref12_label.T5 := by kernel_rfl
theorem foghornref12_label.bits5 : waitsOk foghornref12_label.T5.2 foghornref12_label.B5 = true := by kernel_rfl
end Go.Proofs.YtjfknmlchdifjaaGreatDoorQ.P
namespace Go.Proofs.YtjfknmlchdifjaaGreatDoorQ.P
open Go.RowKit Go.Proofs.YtjfknmlchdifjaaGreatDoorW.PrintWords Go.Proofs.YtjfknmlchdifjaaGreatDoor
def foghornref10_each.f (l0 : List S52) : Option Bool := if labsOkB l0 = true then some (eachB (l0.map toLab)) else none
def foghornref10_Right.f (l0 : List S52) : Option Bool := if labsOkB l0 = true then some (labsB (l0.map toLab)) else none
end Go.Proofs.YtjfknmlchdifjaaGreatDoorQ.P
namespace Go.Proofs.YtjfknmlchdifjaaGreatDoorQ.P
open Go.RowKit Go.Proofs.YtjfknmlchdifjaaGreatDoorW.PrintWords Go.Proofs.YtjfknmlchdifjaaGreatDoorW.PrintLast Go.Proofs.YtjfknmlchdifjaaGreatDoorW.PrintMore
attribute [local go_sem] max2_int min2_int max_two min_two max_three min_three max_four min_four
mutual
def foghornref10_Sort.l0 : Nat → List (S52) → List (S52) → Int → Int → Option ((List (S52)) × Int)
 | 0, _, _, _, _ => none
 | k + 1, x4, x15, x16, x17 => if x17 < x16 then (if 0 ≤ x17 then (if x17 < (x15.length : Int) then (foghornref10_Sort.l1 k (([] : List (S52))) false x15 x16 x17 x4 (x4.length : Int) 0 ((rd_T52 x15 x17).f0) ((rd_T52 x15 x17).f1)) else (none)) else (none)) else (some (x4, 0))
def foghornref10_Sort.l1 : Nat → List (S52) → Bool → List (S52) → Int → Int → List (S52) → Int → Int → ByteArray → ByteArray → Option ((List (S52)) × Int)
 | 0, _, _, _, _, _, _, _, _, _, _ => none
 | k + 1, x7, x8, x15, x16, x17, x22, x23, x24, x208000, x208001 => if x24 < x23 then (if 0 ≤ x24 then (if x24 < (x22.length : Int) then (if x208000.toList = ((rd_T52 x22 x24).f0).toList then (some (([] : List (S52)), 11)) else (if x8 = true then (if x7.length < 4398046511104 then (foghornref10_Sort.l1 k (x7 ++ [(⟨(rd_T52 x22 x24).f0, (rd_T52 x22 x24).f1⟩ : S52)]) x8 x15 x16 x17 x22 x23 (wrap64 (x24 + 1)) x208000 x208001) else (none)) else (if (Op.bytesLess x208000.toList (((rd_T52 x22 x24).f0).toList)) = true then (if x7.length < 4398046511104 then ((some (x7 ++ [(⟨x208000, x208001⟩ : S52)] : List (S52))).bind fun y219 => (if y219.length < 4398046511104 then (foghornref10_Sort.l1 k (y219 ++ [(⟨(rd_T52 x22 x24).f0, (rd_T52 x22 x24).f1⟩ : S52)]) true x15 x16 x17 x22 x23 (wrap64 (x24 + 1)) x208000 x208001) else (none))) else (none)) else (if x7.length < 4398046511104 then (foghornref10_Sort.l1 k (x7 ++ [(⟨(rd_T52 x22 x24).f0, (rd_T52 x22 x24).f1⟩ : S52)]) x8 x15 x16 x17 x22 x23 (wrap64 (x24 + 1)) x208000 x208001) else (none))))) else (none)) else (none)) else (if x8 = true then (foghornref10_Sort.l0 k x7 x15 x16 (wrap64 (x17 + 1))) else (if x7.length < 4398046511104 then (foghornref10_Sort.l0 k (x7 ++ [(⟨x208000, x208001⟩ : S52)]) x15 x16 (wrap64 (x17 + 1))) else (none)))
end
def foghornref10_Sort.f (k : Nat) (l0 : List (S52)) : Option ((List (S52)) × Int) := (foghornref10_each.f l0).bind fun t202 => (if t202 = true then (foghornref10_Sort.l0 k (([] : List (S52))) l0 (l0.length : Int) 0) else (some (([] : List (S52)), 1)))
theorem foghornref10_Sort.mono_l : ∀ k, (∀ y0 y1 y2 y3, LeO (foghornref10_Sort.l0 k y0 y1 y2 y3) (foghornref10_Sort.l0 (k + 1) y0 y1 y2 y3)) ∧ (∀ y0 y1 y2 y3 y4 y5 y6 y7 y8 y9, LeO (foghornref10_Sort.l1 k y0 y1 y2 y3 y4 y5 y6 y7 y8 y9) (foghornref10_Sort.l1 (k + 1) y0 y1 y2 y3 y4 y5 y6 y7 y8 y9))
 | 0 => ⟨fun _ _ _ _ r h => by simp [foghornref10_Sort.l0] at h, fun _ _ _ _ _ _ _ _ _ _ r h => by simp [foghornref10_Sort.l1] at h⟩
 | k + 1 => by
  obtain ⟨ih0, ih1⟩ := foghornref10_Sort.mono_l k
  refine ⟨?_, ?_⟩
  ·intro y0 y1 y2 y3
   unfold foghornref10_Sort.l0
   repeat' first
   | (with_reducible exact ih0 _ _ _ _)
   | (with_reducible exact ih1 _ _ _ _ _ _ _ _ _ _)
   | (with_reducible exact LeO.refl _)
   | (with_reducible exact LeO.none _)
   | (with_reducible refine LeO.ite ?_ ?_)
   | (with_reducible refine LeO.bind ?_ (fun _ => ?_))
   | exact ih0 _ _ _ _
   | exact ih1 _ _ _ _ _ _ _ _ _ _
   | exact LeO.none _
   | refine LeO.ite ?_ ?_
   | refine LeO.bind ?_ (fun _ => ?_)
  ·intro y0 y1 y2 y3 y4 y5 y6 y7 y8 y9
   unfold foghornref10_Sort.l1
   repeat' first
   | (with_reducible exact ih0 _ _ _ _)
   | (with_reducible exact ih1 _ _ _ _ _ _ _ _ _ _)
   | (with_reducible exact LeO.refl _)
   | (with_reducible exact LeO.none _)
   | (with_reducible refine LeO.ite ?_ ?_)
   | (with_reducible refine LeO.bind ?_ (fun _ => ?_))
   | exact ih0 _ _ _ _
   | exact ih1 _ _ _ _ _ _ _ _ _ _
   | exact LeO.none _
   | refine LeO.ite ?_ ?_
   | refine LeO.bind ?_ (fun _ => ?_)
theorem foghornref10_Sort.mono : ∀ a0 k, LeO (foghornref10_Sort.f k a0) (foghornref10_Sort.f (k + 1) a0) := by
 intro a0 k
 obtain ⟨ih0, ih1⟩ := foghornref10_Sort.mono_l k
 unfold foghornref10_Sort.f
 repeat' first
   | (with_reducible exact ih0 _ _ _ _)
   | (with_reducible exact ih1 _ _ _ _ _ _ _ _ _ _)
   | (with_reducible exact LeO.refl _)
   | (with_reducible exact LeO.none _)
   | (with_reducible refine LeO.ite ?_ ?_)
   | (with_reducible refine LeO.bind ?_ (fun _ => ?_))
   | exact ih0 _ _ _ _
   | exact ih1 _ _ _ _ _ _ _ _ _ _
   | exact LeO.none _
   | refine LeO.ite ?_ ?_
   | refine LeO.bind ?_ (fun _ => ?_)
end Go.Proofs.YtjfknmlchdifjaaGreatDoorQ.P
namespace Go.Proofs.YtjfknmlchdifjaaGreatDoorQ.P
open Go.RowKit Go.Proofs.YtjfknmlchdifjaaGreatDoorW.PrintWords Go.Proofs.YtjfknmlchdifjaaGreatDoorW.PrintLast Go.Proofs.YtjfknmlchdifjaaGreatDoorW.PrintMore
attribute [local go_sem] max2_int min2_int max_two min_two max_three min_three max_four min_four
def foghornref12_alert.l0 : Nat → Int → List (S52) → List ByteArray → Int → Int → Option (Int × (List (S52)) × Int × Int × (List (S32)) × Int)
 | 0, _, _, _, _, _ => none
 | k + 1, x0, x6, x14, x15, x16 => if x16 < x15 then (if 0 ≤ x16 then (if x16 < (x14.length : Int) then ((foghornref12_label.f k (rdOf ByteArray.empty x14 x16)).bind fun bt233 => (if bt233.2.2 = true then (if x6.length < 4398046511104 then (foghornref12_alert.l0 k x0 (x6 ++ [(⟨bt233.1, bt233.2.1⟩ : S52)]) x14 x15 (wrap64 (x16 + 1))) else (none)) else (some (0, ([] : List (S52)), 0, 0, ([] : List (S32)), 13)))) else (none)) else (none)) else ((foghornref10_Sort.f k x6).bind fun bt240 => (if bt240.2 = 0 then (some (x0, bt240.1, 0, 0, ([] : List (S32)), 0)) else (some (0, ([] : List (S52)), 0, 0, ([] : List (S32)), bt240.2))))
def foghornref12_alert.f (k : Nat) (a0 : Int) (l1 : List ByteArray) : Option (Int × (List (S52)) × Int × Int × (List (S32)) × Int) := foghornref12_alert.l0 k a0 (([] : List (S52))) l1 (l1.length : Int) 0
theorem foghornref12_alert.mono_l : ∀ k, (∀ y0 y1 y2 y3 y4, LeO (foghornref12_alert.l0 k y0 y1 y2 y3 y4) (foghornref12_alert.l0 (k + 1) y0 y1 y2 y3 y4))
 | 0 => fun _ _ _ _ _ r h => by simp [foghornref12_alert.l0] at h
 | k + 1 => by
  have ih0 := foghornref12_alert.mono_l k
  ·intro y0 y1 y2 y3 y4
   unfold foghornref12_alert.l0
   repeat' first
   | (with_reducible exact ih0 _ _ _ _ _)
   | (with_reducible exact foghornref10_Sort.mono _ _)
   | (with_reducible exact foghornref12_label.mono _ _)
   | (with_reducible exact LeO.refl _)
   | (with_reducible exact LeO.none _)
   | (with_reducible refine LeO.ite ?_ ?_)
   | (with_reducible refine LeO.bind ?_ (fun _ => ?_))
   | exact ih0 _ _ _ _ _
   | exact foghornref10_Sort.mono _ _
   | exact foghornref12_label.mono _ _
   | exact LeO.none _
   | refine LeO.ite ?_ ?_
   | refine LeO.bind ?_ (fun _ => ?_)
theorem foghornref12_alert.mono : ∀ a0 a1 k, LeO (foghornref12_alert.f k a0 a1) (foghornref12_alert.f (k + 1) a0 a1) := by
 intro a0 a1 k
 have ih0 := foghornref12_alert.mono_l k
 unfold foghornref12_alert.f
 repeat' first
   | (with_reducible exact ih0 _ _ _ _ _)
   | (with_reducible exact foghornref10_Sort.mono _ _)
   | (with_reducible exact foghornref12_label.mono _ _)
   | (with_reducible exact LeO.refl _)
   | (with_reducible exact LeO.none _)
   | (with_reducible refine LeO.ite ?_ ?_)
   | (with_reducible refine LeO.bind ?_ (fun _ => ?_))
   | exact ih0 _ _ _ _ _
   | exact foghornref10_Sort.mono _ _
   | exact foghornref12_label.mono _ _
   | exact LeO.none _
   | refine LeO.ite ?_ ?_
   | refine LeO.bind ?_ (fun _ => ?_)
end Go.Proofs.YtjfknmlchdifjaaGreatDoorQ.P
namespace Go.Proofs.YtjfknmlchdifjaaGreatDoorQ.P
open Go.RowKit Go.Proofs.YtjfknmlchdifjaaGreatDoorW.PrintWords Go.Proofs.YtjfknmlchdifjaaGreatDoorW.PrintLast Go.Proofs.YtjfknmlchdifjaaGreatDoorW.PrintMore
attribute [local go_sem] max2_int min2_int max_two min_two max_three min_three max_four min_four
def foghornref12_sign.f (a0 : Int) : Option (ByteArray) := if 0 ≤ a0 then (if a0 ≤ (wrap64 (a0 + 1)) then (if (wrap64 (a0 + 1)) ≤ 4 then (some ((⟨#[61, 33, 94, 63]⟩ : ByteArray).extract (a0 : Int).toNat ((wrap64 (a0 + 1)) : Int).toNat)) else (none)) else (none)) else (none)
end Go.Proofs.YtjfknmlchdifjaaGreatDoorQ.P
namespace Go.Proofs.YtjfknmlchdifjaaGreatDoor
open Go.RowKit
attribute [local go_sem high] ext_size ext_cell ext_frozen alloc_cell alloc_frozen
def matsB (ms : List Mat) : Bool := decide (ms.length ≤ 4) && !ms.any (fun m => !matB m)
end Go.Proofs.YtjfknmlchdifjaaGreatDoor
namespace Go.Proofs.YtjfknmlchdifjaaGreatDoor
open Go.RowKit
attribute [local go_sem high] ext_size ext_cell ext_frozen alloc_cell alloc_frozen
theorem lab_ext {x y : Lab} (h : (x.name.toList == y.name.toList) = true) (h2 : (x.value.toList == y.value.toList) = true) : x = y := by
  obtain ⟨n, v⟩ := x
  obtain ⟨n2, v2⟩ := y
  have e1 : n = n2 := bytes_of_eq h
  have e2 : v = v2 := bytes_of_eq h2
  rw [e1, e2]
theorem refSameL_any (u v : Value) (xs ys : List Lab) (w : World) (hS : SlAt w u 2 xs.length (labsC xs)) (hT : SlAt w v 2 ys.length (labsC ys)) :
    Calls Tryz.prog 43 #[u, v] w fun e w' => e = .returned (.bool (decide (xs = ys))) ∧ Below w.heap.size w w' := by
  obtain ⟨a, c, rfl, hnc, hcm⟩ := hS.form
  obtain ⟨a2, c2, rfl, hnc2, hcm2⟩ := hT.form
  have hm := hS.le
  unfold maxLen at hm
  have HS := Lib.hid hS
  have HT := Lib.hid hT
  clear hS hT
  obtain ⟨n, hxn⟩ : ∃ n, xs.length = n := ⟨_, rfl⟩
  obtain ⟨n2, hyn⟩ : ∃ n, ys.length = n := ⟨_, rfl⟩
  rw [hxn] at HS hm hnc ⊢
  rw [hyn] at HT hnc2 ⊢
  have HXN := Lib.hid hxn
  have HYN := Lib.hid hyn
  obtain ⟨r, hr⟩ : ∃ r, r = decide (xs = ys) := ⟨_, rfl⟩
  rw [← hr]
  have HR := Lib.hid hr
  clear hxn hyn hr
  by_cases hl : n = n2
  · subst hl
    go_enter Tryz.func43, Tryz.ntmps43
    go_wp2
    go_loopw [5, 13] (fun _ i wr => ∃ k : Nat, k ≤ n ∧ i = .int .i64 k ∧ (∀ j (h1 : j < xs.length) (h2 : j < ys.length), j < k → xs[j] = ys[j]) ∧ Below w.heap.size w wr) (fun _ i _ => n - (intOf i).toNat)
    case atStart => exact ⟨0, Nat.zero_le _, rfl, fun j _ _ hj => absurd hj (by omega), Below.refl _ _⟩
    case round =>
      obtain ⟨k, hk, rfl, hno, hbel⟩ := hrel
      have HN := Lib.hid hno
      clear hno
      obtain ⟨xr, rfl⟩ := ext_of hbel
      clear hbel
      by_cases hlt : k < n
      · have hl1 : k < xs.length := by rw [HXN.out]; exact hlt
        have hl2 : k < ys.length := by rw [HYN.out]; exact hlt
        obtain ⟨b, o, rfl, hbl, hcell⟩ := HS.out.at (by omega)
        have g0 := labs_get xs k hl1
        have k0 : w.cell? ⟨b, o + k * 2, none⟩ = some (.string xs[k].name) := hcell _ _ g0.1
        have k1 : w.cell? ⟨b, o + k * 2 + 1, none⟩ = some (.string xs[k].value) := by rw [Nat.add_assoc]; exact hcell _ _ g0.2
        clear hcell g0
        obtain ⟨b2, o2, rfl, hbl2, hcell⟩ := HT.out.at (by omega)
        have g0 := labs_get ys k hl2
        have k2 : w.cell? ⟨b2, o2 + k * 2, none⟩ = some (.string ys[k].name) := hcell _ _ g0.1
        have k3 : w.cell? ⟨b2, o2 + k * 2 + 1, none⟩ = some (.string ys[k].value) := by rw [Nat.add_assoc]; exact hcell _ _ g0.2
        clear hcell g0
        obtain ⟨x, hx⟩ : ∃ x, x = xs[k] := ⟨_, rfl⟩
        obtain ⟨y, hy⟩ : ∃ y, y = ys[k] := ⟨_, rfl⟩
        rw [← hx] at k0 k1
        rw [← hy] at k2 k3
        have HX := Lib.hid hx
        have HY := Lib.hid hy
        clear hx hy
        cases q1 : (x.name.toList == y.name.toList)
        · have HQ := Lib.hid (show ¬ x = y by rintro rfl; simp at q1)
          have i1 : (k : Int) < (n : Int) := by omega
          go_wp2
          refine wp_region_ext (by kernel_rfl) (by kernel_rfl) ?_
          repeat (go_big_quiet_step ((fail)))
          refine wpQuiet_nil ?_
          intro _ hw'
          obtain ⟨y1, rfl⟩ := hw'
          go_wp2
          go_ret
          refine ⟨ret_bool ?_, (by repeat (first | exact Below.refl _ _ | apply bal | apply bext | apply bdr | apply bdrN | (refine bst ?_ _ (by simp only [ext_size, size_alloc, size_set]; omega))))⟩
          rw [HR.out]
          symm
          apply decide_eq_false
          rintro rfl
          exact HQ.out (HX.out.trans HY.out.symm)
        · cases q2 : (x.value.toList == y.value.toList)
          · have HQ := Lib.hid (show ¬ x = y by rintro rfl; simp at q2)
            have i1 : (k : Int) < (n : Int) := by omega
            go_wp2
            refine wp_region_ext (by kernel_rfl) (by kernel_rfl) ?_
            repeat (go_big_quiet_step ((fail)))
            refine wpQuiet_nil ?_
            intro _ hw'
            obtain ⟨y1, rfl⟩ := hw'
            go_wp2
            go_ret
            refine ⟨ret_bool ?_, (by repeat (first | exact Below.refl _ _ | apply bal | apply bext | apply bdr | apply bdrN | (refine bst ?_ _ (by simp only [ext_size, size_alloc, size_set]; omega))))⟩
            rw [HR.out]
            symm
            apply decide_eq_false
            rintro rfl
            exact HQ.out (HX.out.trans HY.out.symm)
          · have HQ := Lib.hid (lab_ext q1 q2)
            have i1 : (k : Int) < (n : Int) := by omega
            go_wp2
            refine wp_region_ext (by kernel_rfl) (by kernel_rfl) ?_
            repeat (go_big_quiet_step ((fail)))
            refine wpQuiet_nil ?_
            intro _ hw'
            obtain ⟨y1, rfl⟩ := hw'
            go_wp2
            refine ⟨⟨k + 1, by omega, by go_num, fun j h1 h2 hjk => ?_, (by repeat (first | exact Below.refl _ _ | apply bal | apply bext | apply bdr | apply bdrN | (refine bst ?_ _ (by simp only [ext_size, size_alloc, size_set]; omega))))⟩, by simp [intOf]; omega⟩
            rcases Nat.lt_succ_iff_lt_or_eq.1 hjk with h | rfl
            · exact HN.out j h1 h2 h
            · exact HX.out.symm.trans (HQ.out.trans HY.out)
      · go_wp2
        go_ret
        refine ⟨ret_bool ?_, (by repeat (first | exact Below.refl _ _ | apply bal | apply bext | apply bdr | apply bdrN | (refine bst ?_ _ (by simp only [ext_size, size_alloc, size_set]; omega))))⟩
        rw [HR.out]
        symm
        apply decide_eq_true
        exact List.ext_getElem (HXN.out.trans HYN.out.symm) fun j h1 h2 => HN.out j h1 h2 (by have := HXN.out; omega)
  · have hn : ((n : Int) != n2) = true := by simp; omega
    go_enter Tryz.func43, Tryz.ntmps43
    go_wp2
    go_ret
    refine ⟨ret_bool ?_, (by repeat (first | exact Below.refl _ _ | apply bal | apply bext | apply bdr | apply bdrN | (refine bst ?_ _ (by simp only [ext_size, size_alloc, size_set]; omega))))⟩
    rw [HR.out]
    symm
    apply decide_eq_false
    intro h
    exact hl (HXN.out.symm.trans ((congrArg _ h).trans HYN.out))
end Go.Proofs.YtjfknmlchdifjaaGreatDoor
namespace Go.Proofs.YtjfknmlchdifjaaGreatDoorQ.P
open Go.RowKit Go.Proofs.YtjfknmlchdifjaaGreatDoorW.PrintWords Go.Proofs.YtjfknmlchdifjaaGreatDoor
def foghornref10_Same.f (l0 l1 : List S52) : Option Bool := some (decide (l0.map toLab = l1.map toLab))
theorem foghornref10_Same.calls (A0 : Option Addr) (c0 : Nat) (l0 : List S52) (A1 : Option Addr) (c1 : Nat) (l1 : List S52) (r : Bool) (w : World) (hr0 : Kd.C k52 w A0 l0.length l0) (hc0 : l0.length ≤ c0) (hr1 : Kd.C k52 w A1 l1.length l1) (hc1 : l1.length ≤ c1) (h : foghornref10_Same.f l0 l1 = some r) :
    Calls Tryz.prog 43 #[.slice A0 l0.length c0, .slice A1 l1.length c1] w fun e w' => e = .returned (.bool r) ∧ Below w.heap.size w w' := by
  obtain rfl := Option.some.inj h
  exact refSameL_any _ _ _ _ w (labs_c hr0 hc0) (labs_c hr1 hc1)
def foghornref10_Matcher.f (a0_0 : Int) (a0_1 : ByteArray) (a0_2 : ByteArray) : Option (Bool) := if matOkB ⟨a0_0, a0_1, a0_2⟩ = true then some (matB ⟨a0_0, a0_1, a0_2⟩) else none
def foghornref10_Matchers.f (l0 : List S32) : Option Bool := if matsOkB l0 = true then some (matsB (l0.map toMat)) else none
end Go.Proofs.YtjfknmlchdifjaaGreatDoorQ.P
namespace Go.Proofs.YtjfknmlchdifjaaGreatDoorQ.P
open Go.RowKit Go.Proofs.YtjfknmlchdifjaaGreatDoorW.PrintWords Go.Proofs.YtjfknmlchdifjaaGreatDoorW.PrintLast Go.Proofs.YtjfknmlchdifjaaGreatDoorW.PrintMore
attribute [local go_sem] max2_int min2_int max_two min_two max_three min_three max_four min_four
mutual
def foghornref12_Asked.l0 : Nat → ByteArray → Int → Option (Int × ByteArray × ByteArray × Bool)
 | 0, _, _ => none
 | k + 1, x0, x4 => if x4 < (x0.size : Int) then (foghornref12_Asked.l1 k x0 x4 0) else (some (0, (⟨#[]⟩ : ByteArray), (⟨#[]⟩ : ByteArray), false))
def foghornref12_Asked.l1 : Nat → ByteArray → Int → Int → Option (Int × ByteArray × ByteArray × Bool)
 | 0, _, _, _ => none
 | k + 1, x0, x4, x5 => if x5 < 4 then (if 0 ≤ x4 then (if x4 ≤ (wrap64 (x4 + 1)) then (if (wrap64 (x4 + 1)) ≤ (x0.size : Int) then ((foghornref12_sign.f x5).bind fun t245 => (if (x0.extract (x4 : Int).toNat ((wrap64 (x4 + 1)) : Int).toNat).toList = t245.toList then (if x4 ≤ (x0.size : Int) then (if 0 ≤ (wrap64 (x4 + 1)) then ((foghornref10_Matcher.f x5 (x0.extract 0 (x4 : Int).toNat) (x0.extract ((wrap64 (x4 + 1)) : Int).toNat x0.size)).bind fun t247 => (some (x5, x0.extract 0 (x4 : Int).toNat, x0.extract ((wrap64 (x4 + 1)) : Int).toNat x0.size, t247))) else (none)) else (none)) else (foghornref12_Asked.l1 k x0 x4 (wrap64 (x5 + 1))))) else (none)) else (none)) else (none)) else (foghornref12_Asked.l0 k x0 (wrap64 (x4 + 1)))
end
def foghornref12_Asked.f (k : Nat) (a0 : ByteArray) : Option (Int × ByteArray × ByteArray × Bool) := foghornref12_Asked.l0 k a0 0
theorem foghornref12_Asked.mono_l : ∀ k, (∀ y0 y1, LeO (foghornref12_Asked.l0 k y0 y1) (foghornref12_Asked.l0 (k + 1) y0 y1)) ∧ (∀ y0 y1 y2, LeO (foghornref12_Asked.l1 k y0 y1 y2) (foghornref12_Asked.l1 (k + 1) y0 y1 y2))
 | 0 => ⟨fun _ _ r h => by simp [foghornref12_Asked.l0] at h, fun _ _ _ r h => by simp [foghornref12_Asked.l1] at h⟩
 | k + 1 => by
  obtain ⟨ih0, ih1⟩ := foghornref12_Asked.mono_l k
  refine ⟨?_, ?_⟩
  ·intro y0 y1
   unfold foghornref12_Asked.l0
   repeat' first
   | (with_reducible exact ih0 _ _)
   | (with_reducible exact ih1 _ _ _)
   | (with_reducible exact LeO.refl _)
   | (with_reducible exact LeO.none _)
   | (with_reducible refine LeO.ite ?_ ?_)
   | (with_reducible refine LeO.bind ?_ (fun _ => ?_))
   | exact ih0 _ _
   | exact ih1 _ _ _
   | exact LeO.none _
   | refine LeO.ite ?_ ?_
   | refine LeO.bind ?_ (fun _ => ?_)
  ·intro y0 y1 y2
   unfold foghornref12_Asked.l1
   repeat' first
   | (with_reducible exact ih0 _ _)
   | (with_reducible exact ih1 _ _ _)
   | (with_reducible exact LeO.refl _)
   | (with_reducible exact LeO.none _)
   | (with_reducible refine LeO.ite ?_ ?_)
   | (with_reducible refine LeO.bind ?_ (fun _ => ?_))
   | exact ih0 _ _
   | exact ih1 _ _ _
   | exact LeO.none _
   | refine LeO.ite ?_ ?_
   | refine LeO.bind ?_ (fun _ => ?_)
theorem foghornref12_Asked.mono : ∀ a0 k, LeO (foghornref12_Asked.f k a0) (foghornref12_Asked.f (k + 1) a0) := by
 intro a0 k
 obtain ⟨ih0, ih1⟩ := foghornref12_Asked.mono_l k
 unfold foghornref12_Asked.f
 repeat' first
   | (with_reducible exact ih0 _ _)
   | (with_reducible exact ih1 _ _ _)
   | (with_reducible exact LeO.refl _)
   | (with_reducible exact LeO.none _)
   | (with_reducible refine LeO.ite ?_ ?_)
   | (with_reducible refine LeO.bind ?_ (fun _ => ?_))
   | exact ih0 _ _
   | exact ih1 _ _ _
   | exact LeO.none _
   | refine LeO.ite ?_ ?_
   | refine LeO.bind ?_ (fun _ => ?_)
def foghornref12_Asked.T8 : Bool × List (List Nat × List Nat) := (true, [([], []), ([], []), ([], []), ([1, 2], [1, 2]), ([], []), ([], []), ([5], [5]), ([4, 6], [4, 6]), ([0, 3, 7], [0, 3, 7]), ([], []), ([9, 8, 0, 1, 2, 3, 4, 5, 6, 7, 8, 9], [8, 9])])
def foghornref12_Asked.B8 : List Nat := [0, 0, 0, 6, 0, 0, 32, 112, 255, 0, 1023]
theorem foghornref12_Asked.tab8 : rtab .any (opsOf Tryz.f13 8) = foghornref12_Asked.T8 := by kernel_rfl
theorem foghornref12_Asked.bits8 : waitsOk foghornref12_Asked.T8.2 foghornref12_Asked.B8 = true := by kernel_rfl
end Go.Proofs.YtjfknmlchdifjaaGreatDoorQ.P
namespace Go.Proofs.YtjfknmlchdifjaaGreatDoorQ.P
open Go.RowKit Go.Proofs.YtjfknmlchdifjaaGreatDoorW.PrintWords Go.Proofs.YtjfknmlchdifjaaGreatDoorW.PrintLast Go.Proofs.YtjfknmlchdifjaaGreatDoorW.PrintMore
attribute [local go_sem] max2_int min2_int max_two min_two max_three min_three max_four min_four
def foghornref12_Digits.f : Nat → Int → Option (ByteArray)
 | 0, _ => none
 | k + 1, a0 => if a0 < 10 then (some (strOfNums (([(wrap64 (48 + a0)) % 256] : List Int)))) else ((foghornref12_Digits.f k (wrap64 (Int.tdiv a0 10))).bind fun t251 => ((foghornref12_Digits.f k (Int.tmod a0 10)).bind fun t252 => (if t251.size + t252.size ≤ 9223372036854775807 then (some (t251 ++ t252)) else (none))))
theorem foghornref12_Digits.mono_l : ∀ k, (∀ y0, LeO (foghornref12_Digits.f k y0) (foghornref12_Digits.f (k + 1) y0))
 | 0 => fun _ r h => by simp [foghornref12_Digits.f] at h
 | k + 1 => by
  have ih0 := foghornref12_Digits.mono_l k
  ·intro y0
   unfold foghornref12_Digits.f
   repeat' first
   | (with_reducible exact ih0 _)
   | (with_reducible exact LeO.refl _)
   | (with_reducible exact LeO.none _)
   | (with_reducible refine LeO.ite ?_ ?_)
   | (with_reducible refine LeO.bind ?_ (fun _ => ?_))
   | exact ih0 _
   | exact LeO.none _
   | refine LeO.ite ?_ ?_
   | refine LeO.bind ?_ (fun _ => ?_)
theorem foghornref12_Digits.mono : ∀ a0 k, LeO (foghornref12_Digits.f k a0) (foghornref12_Digits.f (k + 1) a0) := by
 intro a0 k
 have ih0 := foghornref12_Digits.mono_l k
 exact ih0 a0
end Go.Proofs.YtjfknmlchdifjaaGreatDoorQ.P
namespace Go.Proofs.YtjfknmlchdifjaaGreatDoorQ.P
open Go.RowKit Go.Proofs.YtjfknmlchdifjaaGreatDoorW.PrintWords Go.Proofs.YtjfknmlchdifjaaGreatDoorW.PrintLast Go.Proofs.YtjfknmlchdifjaaGreatDoorW.PrintMore
attribute [local go_sem] max2_int min2_int max_two min_two max_three min_three max_four min_four
def foghornref12_Number.l0 : Nat → ByteArray → Int → Int → Option (Int × Bool)
 | 0, _, _, _ => none
 | k + 1, x0, x4, x5 => if x5 < (x0.size : Int) then (if 0 ≤ x5 then (if (bt x0 x5) < 48 then (some (0, false)) else (if (bt x0 x5) > 57 then (some (0, false)) else (if x4 > 1099511627776 then (some (0, false)) else (foghornref12_Number.l0 k x0 (wrap64 ((wrap64 (10 * x4)) + (((bt x0 x5) - 48) % 256))) (wrap64 (x5 + 1)))))) else (none)) else (if x0.toList = ([] : List UInt8) then (some (x4, false)) else (if x4 ≤ 1099511627776 then ((foghornref12_Digits.f k x4).bind fun t253 => (some (x4, (t253.toList == x0.toList)))) else (some (x4, false))))
def foghornref12_Number.f (k : Nat) (a0 : ByteArray) : Option (Int × Bool) := foghornref12_Number.l0 k a0 0 0
theorem foghornref12_Number.mono_l : ∀ k, (∀ y0 y1 y2, LeO (foghornref12_Number.l0 k y0 y1 y2) (foghornref12_Number.l0 (k + 1) y0 y1 y2))
 | 0 => fun _ _ _ r h => by simp [foghornref12_Number.l0] at h
 | k + 1 => by
  have ih0 := foghornref12_Number.mono_l k
  ·intro y0 y1 y2
   unfold foghornref12_Number.l0
   repeat' first
   | (with_reducible exact ih0 _ _ _)
   | (with_reducible exact foghornref12_Digits.mono _ _)
   | (with_reducible exact LeO.refl _)
   | (with_reducible exact LeO.none _)
   | (with_reducible refine LeO.ite ?_ ?_)
   | (with_reducible refine LeO.bind ?_ (fun _ => ?_))
   | exact ih0 _ _ _
   | exact foghornref12_Digits.mono _ _
   | exact LeO.none _
   | refine LeO.ite ?_ ?_
   | refine LeO.bind ?_ (fun _ => ?_)
theorem foghornref12_Number.mono : ∀ a0 k, LeO (foghornref12_Number.f k a0) (foghornref12_Number.f (k + 1) a0) := by
 intro a0 k
 have ih0 := foghornref12_Number.mono_l k
 unfold foghornref12_Number.f
 repeat' first
   | (with_reducible exact ih0 _ _ _)
   | (with_reducible exact foghornref12_Digits.mono _ _)
   | (with_reducible exact LeO.refl _)
   | (with_reducible exact LeO.none _)
   | (with_reducible refine LeO.ite ?_ ?_)
   | (with_reducible refine LeO.bind ?_ (fun _ => ?_))
   | exact ih0 _ _ _
   | exact foghornref12_Digits.mono _ _
   | exact LeO.none _
   | refine LeO.ite ?_ ?_
   | refine LeO.bind ?_ (fun _ => ?_)
end Go.Proofs.YtjfknmlchdifjaaGreatDoorQ.P
namespace Go.Proofs.YtjfknmlchdifjaaGreatDoorQ.P
open Go.RowKit Go.Proofs.YtjfknmlchdifjaaGreatDoorW.PrintWords Go.Proofs.YtjfknmlchdifjaaGreatDoorW.PrintLast Go.Proofs.YtjfknmlchdifjaaGreatDoorW.PrintMore
attribute [local go_sem] max2_int min2_int max_two min_two max_three min_three max_four min_four
mutual
def foghornref12_hush.j0 : Nat → List ByteArray → Int → Int → Bool → Option (Int × (List (S52)) × Int × Int × (List (S32)) × Int)
 | 0, _, _, _, _ => none
 | k + 1, x0, x4, x6, x36 => if x36 = true then (some (0, ([] : List (S52)), 0, 0, ([] : List (S32)), 13)) else (if 2 ≤ (x0.length : Int) then (foghornref12_hush.l0 k x4 x6 (x0.drop 2) ((x0.drop 2).length : Int) 0 x4 x6 ([] : List (S32))) else (none))
def foghornref12_hush.l0 : Nat → Int → Int → List ByteArray → Int → Int → Int → Int → List (S32) → Option (Int × (List (S52)) × Int × Int × (List (S32)) × Int)
 | 0, _, _, _, _, _, _, _, _ => none
 | k + 1, x4, x6, x42, x43, x44, x262000, x262001, x262002 => if x44 < x43 then (if 0 ≤ x44 then (if x44 < (x42.length : Int) then ((foghornref12_Asked.f k (rdOf ByteArray.empty x42 x44)).bind fun bt264 => (if bt264.2.2.2 = true then (if x262002.length < 3518437208883 then (foghornref12_hush.l0 k x4 x6 x42 x43 (wrap64 (x44 + 1)) x262000 x262001 (x262002 ++ [(⟨bt264.1, bt264.2.1, bt264.2.2.1⟩ : S32)])) else (none)) else (some (0, ([] : List (S52)), 0, 0, ([] : List (S32)), 13)))) else (none)) else (none)) else (if (x262002.length : Int) > 4 then (some (0, ([] : List (S52)), 0, 0, ([] : List (S32)), 2)) else (if x4 ≥ x6 then (some (0, ([] : List (S52)), 0, 0, ([] : List (S32)), 3)) else (some (2, ([] : List (S52)), x262000, x262001, x262002, 0))))
end
def foghornref12_hush.f (k : Nat) (l0 : List ByteArray) : Option (Int × (List (S52)) × Int × Int × (List (S32)) × Int) := if (l0.length : Int) < 3 then (some (0, ([] : List (S52)), 0, 0, ([] : List (S32)), 12)) else (if 0 < (l0.length : Int) then ((foghornref12_Number.f k (rdOf ByteArray.empty l0 0)).bind fun bt256 => (if 1 < (l0.length : Int) then ((foghornref12_Number.f k (rdOf ByteArray.empty l0 1)).bind fun bt259 => (if bt256.2 = true then (foghornref12_hush.j0 k l0 bt256.1 bt259.1 (!bt259.2)) else (foghornref12_hush.j0 k l0 bt256.1 bt259.1 true))) else (none))) else (none))
theorem foghornref12_hush.mono_l : ∀ k, (∀ y0 y1 y2 y3, LeO (foghornref12_hush.j0 k y0 y1 y2 y3) (foghornref12_hush.j0 (k + 1) y0 y1 y2 y3)) ∧ (∀ y0 y1 y2 y3 y4 y5 y6 y7, LeO (foghornref12_hush.l0 k y0 y1 y2 y3 y4 y5 y6 y7) (foghornref12_hush.l0 (k + 1) y0 y1 y2 y3 y4 y5 y6 y7))
 | 0 => ⟨fun _ _ _ _ r h => by simp [foghornref12_hush.j0] at h, fun _ _ _ _ _ _ _ _ r h => by simp [foghornref12_hush.l0] at h⟩
 | k + 1 => by
  obtain ⟨ih0, ih1⟩ := foghornref12_hush.mono_l k
  refine ⟨?_, ?_⟩
  ·intro y0 y1 y2 y3
   unfold foghornref12_hush.j0
   repeat' first
   | (with_reducible exact ih0 _ _ _ _)
   | (with_reducible exact ih1 _ _ _ _ _ _ _ _)
   | (with_reducible exact foghornref12_Asked.mono _ _)
   | (with_reducible exact foghornref12_Number.mono _ _)
   | (with_reducible exact LeO.refl _)
   | (with_reducible exact LeO.none _)
   | (with_reducible refine LeO.ite ?_ ?_)
   | (with_reducible refine LeO.bind ?_ (fun _ => ?_))
   | exact ih0 _ _ _ _
   | exact ih1 _ _ _ _ _ _ _ _
   | exact foghornref12_Asked.mono _ _
   | exact foghornref12_Number.mono _ _
   | exact LeO.none _
   | refine LeO.ite ?_ ?_
   | refine LeO.bind ?_ (fun _ => ?_)
  ·intro y0 y1 y2 y3 y4 y5 y6 y7
   unfold foghornref12_hush.l0
   repeat' first
   | (with_reducible exact ih0 _ _ _ _)
   | (with_reducible exact ih1 _ _ _ _ _ _ _ _)
   | (with_reducible exact foghornref12_Asked.mono _ _)
   | (with_reducible exact foghornref12_Number.mono _ _)
   | (with_reducible exact LeO.refl _)
   | (with_reducible exact LeO.none _)
   | (with_reducible refine LeO.ite ?_ ?_)
   | (with_reducible refine LeO.bind ?_ (fun _ => ?_))
   | exact ih0 _ _ _ _
   | exact ih1 _ _ _ _ _ _ _ _
   | exact foghornref12_Asked.mono _ _
   | exact foghornref12_Number.mono _ _
   | exact LeO.none _
   | refine LeO.ite ?_ ?_
   | refine LeO.bind ?_ (fun _ => ?_)
theorem foghornref12_hush.mono : ∀ a0 k, LeO (foghornref12_hush.f k a0) (foghornref12_hush.f (k + 1) a0) := by
 intro a0 k
 obtain ⟨ih0, ih1⟩ := foghornref12_hush.mono_l k
 unfold foghornref12_hush.f
 repeat' first
   | (with_reducible exact ih0 _ _ _ _)
   | (with_reducible exact ih1 _ _ _ _ _ _ _ _)
   | (with_reducible exact foghornref12_Asked.mono _ _)
   | (with_reducible exact foghornref12_Number.mono _ _)
   | (with_reducible exact LeO.refl _)
   | (with_reducible exact LeO.none _)
   | (with_reducible refine LeO.ite ?_ ?_)
   | (with_reducible refine LeO.bind ?_ (fun _ => ?_))
   | exact ih0 _ _ _ _
   | exact ih1 _ _ _ _ _ _ _ _
   | exact foghornref12_Asked.mono _ _
   | exact foghornref12_Number.mono _ _
   | exact LeO.none _
   | refine LeO.ite ?_ ?_
   | refine LeO.bind ?_ (fun _ => ?_)
end Go.Proofs.YtjfknmlchdifjaaGreatDoorQ.P
namespace Go.Proofs.YtjfknmlchdifjaaGreatDoorQ.P
open Go.RowKit Go.Proofs.YtjfknmlchdifjaaGreatDoorW.PrintWords Go.Proofs.YtjfknmlchdifjaaGreatDoorW.PrintLast Go.Proofs.YtjfknmlchdifjaaGreatDoorW.PrintMore
attribute [local go_sem] max2_int min2_int max_two min_two max_three min_three max_four min_four
def foghornref12_Parse.f (k : Nat) (a0 : ByteArray) : Option (Int × (List (S52)) × Int × Int × (List (S32)) × Int) := if (a0.size : Int) > 200 then (some (0, ([] : List (S52)), 0, 0, ([] : List (S32)), 2)) else ((foghornref12_Words.f k a0).bind fun t273 => (if 0 < (t273.length : Int) then (if (rdOf ByteArray.empty t273 0).toList = ([102, 105, 114, 101] : List UInt8) then (if 1 ≤ (t273.length : Int) then ((foghornref12_alert.f k 0 (t273.drop 1)).bind fun bt281 => (some (bt281.1, bt281.2.1, bt281.2.2.1, bt281.2.2.2.1, bt281.2.2.2.2.1, bt281.2.2.2.2.2))) else (none)) else (if (rdOf ByteArray.empty t273 0).toList = ([100, 111, 110, 101] : List UInt8) then (if 1 ≤ (t273.length : Int) then ((foghornref12_alert.f k 1 (t273.drop 1)).bind fun bt296 => (some (bt296.1, bt296.2.1, bt296.2.2.1, bt296.2.2.2.1, bt296.2.2.2.2.1, bt296.2.2.2.2.2))) else (none)) else (if (rdOf ByteArray.empty t273 0).toList = ([104, 117, 115, 104] : List UInt8) then (if 1 ≤ (t273.length : Int) then ((foghornref12_hush.f k (t273.drop 1)).bind fun bt311 => (some (bt311.1, bt311.2.1, bt311.2.2.1, bt311.2.2.2.1, bt311.2.2.2.2.1, bt311.2.2.2.2.2))) else (none)) else (some (0, ([] : List (S52)), 0, 0, ([] : List (S32)), 10))))) else (none)))
theorem foghornref12_Parse.mono : ∀ a0 k, LeO (foghornref12_Parse.f k a0) (foghornref12_Parse.f (k + 1) a0) := by
 intro a0 k
 unfold foghornref12_Parse.f
 repeat' first
   | (with_reducible exact foghornref12_Words.mono _ _)
   | (with_reducible exact foghornref12_alert.mono _ _ _)
   | (with_reducible exact foghornref12_hush.mono _ _)
   | (with_reducible exact LeO.refl _)
   | (with_reducible exact LeO.none _)
   | (with_reducible refine LeO.ite ?_ ?_)
   | (with_reducible refine LeO.bind ?_ (fun _ => ?_))
   | exact foghornref12_Words.mono _ _
   | exact foghornref12_alert.mono _ _ _
   | exact foghornref12_hush.mono _ _
   | exact LeO.none _
   | refine LeO.ite ?_ ?_
   | refine LeO.bind ?_ (fun _ => ?_)
end Go.Proofs.YtjfknmlchdifjaaGreatDoorQ.P
namespace Go.Proofs.YtjfknmlchdifjaaGreatDoor
open Go.RowKit
theorem sortO_perm {xs ys : List Lab} (hp : xs.Perm ys) : sortO [] xs = sortO [] ys := by
  have key : ∀ {a b : List Lab}, a.Perm b → ∀ r, sortO [] a = some r → sortO [] b = some r := by
    intro a b h r hr
    obtain ⟨h1, h2⟩ := sortO_some a [] r List.Pairwise.nil hr
    rw [List.nil_append] at h2
    cases hb : sortO [] b with
    | some r' =>
      obtain ⟨h3, h4⟩ := sortO_some b [] r' List.Pairwise.nil hb
      rw [List.nil_append] at h4
      rw [rises_unique h3 h1 (h4.trans (h.symm.trans h2.symm))]
    | none =>
      have := sortO_none b [] hb
      rw [List.nil_append] at this
      exact absurd ((ne_perm (h2.trans h)).1 (h1.imp ltL_ne)) this
  cases hx : sortO [] xs with
  | some r => exact (key hp r hx).symm
  | none =>
    cases hy : sortO [] ys with
    | some r => rw [key hp.symm r hy] at hx; cases hx
    | none => rfl
theorem sortE_perm {xs ys : List Lab} (hp : xs.Perm ys) : sortE xs = sortE ys := by
  unfold sortE
  rw [sortO_perm hp, eachB_perm hp]
theorem sortL_perm {xs ys : List Lab} (hp : xs.Perm ys) : sortL xs = sortL ys := by
  unfold sortL
  rw [sortO_perm hp, eachB_perm hp]
end Go.Proofs.YtjfknmlchdifjaaGreatDoor
namespace Go.Proofs.YtjfknmlchdifjaaGreatDoor
open Go.RowKit
theorem parse_perm {m : Msg} (h : m.okB = true) (hk : m.kind ≠ 2) {xs : List Lab} (hp : xs.Perm m.labs) : parseP (joinW 32 ((if m.kind = 1 then doneT else fireT) :: xs.map labW)) = (m, 0) := by
  unfold Msg.okB at h
  rw [if_neg hk] at h
  obtain ⟨kind, labs, fr, til, asked⟩ := m
  simp only [Bool.and_eq_true, Bool.or_eq_true, decide_eq_true_eq] at h hk hp ⊢
  obtain ⟨⟨h1, h2⟩, ⟨rfl, rfl⟩, rfl⟩ := h
  obtain ⟨_, h3, hl⟩ := eachB_all (labsB_each h2)
  have hx : ∀ x ∈ xs, labB x = true := fun x hx => hl x (hp.mem_iff.1 hx)
  have hlen := hp.length_eq
  have hr := readAll_map (f := labP) (g := labW) (xs := xs) fun x h => labP_labW (hx x h)
  obtain ⟨s1, s2⟩ := rises_sort h2
  rw [← sortE_perm hp] at s1
  rw [← sortL_perm hp] at s2
  have hw : ∀ w ∈ (if kind = 1 then doneT else fireT) :: xs.map labW, (32 : UInt8) ∉ w := by
    intro w hw hc
    rcases List.mem_cons.1 hw with rfl | hw
    · revert hc
      split <;> decide
    · obtain ⟨x, hxx, rfl⟩ := List.mem_map.1 hw
      exact (no_blank_lab (hx x hxx) 32 hc).1 rfl
  have hj := joinW_len 32 ((if kind = 1 then doneT else fireT) :: xs.map labW)
  have s := sum_le (fun x => (labW x).length) 17 (xs := xs) fun x h => labW_len (hx x h)
  have e : (List.length ∘ labW) = fun x => (labW x).length := rfl
  have e4 : (if kind = 1 then doneT else fireT).length = 4 := by split <;> rfl
  simp only [List.map_cons, List.sum_cons, List.length_cons, List.map_map, List.length_map, e, e4] at hj
  unfold parseP
  rw [if_neg (by omega), split_join 32 (by simp) hw]
  simp only [parseW]
  rcases h1 with rfl | rfl
  · rw [if_neg (show ¬ (0 : Int) = 1 by decide), if_pos rfl]
    unfold alertP
    rw [hr]
    simp only
    rw [if_pos s1, s2]
  · rw [if_pos rfl, if_neg (by decide), if_pos rfl]
    unfold alertP
    rw [hr]
    simp only
    rw [if_pos s1, s2]
end Go.Proofs.YtjfknmlchdifjaaGreatDoor
namespace Go.Proofs.YtjfknmlchdifjaaGreatDoor
open Go.RowKit Go.Proofs.YtjfknmlchdifjaaGreatDoorW.PrintWords Go.Proofs.YtjfknmlchdifjaaGreatDoorW.PrintMore
theorem w64 {x : Int} (h0 : -9223372036854775808 ≤ x) (h1 : x ≤ 9223372036854775807) : wrap64 x = x := by unfold wrap64; omega
theorem w64s {i : Nat} (h : i < 9223372036854775807) : wrap64 ((i : Int) + 1) = ((i + 1 : Nat) : Int) := by rw [w64 (by omega) (by omega)]; omega
theorem getD_cast {α : Type} {z : α} {xs : List α} {i : Nat} (h : i < xs.length) : xs.getD (i : Int).toNat z = xs[i] := by
  rw [List.getD_eq_getElem?_getD, Int.toNat_natCast, List.getElem?_eq_getElem h]
  rfl
theorem drop_cons {α : Type} {xs : List α} {i : Nat} (h : i < xs.length) : xs.drop i = xs[i] :: xs.drop (i + 1) := List.drop_eq_getElem_cons h
theorem drop_end {α : Type} {xs : List α} {i : Nat} (h : xs.length ≤ i) : xs.drop i = [] := List.drop_eq_nil_of_le h
theorem mn_eq (a b : Int) : mn a b = min a b := by unfold mn; omega
def cutB (n : Nat) (x : ByteArray) : ByteArray := x.extract 0 n
theorem cutB_size (n : Nat) (x : ByteArray) : (cutB n x).size = min n x.size := by
  unfold cutB
  rw [ByteArray.size_extract]
  omega
theorem cutB_mn (n : Nat) (m : Int) (x : ByteArray) (hm : m = n) : x.extract 0 (mn (x.size : Int) m).toNat = cutB n x := by
  subst hm
  unfold cutB
  rw [mn_eq]
  apply ByteArray.ext
  rw [ByteArray.data_extract, ByteArray.data_extract]
  rcases Nat.le_total x.size n with h | h
  · rw [show (min (x.size : Int) n).toNat = x.size by omega]
    rw [Array.extract_eq_self_of_le (show x.data.size ≤ x.size from Nat.le_refl _), Array.extract_eq_self_of_le (show x.data.size ≤ n from h)]
  · rw [show (min (x.size : Int) n).toNat = n by omega]
theorem take_mn {α : Type} (n : Nat) (m : Int) (xs : List α) (hm : m = n) : xs.take (mn (xs.length : Int) m).toNat = xs.take n := by
  subst hm
  rw [mn_eq]
  rcases Nat.le_total xs.length n with h | h
  · rw [List.take_of_length_le (by omega), List.take_of_length_le h]
  · rw [show (min (xs.length : Int) n).toNat = n by omega]
end Go.Proofs.YtjfknmlchdifjaaGreatDoor
namespace Go.Proofs.YtjfknmlchdifjaaGreatDoorQ.P
open Go.RowKit Go.Proofs.YtjfknmlchdifjaaGreatDoorW.PrintWords Go.Proofs.YtjfknmlchdifjaaGreatDoorW.PrintLast Go.Proofs.YtjfknmlchdifjaaGreatDoorW.PrintMore Go.Proofs.YtjfknmlchdifjaaGreatDoor
theorem rdL {xs : List S52} {i : Nat} (h : i < xs.length) : rd_T52 xs (i : Int) = xs[i] := getD_cast h
theorem rdM {xs : List S32} {i : Nat} (h : i < xs.length) : rd_T32 xs (i : Int) = xs[i] := getD_cast h
end Go.Proofs.YtjfknmlchdifjaaGreatDoorQ.P
namespace Go.Proofs.YtjfknmlchdifjaaGreatDoorQ.P
open Go.RowKit Go.Proofs.YtjfknmlchdifjaaGreatDoorW.PrintWords Go.Proofs.YtjfknmlchdifjaaGreatDoorW.PrintLast Go.Proofs.YtjfknmlchdifjaaGreatDoorW.PrintMore Go.Proofs.YtjfknmlchdifjaaGreatDoor
theorem bt_list {s : ByteArray} {i : Nat} (h : i < s.data.toList.length) : Go.Proofs.YtjfknmlchdifjaaGreatDoorW.PrintWords.bt s (i : Int) = ((s.data.toList[i]).toNat : Int) := by
  rw [len_data] at h
  unfold Go.Proofs.YtjfknmlchdifjaaGreatDoorW.PrintWords.bt
  rw [dif_pos (by rw [Int.toNat_natCast]; exact h)]
  rfl
theorem ex_mid (s : ByteArray) (i j : Nat) : s.extract i j = tx ((s.data.toList.drop i).take (j - i)) := tx_inj (by rw [Lib.extract_data]; rfl)
theorem ex_take (s : ByteArray) (i : Nat) : s.extract 0 i = tx (s.data.toList.take i) := by rw [ex_mid, List.drop_zero]; rfl
theorem ex_drop (s : ByteArray) (i : Nat) : s.extract i s.size = tx (s.data.toList.drop i) := by
  rw [ex_mid, List.take_of_length_le]
  rw [List.length_drop, len_data]
  exact Nat.le_refl _
theorem toList_data (s : ByteArray) : s.toList = s.data.toList := ByteArray.toList_eq s
theorem rdB {xs : List ByteArray} {i : Nat} (h : i < xs.length) : rdOf ByteArray.empty xs (i : Int) = xs[i] := getD_cast h
theorem n0 : (0 : Int) = ((0 : Nat) : Int) := rfl
theorem matOkB_of {k : Int} {a b : ByteArray} (h1 : a.size ≤ 1000000) (h2 : b.size ≤ 1000000) : matOkB ⟨k, a, b⟩ = true := by
  unfold matOkB maxLen
  simp
  omega
end Go.Proofs.YtjfknmlchdifjaaGreatDoorQ.P
namespace Go.Proofs.YtjfknmlchdifjaaGreatDoorQ.P
open Go.RowKit Go.Proofs.YtjfknmlchdifjaaGreatDoorW.PrintWords Go.Proofs.YtjfknmlchdifjaaGreatDoorW.PrintLast Go.Proofs.YtjfknmlchdifjaaGreatDoorW.PrintMore Go.Proofs.YtjfknmlchdifjaaGreatDoor
theorem tx_app (a b : List UInt8) : tx a ++ tx b = tx (a ++ b) := by
  apply ByteArray.ext
  rw [ByteArray.data_append]
  simp [tx]
theorem idx_cut (p : UInt8 → Bool) (cs : List UInt8) (hp : ∀ c, p c = cs.contains c) : ∀ l : List UInt8, (Lib.indexAny l cs = -1 ∧ cutP p l = none) ∨ ∃ i c, ∃ h : i < l.length, Lib.indexAny l cs = (i : Nat) ∧ l[i] = c ∧ p c = true ∧ cutP p l = some (l.take i, c, l.drop (i + 1))
  | [] => .inl ⟨rfl, rfl⟩
  | b :: l => by
    cases hb : p b with
    | true =>
      refine .inr ⟨0, b, by simp, ?_, rfl, hb, ?_⟩
      · rw [Lib.indexAny, ← hp, hb, if_pos rfl]; rfl
      · rw [cutP, if_pos hb]; rfl
    | false =>
      have e1 : Lib.indexAny (b :: l) cs = if Lib.indexAny l cs == -1 then -1 else Lib.indexAny l cs + 1 := by rw [Lib.indexAny, ← hp, hb, if_neg (by simp)]
      have e2 : cutP p (b :: l) = (cutP p l).map fun r => (b :: r.1, r.2.1, r.2.2) := by rw [cutP, if_neg (by simp [hb])]
      rcases idx_cut p cs hp l with ⟨h1, h2⟩ | ⟨i, c, h, h1, h2, h3, h4⟩
      · exact .inl ⟨by rw [e1, h1]; rfl, by rw [e2, h2]; rfl⟩
      · refine .inr ⟨i + 1, c, by simp; omega, ?_, by simpa using h2, h3, ?_⟩
        · rw [e1, h1, if_neg (by simp)]; push_cast; rfl
        · rw [e2, h4]; rfl
def askW4 : Option Mat → Int × ByteArray × ByteArray × Int
  | none => (0, ⟨#[]⟩, ⟨#[]⟩, 13)
  | some m => (m.kind, m.name, m.value, 0)
theorem asked_f {s : ByteArray} (hs : s.size ≤ 100000) : wire_Asked.f s = some (askW4 (askP s.data.toList)) := by
  have hl := len_data s
  unfold wire_Asked.f strings_IndexAny.f
  rw [if_pos ⟨by omega, rfl⟩, Option.bind_some]
  unfold askP
  rcases idx_cut signB signs (fun _ => rfl) s.data.toList with ⟨h1, h2⟩ | ⟨i, c, h, h1, h2, h3, h4⟩
  · rw [h1, h2, if_pos (by omega)]
    rfl
  · rw [h1, h4, if_neg (by omega), if_pos (by omega), if_pos (by omega), w64s (by omega), if_pos (by omega), if_pos (by omega), if_pos (by omega), bt_list h, h2, Int.toNat_natCast, Int.toNat_natCast, ex_take, ex_drop]
    simp only
    have hm : ∀ q : Int, label_Matcher.f q (tx (s.data.toList.take i)) (tx (s.data.toList.drop (i + 1))) = some (matB ⟨q, tx (s.data.toList.take i), tx (s.data.toList.drop (i + 1))⟩) := by
      intro q
      unfold label_Matcher.f
      rw [if_pos (matOkB_of (by rw [tx_size, List.length_take]; omega) (by rw [tx_size, List.length_drop]; omega))]
    have hw : wrap32 ((c.toNat : Nat) : Int) = ((c.toNat : Nat) : Int) := by
      have := c.toNat_lt
      unfold wrap32
      omega
    rw [hw]
    simp only [hm, Option.bind_some]
    simp only [signB, signs, List.contains_cons, List.contains_nil, Bool.or_false, Bool.or_eq_true, beq_iff_eq] at h3
    rcases h3 with rfl | rfl | rfl | rfl
    · rw [if_pos (by rfl)]
      have e : askM (List.take i s.data.toList, 61, List.drop (i + 1) s.data.toList) = ⟨0, tx (List.take i s.data.toList), tx (List.drop (i + 1) s.data.toList)⟩ := rfl
      rw [e]
      split <;> rfl
    · rw [if_neg (by decide), if_pos (by rfl)]
      have e : askM (List.take i s.data.toList, 33, List.drop (i + 1) s.data.toList) = ⟨1, tx (List.take i s.data.toList), tx (List.drop (i + 1) s.data.toList)⟩ := rfl
      rw [e]
      split <;> rfl
    · rw [if_neg (by decide), if_neg (by decide), if_pos (by rfl)]
      have e : askM (List.take i s.data.toList, 94, List.drop (i + 1) s.data.toList) = ⟨2, tx (List.take i s.data.toList), tx (List.drop (i + 1) s.data.toList)⟩ := rfl
      rw [e]
      split <;> rfl
    · rw [if_neg (by decide), if_neg (by decide), if_neg (by decide)]
      have e : askM (List.take i s.data.toList, 63, List.drop (i + 1) s.data.toList) = ⟨3, tx (List.take i s.data.toList), tx (List.drop (i + 1) s.data.toList)⟩ := rfl
      rw [e]
      split <;> rfl
end Go.Proofs.YtjfknmlchdifjaaGreatDoorQ.P
namespace Go.Proofs.YtjfknmlchdifjaaGreatDoorQ.P
open Go.RowKit Go.Proofs.YtjfknmlchdifjaaGreatDoorW.PrintWords Go.Proofs.YtjfknmlchdifjaaGreatDoorW.PrintLast Go.Proofs.YtjfknmlchdifjaaGreatDoorW.PrintMore Go.Proofs.YtjfknmlchdifjaaGreatDoor
def msgR (r : Msg × Int) : Int × (List S52) × Int × Int × (List S32) × Int := (r.1.kind, r.1.labs.map ofLab, r.1.fr, r.1.til, r.1.asked.map ofMat, r.2)
def alertF (k : Int) : Option (List Lab) → Msg × Int
  | none => (Msg.zero, 13)
  | some l => if sortE l = 0 then (⟨k, sortL l, 0, 0, []⟩, 0) else (Msg.zero, sortE l)
theorem alertP_F (k : Int) (ws : List (List UInt8)) : alertP k ws = alertF k (readAll labP ws) := by
  unfold alertP alertF
  cases readAll labP ws <;> rfl
def hushF (f t : Int) : Option (List Mat) → Msg × Int
  | none => (Msg.zero, 13)
  | some ms => if 4 < ms.length then (Msg.zero, 2) else if t ≤ f then (Msg.zero, 3) else (⟨2, [], f, t, ms⟩, 0)
def dat (ws : List ByteArray) : List (List UInt8) := ws.map fun w => w.data.toList
theorem dat_cons {ws : List ByteArray} {i : Nat} (h : i < ws.length) : dat (ws.drop i) = ws[i].data.toList :: dat (ws.drop (i + 1)) := by rw [drop_cons h]; rfl
theorem map_app {α : Type} (xs : List α) (x : α) (o : Option (List α)) : (o.map (x :: ·)).map (xs ++ ·) = o.map ((xs ++ [x]) ++ ·) := by cases o <;> simp
theorem labsB_one (x : Lab) : labsB [x] = labB x := by
  unfold labsB eachB risesB
  simp
theorem mats_to_of (xs : List Mat) : (xs.map ofMat).map toMat = xs := by
  rw [List.map_map]
  have : (toMat ∘ ofMat) = id := by funext x; rfl
  rw [this, List.map_id]
theorem labB_sz {x : Lab} (h : labB x = true) : x.name.size ≤ 8 ∧ x.value.size ≤ 8 := by
  unfold labB at h
  rw [Bool.and_eq_true] at h
  exact ⟨(nameB_all h.1).2.2, (valB_all h.2).2⟩
theorem labsOkB_of {l : List Lab} (h : ∀ x ∈ l, x.name.size ≤ 1000000 ∧ x.value.size ≤ 1000000) : labsOkB (l.map ofLab) = true := by
  unfold labsOkB
  rw [List.all_eq_true]
  intro y hy
  obtain ⟨x, hx, rfl⟩ := List.mem_map.1 hy
  have := h x hx
  unfold labOkB ofLab maxLen
  simp
  omega
theorem matsOkB_of {l : List Mat} (h : ∀ x ∈ l, x.name.size ≤ 1000000 ∧ x.value.size ≤ 1000000) : matsOkB (l.map ofMat) = true := by
  unfold matsOkB
  rw [List.all_eq_true]
  intro y hy
  obtain ⟨x, hx, rfl⟩ := List.mem_map.1 hy
  exact matOkB_of (h x hx).1 (h x hx).2
theorem sort_f {xs : List Lab} (h : ∀ x ∈ xs, labB x = true) : label_Sort.f (xs.map ofLab) = some ((sortL xs).map ofLab, sortE xs) := by
  unfold label_Sort.f
  rw [if_pos (labsOkB_of fun x hx => by have := labB_sz (h x hx); omega), labs_to_of]
theorem right1_f {x : Lab} (h : x.name.size ≤ 1000000 ∧ x.value.size ≤ 1000000) : label_Right.f [ofLab x] = some (labB x) := by
  have h1 : labsOkB [ofLab x] = true := labsOkB_of (l := [x]) fun y hy => by rw [List.mem_singleton.1 hy]; exact h
  unfold label_Right.f
  rw [if_pos h1]
  show some (labsB [x]) = _
  rw [labsB_one]
theorem cut_none {w : ByteArray} (hs : w.size ≤ 1000000) (h : cutP eqB w.data.toList = none) : strings_Cut.f w (⟨#[61]⟩ : ByteArray) = some (w, ⟨#[]⟩, false) := by
  unfold strings_Cut.f
  rw [if_pos ⟨hs, rfl⟩]
  unfold cutT
  rw [show cutP (fun b => b == (⟨#[61]⟩ : ByteArray).data.toList.headD 0) w.data.toList = none from h]
theorem cut_some {w : ByteArray} {r : List UInt8 × UInt8 × List UInt8} (hs : w.size ≤ 1000000) (h : cutP eqB w.data.toList = some r) : strings_Cut.f w (⟨#[61]⟩ : ByteArray) = some (tx r.1, tx r.2.2, true) := by
  unfold strings_Cut.f
  rw [if_pos ⟨hs, rfl⟩]
  unfold cutT
  rw [show cutP (fun b => b == (⟨#[61]⟩ : ByteArray).data.toList.headD 0) w.data.toList = some r from h]
theorem split_f {s : ByteArray} (hs : s.size ≤ 1000000) : strings_Split.f s (⟨#[32]⟩ : ByteArray) = some (wordsT 32 s) := by
  unfold strings_Split.f
  rw [if_pos ⟨hs, rfl⟩]
  rfl
theorem time_f {s : ByteArray} (hs : s.size ≤ 1000000) : wire_time.f s = some (atoiV s.data.toList, numB s.data.toList) := by
  unfold wire_time.f
  rw [if_pos hs, atoiB_eq]
theorem labP_none {l : List UInt8} (h : cutP eqB l = none) : labP l = none := by unfold labP; rw [h]
theorem labP_some {l : List UInt8} {r : List UInt8 × UInt8 × List UInt8} (h : cutP eqB l = some r) (hl : labB (labM r) = true) : labP l = some (labM r) := by unfold labP; rw [h]; exact if_pos hl
theorem labP_bad {l : List UInt8} {r : List UInt8 × UInt8 × List UInt8} (h : cutP eqB l = some r) (hl : ¬ labB (labM r) = true) : labP l = none := by unfold labP; rw [h]; exact if_neg hl
theorem alert_l (kd : Int) (ws : List ByteArray) (hw : ∀ w ∈ ws, w.size ≤ 100000) (hn : ws.length ≤ 100000) (d : Nat) : ∀ (k i : Nat) (xs : List Lab), i + d = ws.length → d < k → xs.length ≤ i → (∀ x ∈ xs, labB x = true) →
    wire_alert.l0 k kd (xs.map ofLab) ws (ws.length : Int) (i : Int) = some (msgR (alertF kd ((readAll labP (dat (ws.drop i))).map (xs ++ ·)))) := by
  induction d with
  | zero =>
    intro k i xs hi hk hx hb
    obtain ⟨k, rfl⟩ : ∃ q, k = q + 1 := ⟨k - 1, by omega⟩
    rw [wire_alert.l0, if_neg (by omega), sort_f hb, Option.bind_some, drop_end (by omega)]
    simp only [dat, List.map_nil, readAll, Option.map_some, List.append_nil, alertF]
    split <;> rfl
  | succ d ih =>
    intro k i xs hi hk hx hb
    obtain ⟨k, rfl⟩ : ∃ q, k = q + 1 := ⟨k - 1, by omega⟩
    have hlt : i < ws.length := by omega
    have hsz := hw _ (List.getElem_mem hlt)
    rw [wire_alert.l0, if_pos (by omega), if_pos (by omega), if_pos (by omega), rdB hlt, dat_cons hlt]
    generalize ws[i] = w at hsz ⊢
    rw [readAll]
    cases hc : cutP eqB w.data.toList with
    | none =>
      rw [cut_none (by omega) hc, labP_none hc]
      rfl
    | some r =>
      have hA : (tx r.1).size ≤ 1000000 ∧ (tx r.2.2).size ≤ 1000000 := by
        rcases r with ⟨ra, rc, rb⟩
        show (tx ra).size ≤ 1000000 ∧ (tx rb).size ≤ 1000000
        rw [tx_size, tx_size]
        have h9 := congrArg List.length (cutP_some hc).1
        simp only [List.length_append, List.length_cons] at h9
        rw [len_data] at h9
        omega
      have hr : label_Right.f [(⟨tx r.1, tx r.2.2⟩ : S52)] = some (labB (labM r)) := right1_f (x := labM r) hA
      rw [cut_some (by omega) hc, Option.bind_some, Option.bind_some, if_pos rfl, hr, Option.bind_some]
      by_cases hl : labB (labM r) = true
      · rw [if_pos hl, labP_some hc hl, if_pos (by simp; omega), w64s (by omega)]
        have e : xs.map ofLab ++ [(⟨tx r.1, tx r.2.2⟩ : S52)] = (xs ++ [labM r]).map ofLab := by simp [ofLab, labM]
        rw [e, ih k (i + 1) (xs ++ [labM r]) (by omega) (by omega) (by simp; omega) (by
          intro x hx
          rcases List.mem_append.1 hx with hx | hx
          · exact hb x hx
          · rw [List.mem_singleton.1 hx]; exact hl)]
        simp only
        rw [map_app]
      · rw [if_neg hl, labP_bad hc hl]
        rfl
theorem alert_f (kd : Int) {ws : List ByteArray} (hw : ∀ w ∈ ws, w.size ≤ 100000) (hn : ws.length ≤ 100000) {k : Nat} (hk : ws.length < k) : wire_alert.f k kd ws = some (msgR (alertP kd (dat ws))) := by
  have := alert_l kd ws hw hn ws.length k 0 [] (by omega) hk (by simp) (by simp)
  unfold wire_alert.f
  rw [alertP_F, n0]
  simpa using this
theorem hush_l (ws : List ByteArray) (hw : ∀ w ∈ ws, w.size ≤ 100000) (hn : ws.length ≤ 100000) (f t : Int) (d : Nat) : ∀ (k i : Nat) (xs : List Mat), i + d = ws.length → d < k → xs.length ≤ i →
    wire_hush.l0 k ws (ws.length : Int) (i : Int) f t (xs.map ofMat) = some (msgR (hushF f t ((readAll askP (dat (ws.drop i))).map (xs ++ ·)))) := by
  induction d with
  | zero =>
    intro k i xs hi hk hx
    obtain ⟨k, rfl⟩ : ∃ q, k = q + 1 := ⟨k - 1, by omega⟩
    rw [wire_hush.l0, if_neg (by omega), drop_end (by omega)]
    simp only [dat, List.map_nil, readAll, Option.map_some, List.append_nil, hushF, List.length_map]
    by_cases h4 : 4 < xs.length
    · rw [if_pos (by omega), if_pos h4]; rfl
    · rw [if_neg (by omega), if_neg h4]
      by_cases h5 : t ≤ f
      · rw [if_pos (by omega), if_pos h5]; rfl
      · rw [if_neg (by omega), if_neg h5]; rfl
  | succ d ih =>
    intro k i xs hi hk hx
    obtain ⟨k, rfl⟩ : ∃ q, k = q + 1 := ⟨k - 1, by omega⟩
    have hlt : i < ws.length := by omega
    have hsz := hw _ (List.getElem_mem hlt)
    rw [wire_hush.l0, if_pos (by omega), if_pos (by omega), if_pos (by omega), rdB hlt, dat_cons hlt, asked_f hsz, Option.bind_some, readAll]
    cases hc : askP ws[i].data.toList with
    | none =>
      show (if (13 : Int) = 0 then _ else _) = _
      rw [if_neg (by decide)]
      rfl
    | some m =>
      show (if (0 : Int) = 0 then _ else _) = _
      rw [if_pos rfl, if_pos (by rw [List.length_map]; omega), w64s (by omega)]
      show wire_hush.l0 k _ _ _ _ _ (xs.map ofMat ++ [(⟨m.kind, m.name, m.value⟩ : S32)]) = _
      have e : xs.map ofMat ++ [(⟨m.kind, m.name, m.value⟩ : S32)] = (xs ++ [m]).map ofMat := by simp [ofMat]
      rw [e, ih k (i + 1) (xs ++ [m]) (by omega) (by omega) (by simp; omega), map_app]
theorem hushP_F (f t : List UInt8) (w : List UInt8) (r : List (List UInt8)) : hushP (f :: t :: w :: r) = if (numB f && numB t) = true then hushF (numV f) (numV t) (readAll askP (w :: r)) else (Msg.zero, 13) := by
  simp only [hushP]
  by_cases hc : (numB f && numB t) = true
  · rw [if_pos hc, if_pos hc]
    cases readAll askP (w :: r) <;> rfl
  · rw [if_neg hc, if_neg hc]
theorem hush_f {ws : List ByteArray} (hw : ∀ w ∈ ws, w.size ≤ 100000) (hn : ws.length ≤ 100000) {k : Nat} (hk : ws.length + 1 < k) : wire_hush.f k ws = some (msgR (hushP (dat ws))) := by
  obtain ⟨k, rfl⟩ : ∃ q, k = q + 1 := ⟨k - 1, by omega⟩
  unfold wire_hush.f
  match ws, hw, hn, hk with
  | [], _, _, _ => rfl
  | [_], _, _, _ => rfl
  | [_, _], _, _, _ => rfl
  | f :: t :: w :: r, hw, hn, hk =>
    simp only [List.length_cons] at hn hk ⊢
    rw [if_neg (by push_cast; omega), if_pos (by push_cast; omega), show rdOf ByteArray.empty (f :: t :: w :: r) 0 = f from rfl, show rdOf ByteArray.empty (f :: t :: w :: r) 1 = t from rfl, time_f (by have := hw f (by simp); omega), time_f (by have := hw t (by simp); omega), Option.bind_some, if_pos (by push_cast; omega), Option.bind_some]
    simp only
    show _ = some (msgR (hushP (f.data.toList :: t.data.toList :: w.data.toList :: dat r)))
    rw [hushP_F]
    cases h1 : numB f.data.toList with
    | false =>
      rw [if_neg (by simp), Bool.false_and, if_neg (by simp), wire_hush.j0, if_pos rfl]
      rfl
    | true =>
      cases h2 : numB t.data.toList with
      | false =>
        rw [if_pos rfl, Bool.and_false, if_neg (by simp), wire_hush.j0, if_pos (show (!false) = true from rfl)]
        rfl
      | true =>
        rw [if_pos rfl, Bool.and_true, if_pos rfl, wire_hush.j0, if_neg (by simp), if_pos (by simp only [List.length_cons]; push_cast; omega), atoiV_num h1, atoiV_num h2]
        have := hush_l (w :: r) (fun x hx => hw x (List.mem_cons_of_mem f (List.mem_cons_of_mem t hx))) (by simp only [List.length_cons]; omega) (numV f.data.toList) (numV t.data.toList) (w :: r).length k 0 [] (by omega) (by simp only [List.length_cons]; omega) (by simp)
        simp only [List.drop_succ_cons, List.drop_zero, List.map_nil, List.nil_append, Option.map_id'] at this ⊢
        exact this
theorem words_ok {s : ByteArray} {n : Nat} (h : s.size ≤ n) : (∀ w ∈ wordsT 32 s, w.size ≤ n) ∧ (wordsT 32 s).length ≤ n + 1 ∧ dat (wordsT 32 s) = splitL 32 s.data.toList := by
  have hl := len_data s
  refine ⟨fun w hw => ?_, ?_, ?_⟩
  · obtain ⟨x, hx, rfl⟩ := List.mem_map.1 hw
    have := (splitL_mem 32 _ x hx).2
    rw [tx_size]
    omega
  · have := splitL_len 32 s.data.toList
    unfold wordsT
    rw [List.length_map]
    omega
  · unfold dat wordsT
    rw [List.map_map]
    have : ((fun w : ByteArray => w.data.toList) ∘ tx) = id := by funext x; rfl
    rw [this, List.map_id]
theorem parse_f {s : ByteArray} (hs : s.size ≤ 100000) {k : Nat} (hk : 300 < k) : wire_Parse.f k s = some (msgR (parseP s.data.toList)) := by
  have hl := len_data s
  unfold wire_Parse.f parseP
  by_cases hb : 200 < s.size
  · rw [if_pos (by omega), if_pos (by omega)]
    rfl
  · rw [if_neg (by omega), if_neg (by omega)]
    rw [split_f (by omega), Option.bind_some]
    obtain ⟨h1, h2, h3⟩ := words_ok (show s.size ≤ 200 by omega)
    generalize wordsT 32 s = ws at h1 h2 h3
    rw [← h3]
    cases ws with
    | nil =>
      obtain ⟨h, t, e⟩ := splitL_form 32 s.data.toList
      rw [e] at h3
      cases h3
    | cons w r =>
      have hr := fun x hx => h1 x (List.mem_cons_of_mem w hx)
      simp only [List.length_cons] at h2
      rw [if_pos (by simp only [List.length_cons]; omega)]
      rw [show rdOf ByteArray.empty (w :: r) 0 = w from rfl, toList_data]
      show _ = some (msgR (parseW (w.data.toList :: dat r)))
      simp only [parseW, List.drop_succ_cons, List.drop_zero]
      by_cases c1 : w.data.toList = [102, 105, 114, 101]
      · rw [if_pos c1, if_pos (show w.data.toList = fireT from c1), if_pos (by simp only [List.length_cons]; omega), alert_f 0 (fun x hx => by have := hr x hx; omega) (by omega) (by omega)]
        rfl
      · rw [if_neg c1, if_neg (show ¬ w.data.toList = fireT from c1)]
        by_cases c2 : w.data.toList = [100, 111, 110, 101]
        · rw [if_pos c2, if_pos (show w.data.toList = doneT from c2), if_pos (by simp only [List.length_cons]; omega), alert_f 1 (fun x hx => by have := hr x hx; omega) (by omega) (by omega)]
          rfl
        · rw [if_neg c2, if_neg (show ¬ w.data.toList = doneT from c2)]
          by_cases c3 : w.data.toList = [104, 117, 115, 104]
          · rw [if_pos c3, if_pos (show w.data.toList = hushT from c3), if_pos (by simp only [List.length_cons]; omega), hush_f (fun x hx => by have := hr x hx; omega) (by omega) (by omega)]
            rfl
          · rw [if_neg c3, if_neg (show ¬ w.data.toList = hushT from c3)]
            rfl
end Go.Proofs.YtjfknmlchdifjaaGreatDoorQ.P
namespace Go.Proofs.YtjfknmlchdifjaaGreatDoorQ.P
open Go.RowKit Go.Proofs.YtjfknmlchdifjaaGreatDoorW.PrintWords Go.Proofs.YtjfknmlchdifjaaGreatDoor
def msg0 : Msg := ⟨2, [], 5, 9, [⟨2, ⟨#[97]⟩, ⟨#[119, 101]⟩⟩, ⟨3, ⟨#[122]⟩, ⟨#[]⟩⟩]⟩
theorem msg0_ok : msg0.okB = true := by decide
theorem msg0_text : msg0.text = [104, 117, 115, 104, 32, 53, 32, 57, 32, 97, 94, 119, 101, 32, 122, 63] := by
  have h5 : Lib.decDigits 5 = [53] := by rw [Lib.decDigits, dif_pos (by omega)]; rfl
  have h9 : Lib.decDigits 9 = [57] := by rw [Lib.decDigits, dif_pos (by omega)]; rfl
  unfold Msg.text Msg.words
  rw [if_pos (show msg0.kind = 2 from rfl), show msg0.fr.toNat = 5 from rfl, show msg0.til.toNat = 9 from rfl, h5, h9]
  rfl
theorem alive12_f {k : Nat} (hk : 300 < k) : foghornlaw12_alive.f k = some true := by
  have h := parse_text msg0_ok
  rw [msg0_text] at h
  unfold foghornlaw12_alive.f
  rw [parse_f (by show 16 ≤ 100000; omega) hk, show (⟨#[104, 117, 115, 104, 32, 53, 32, 57, 32, 97, 94, 119, 101, 32, 122, 63]⟩ : ByteArray).data.toList = [104, 117, 115, 104, 32, 53, 32, 57, 32, 97, 94, 119, 101, 32, 122, 63] from rfl, h, Option.bind_some]
  show (if (0 : Int) = 0 then (if (2 : Int) = 2 then (if (9 : Int) = 9 then (if ((2 : Nat) : Int) = 2 then (if (0 : Int) < ((2 : Nat) : Int) then (some ((⟨#[119, 101]⟩ : ByteArray).toList == ([119, 101] : List UInt8))) else none) else some false) else some false) else some false) else some false) = some true
  rw [if_pos rfl, if_pos rfl, if_pos rfl, if_pos (by omega), if_pos (by omega), toList_data]
  rfl
theorem alive12_only {k : Nat} {r : Bool} (h : foghornlaw12_alive.f k = some r) : r = true := by
  have hm : ∀ d, foghornlaw12_alive.f (k + d) = some r := by
    intro d
    induction d with
    | zero => exact h
    | succ d ih => exact (foghornlaw12_alive.mono (k + d)) _ ih
  have h1 := hm 301
  rw [alive12_f (by omega)] at h1
  exact (Option.some.inj h1).symm
theorem foghornlaw12_alive.calls (k : Nat) (r : Bool) (w : World) (hG : GOK w) (h : foghornlaw12_alive.f k = some r) :
    Calls Tryz.prog 15 #[] w fun e w' => e = .returned (.bool r) ∧ Below w.heap.size w w' := foghornlaw12_alive.callsT k r w hG h (alive12_only h)
end Go.Proofs.YtjfknmlchdifjaaGreatDoorQ.P
namespace Go.Proofs.YtjfknmlchdifjaaGreatDoorQ.P
open Go.RowKit Go.Proofs.YtjfknmlchdifjaaGreatDoorW.PrintWords Go.Proofs.YtjfknmlchdifjaaGreatDoorW.PrintLast Go.Proofs.YtjfknmlchdifjaaGreatDoorW.PrintMore
attribute [local go_sem] max2_int min2_int max_two min_two max_three min_three max_four min_four
theorem eqA32 (d : Nat) (w : World) (x0 y0 : Int) (x1 y1 : ByteArray) (x2 y2 : ByteArray) :
  (Op.equalIn (d + 2) 32 (.agg #[.int .i64 x0, .string x1, .string x2]) (.agg #[.int .i64 y0, .string y1, .string y2])).run Tryz.prog w = .ok (x0 == y0 && (x1.toList == y1.toList && (x2.toList == y2.toList))) w := by
 refine eqA_of Tryz.underlying32 (by kernel_rfl) ?_
 refine eqf_cons (by rfl) (by go_simp; rfl) (by go_simp; rfl) (by go_simp) ?_
 refine eqf_cons (by rfl) (by go_simp; rfl) (by go_simp; rfl) (by go_simp) ?_
 exact eqf_last (by rfl) (by go_simp; rfl) (by go_simp; rfl) (by go_simp)
end Go.Proofs.YtjfknmlchdifjaaGreatDoorQ.P
namespace Go.Proofs.YtjfknmlchdifjaaGreatDoorQ.P
open Go.RowKit Go.Proofs.YtjfknmlchdifjaaGreatDoorW.PrintWords Go.Proofs.YtjfknmlchdifjaaGreatDoorW.PrintLast Go.Proofs.YtjfknmlchdifjaaGreatDoorW.PrintMore
attribute [local go_sem] max2_int min2_int max_two min_two max_three min_three max_four min_four
attribute [local go_sem high] eqA32
def foghornref10_Asked.l0 : Nat → List (S32) → List (S32) → Int → Int → Option (Bool)
 | 0, _, _, _, _ => none
 | k + 1, x0, x1, x12, x13 => if x13 < x12 then (if 0 ≤ x13 then (if x13 < (x0.length : Int) then (if x13 < (x1.length : Int) then (if (!(((rd_T32 x0 x13).f0) == ((rd_T32 x1 x13).f0)) || (!((((rd_T32 x0 x13).f1).toList) == (((rd_T32 x1 x13).f1).toList)) || (!((((rd_T32 x0 x13).f2).toList) == (((rd_T32 x1 x13).f2).toList))))) = true then (some false) else (foghornref10_Asked.l0 k x0 x1 x12 (wrap64 (x13 + 1)))) else (none)) else (none)) else (none)) else (some true)
def foghornref10_Asked.f (k : Nat) (l0 : List (S32)) (l1 : List (S32)) : Option (Bool) := if (l0.length : Int) = (l1.length : Int) then (foghornref10_Asked.l0 k l0 l1 (l0.length : Int) 0) else (some false)
theorem foghornref10_Asked.mono_l : ∀ k, (∀ y0 y1 y2 y3, LeO (foghornref10_Asked.l0 k y0 y1 y2 y3) (foghornref10_Asked.l0 (k + 1) y0 y1 y2 y3))
 | 0 => fun _ _ _ _ r h => by simp [foghornref10_Asked.l0] at h
 | k + 1 => by
  have ih0 := foghornref10_Asked.mono_l k
  ·intro y0 y1 y2 y3
   unfold foghornref10_Asked.l0
   repeat' first
   | (with_reducible exact ih0 _ _ _ _)
   | (with_reducible exact LeO.refl _)
   | (with_reducible exact LeO.none _)
   | (with_reducible refine LeO.ite ?_ ?_)
   | (with_reducible refine LeO.bind ?_ (fun _ => ?_))
   | exact ih0 _ _ _ _
   | exact LeO.none _
   | refine LeO.ite ?_ ?_
   | refine LeO.bind ?_ (fun _ => ?_)
theorem foghornref10_Asked.mono : ∀ a0 a1 k, LeO (foghornref10_Asked.f k a0 a1) (foghornref10_Asked.f (k + 1) a0 a1) := by
 intro a0 a1 k
 have ih0 := foghornref10_Asked.mono_l k
 unfold foghornref10_Asked.f
 repeat' first
   | (with_reducible exact ih0 _ _ _ _)
   | (with_reducible exact LeO.refl _)
   | (with_reducible exact LeO.none _)
   | (with_reducible refine LeO.ite ?_ ?_)
   | (with_reducible refine LeO.bind ?_ (fun _ => ?_))
   | exact ih0 _ _ _ _
   | exact LeO.none _
   | refine LeO.ite ?_ ?_
   | refine LeO.bind ?_ (fun _ => ?_)
set_option maxHeartbeats 8000000 in
set_option maxRecDepth 100000 in
theorem foghornref10_Asked.calls (k : Nat) (A0 : Option Addr) (c0 : Nat) (l0 : List (S32)) (A1 : Option Addr) (c1 : Nat) (l1 : List (S32)) (r : Bool) (w : World) (hr0 : Kd.C k32 w A0 l0.length l0) (hc0 : l0.length ≤ c0) (hr1 : Kd.C k32 w A1 l1.length l1) (hc1 : l1.length ≤ c1) (h : foghornref10_Asked.f k l0 l1 = some r) :
  Calls Tryz.prog 58 #[.slice A0 l0.length c0, .slice A1 l1.length c1] w fun e w' => e = .returned (.bool r) ∧ Drawn0 w w' := by
 have hu32 := Tryz.underlying32
 have HR0 := aA hr0
 have HC0 := aA hc0
 clear hr0 hc0
 have HR1 := aA hr1
 have HC1 := aA hc1
 clear hr1 hc1
 have H : (if (l0.length : Int) = (l1.length : Int) then (foghornref10_Asked.l0 k l0 l1 (l0.length : Int) 0) else (some false)) = some r := h
 clear h
 by_cases c3 : (l0.length : Int) = (l1.length : Int)
 ·rw [if_pos c3] at H
  have c3b0 : ((l0.length : Int) == (l1.length : Int)) = true := beq_iff_eq.mpr c3
  have c3b1 : ((l0.length : Int) != (l1.length : Int)) = false := bne_eq_false_iff_eq.mpr c3
  have c3b2 : (l0.length == l1.length) = true := by first | simpa using c3 | (simp at c3 ⊢; omega)
  clear c3
  have H' := aA H
  clear H
  go_enter Tryz.func58, Tryz.ntmps58
  go_wp2
  repeat (go_quiet (fail); try go_wp2)
  go_loopg [13] k (fun kq v13 w' => ∃ (x13_1 : Int), v13 = .int .i64 x13_1 ∧ Aside0 (foghornref10_Asked.l0 kq l0 l1 (l0.length : Int) x13_1 = some r) ∧ Aside0 (kq ≤ k) ∧ Drawn0 w w')
  case atStart => exact ⟨(0), (by first | rfl | (simp; done) | (simp [*]; done)), H', ⟨Nat.le_refl _⟩, by repeat (first | exact Drawn0.refl _ | apply Drawn0.step)⟩
  case round =>
   clear H'
   try clear c1
   try clear p2
   try clear c3
   try clear c3b0
   try clear c3b1
   try clear c3b2
   obtain ⟨x13_1, rfl, HA, HK1, ⟨m1, rfl⟩⟩ := hrel
   cases gk with
   | zero => exact absurd HA.out (by simp [foghornref10_Asked.l0])
   | succ k1 =>
    have H := HA.out
    clear HA
    simp only [foghornref10_Asked.l0] at H
    by_cases c4 : x13_1 < (l0.length : Int)
    ·rw [if_pos c4] at H
     have c4b0 : decide (x13_1 < (l0.length : Int)) = true := decide_eq_true c4
     clear c4
     by_cases c5 : 0 ≤ x13_1
     ·rw [if_pos c5] at H
      have c5b0 : decide (0 ≤ x13_1) = true := decide_eq_true c5
      clear c5
      by_cases c6 : x13_1 < (l0.length : Int)
      ·rw [if_pos c6] at H
       have c6b0 : decide (x13_1 < (l0.length : Int)) = true := decide_eq_true c6
       clear c6
       by_cases c7 : x13_1 < (l1.length : Int)
       ·rw [if_pos c7] at H
        have c7b0 : decide (x13_1 < (l1.length : Int)) = true := decide_eq_true c7
        clear c7
        by_cases c8 : (!(((rd_T32 l0 x13_1).f0) == ((rd_T32 l1 x13_1).f0)) || (!((((rd_T32 l0 x13_1).f1).toList) == (((rd_T32 l1 x13_1).f1).toList)) || (!((((rd_T32 l0 x13_1).f2).toList) == (((rd_T32 l1 x13_1).f2).toList))))) = true
        ·rw [if_pos c8] at H
         have c8b0 : (!(((rd_T32 l0 x13_1).f0) == ((rd_T32 l1 x13_1).f0)) || (!((((rd_T32 l0 x13_1).f1).toList) == (((rd_T32 l1 x13_1).f1).toList)) || (!((((rd_T32 l0 x13_1).f2).toList) == (((rd_T32 l1 x13_1).f2).toList))))) = true := c8
         clear c8
         obtain rfl := Option.some.inj H
         have p321 : 0 ≤ (x13_1 : Int) := of_decide_eq_true (by first | (with_reducible assumption) | assumption)
         have q321 : x13_1 < (l0.length : Int) := of_decide_eq_true (by first | (with_reducible assumption) | assumption)
         obtain ⟨ad321, e321, hx321_0, hx321_1, hx321_2⟩ := at_T32 HR0.out x13_1 p321 q321
         cases e321
         replace p321 := eq_true p321
         replace q321 := eq_true q321
         have p322 : 0 ≤ (x13_1 : Int) := of_decide_eq_true (by first | (with_reducible assumption) | assumption)
         have q322 : x13_1 < (l1.length : Int) := of_decide_eq_true (by first | (with_reducible assumption) | assumption)
         obtain ⟨ad322, e322, hx322_0, hx322_1, hx322_2⟩ := at_T32 HR1.out x13_1 p322 q322
         cases e322
         replace p322 := eq_true p322
         replace q322 := eq_true q322
         go_wp2
         repeat (go_quiet (fail); try go_wp2)
         go_ret
         exact ⟨by first | rfl | (simp; done) | (simp [*]; done), by repeat (first | exact Drawn0.refl _ | apply Drawn0.step)⟩
        ·rw [if_neg c8] at H
         have c8b0 : (!(((rd_T32 l0 x13_1).f0) == ((rd_T32 l1 x13_1).f0)) || (!((((rd_T32 l0 x13_1).f1).toList) == (((rd_T32 l1 x13_1).f1).toList)) || (!((((rd_T32 l0 x13_1).f2).toList) == (((rd_T32 l1 x13_1).f2).toList))))) = false := by simpa using c8
         clear c8
         have H' := aA H
         clear H
         have p321 : 0 ≤ (x13_1 : Int) := of_decide_eq_true (by first | (with_reducible assumption) | assumption)
         have q321 : x13_1 < (l0.length : Int) := of_decide_eq_true (by first | (with_reducible assumption) | assumption)
         obtain ⟨ad321, e321, hx321_0, hx321_1, hx321_2⟩ := at_T32 HR0.out x13_1 p321 q321
         cases e321
         replace p321 := eq_true p321
         replace q321 := eq_true q321
         have p322 : 0 ≤ (x13_1 : Int) := of_decide_eq_true (by first | (with_reducible assumption) | assumption)
         have q322 : x13_1 < (l1.length : Int) := of_decide_eq_true (by first | (with_reducible assumption) | assumption)
         obtain ⟨ad322, e322, hx322_0, hx322_1, hx322_2⟩ := at_T32 HR1.out x13_1 p322 q322
         cases e322
         replace p322 := eq_true p322
         replace q322 := eq_true q322
         go_wp2
         repeat (go_quiet (fail); try go_wp2)
         go_roundg k1
         case measure => have := HK1.out; omega
         case rel => exact ⟨(wrap64 (x13_1 + 1)), (by first | rfl | (simp; done) | (simp [*]; done)), H', ⟨by have := HK1.out; omega⟩, by repeat (first | exact Drawn0.refl _ | apply Drawn0.step)⟩
       ·rw [if_neg c7] at H
        exact absurd H (by simp)
      ·rw [if_neg c6] at H
       exact absurd H (by simp)
     ·rw [if_neg c5] at H
      exact absurd H (by simp)
    ·rw [if_neg c4] at H
     have c4b0 : decide (x13_1 < (l0.length : Int)) = false := decide_eq_false c4
     clear c4
     obtain rfl := Option.some.inj H
     go_wp2
     repeat (go_quiet (fail); try go_wp2)
     go_ret
     exact ⟨by first | rfl | (simp; done) | (simp [*]; done), by repeat (first | exact Drawn0.refl _ | apply Drawn0.step)⟩
 ·rw [if_neg c3] at H
  have c3b0 : ((l0.length : Int) == (l1.length : Int)) = false := beq_eq_false_iff_ne.mpr c3
  have c3b1 : ((l0.length : Int) != (l1.length : Int)) = true := bne_iff_ne.mpr c3
  have c3b2 : (l0.length == l1.length) = false := by first | simpa using c3 | (simp at c3 ⊢; omega)
  obtain rfl := Option.some.inj H
  go_enter Tryz.func58, Tryz.ntmps58
  go_wp2
  repeat (go_quiet (fail); try go_wp2)
  go_ret
  exact ⟨by first | rfl | (simp; done) | (simp [*]; done), by repeat (first | exact Drawn0.refl _ | apply Drawn0.step)⟩
end Go.Proofs.YtjfknmlchdifjaaGreatDoorQ.P
namespace Go.Proofs.YtjfknmlchdifjaaGreatDoorQ.P
open Go.RowKit Go.Proofs.YtjfknmlchdifjaaGreatDoorW.PrintWords Go.Proofs.YtjfknmlchdifjaaGreatDoorW.PrintLast Go.Proofs.YtjfknmlchdifjaaGreatDoorW.PrintMore
attribute [local go_sem] max2_int min2_int max_two min_two max_three min_three max_four min_four
def foghornref12_Hushes.f (k : Nat) (a0_0 : Int) (a0_1 : Int) (l0_2 : List (S32)) (a1_0 : Int) (a1_1 : Int) (l1_2 : List (S32)) : Option (Bool) := if a0_0 = a1_0 then (if a0_1 = a1_1 then ((foghornref10_Asked.f k l0_2 l1_2).bind fun t325 => (some t325)) else (some false)) else (some false)
theorem foghornref12_Hushes.mono : ∀ a0 a1 a2 a3 a4 a5 k, LeO (foghornref12_Hushes.f k a0 a1 a2 a3 a4 a5) (foghornref12_Hushes.f (k + 1) a0 a1 a2 a3 a4 a5) := by
 intro a0 a1 a2 a3 a4 a5 k
 unfold foghornref12_Hushes.f
 repeat' first
   | (with_reducible exact foghornref10_Asked.mono _ _ _)
   | (with_reducible exact LeO.refl _)
   | (with_reducible exact LeO.none _)
   | (with_reducible refine LeO.ite ?_ ?_)
   | (with_reducible refine LeO.bind ?_ (fun _ => ?_))
   | exact foghornref10_Asked.mono _ _ _
   | exact LeO.none _
   | refine LeO.ite ?_ ?_
   | refine LeO.bind ?_ (fun _ => ?_)
set_option maxHeartbeats 8000000 in
set_option maxRecDepth 100000 in
theorem foghornref12_Hushes.calls (k : Nat) (a0_0 : Int) (a0_1 : Int) (A0_2 : Option Addr) (c0_2 : Nat) (l0_2 : List (S32)) (a1_0 : Int) (a1_1 : Int) (A1_2 : Option Addr) (c1_2 : Nat) (l1_2 : List (S32)) (r : Bool) (w : World) (hr0_2 : Kd.C k32 w A0_2 l0_2.length l0_2) (hc0_2 : l0_2.length ≤ c0_2) (hr1_2 : Kd.C k32 w A1_2 l1_2.length l1_2) (hc1_2 : l1_2.length ≤ c1_2) (h : foghornref12_Hushes.f k a0_0 a0_1 l0_2 a1_0 a1_1 l1_2 = some r) :
  Calls Tryz.prog 44 #[.agg #[.int .i64 a0_0, .int .i64 a0_1, .slice A0_2 l0_2.length c0_2], .agg #[.int .i64 a1_0, .int .i64 a1_1, .slice A1_2 l1_2.length c1_2]] w fun e w' => e = .returned (.bool r) ∧ Below w.heap.size w w' := by
 have hu25 := Tryz.underlying25
 have HR0_2 := aA hr0_2
 have HC0_2 := aA hc0_2
 clear hr0_2 hc0_2
 have HR1_2 := aA hr1_2
 have HC1_2 := aA hc1_2
 clear hr1_2 hc1_2
 have HB := aA (Below.refl w.heap.size w)
 have H : (if a0_0 = a1_0 then (if a0_1 = a1_1 then ((foghornref10_Asked.f k l0_2 l1_2).bind fun t325 => (some t325)) else (some false)) else (some false)) = some r := h
 clear h
 by_cases c3 : a0_0 = a1_0
 ·rw [if_pos c3] at H
  have c3b0 : (a0_0 == a1_0) = true := beq_iff_eq.mpr c3
  have c3b1 : (a0_0 != a1_0) = false := bne_eq_false_iff_eq.mpr c3
  clear c3
  by_cases c4 : a0_1 = a1_1
  ·rw [if_pos c4] at H
   have c4b0 : (a0_1 == a1_1) = true := beq_iff_eq.mpr c4
   have c4b1 : (a0_1 != a1_1) = false := bne_eq_false_iff_eq.mpr c4
   clear c4
   replace H := Option.bind_eq_some_iff.mp H
   obtain ⟨t325, A50, H⟩ := H
   have A5 := aA A50
   clear A50
   obtain rfl := Option.some.inj H
   go_enter Tryz.func44, Tryz.ntmps44
   go_wp2_with (first | ((with_reducible refine gate_dst (N := 2) rfl ?_); refine box_event ?hg (N := 2) ?hd (cs := #[.int .i64 a0_0, .int .i64 a0_1, .slice A0_2 l0_2.length c0_2]) (t := 25) ?hr ?_; (case hd => rfl); (case hg => rfl); (case hr => first | (go_simp; done) | (go_simp; rfl)); intro gb323 hg w6 hbox hb; have n0_ := aA (below_step mB hb); have n1_ := aA (hbox); have n2_ := aA ((bZ hg mB)); have n3_ := aA ((bZ hg mB)); clear HB; have HB := n0_; have BK323 := n1_; have GW323 := n2_; have GE323 := n3_; clear n0_ n1_ n2_ n3_ hb hbox hg) | ((with_reducible refine gate_dst (N := 3) rfl ?_); refine box_event ?hg (N := 3) ?hd (cs := #[.int .i64 a1_0, .int .i64 a1_1, .slice A1_2 l1_2.length c1_2]) (t := 25) ?hr ?_; (case hd => rfl); (case hg => rfl); (case hr => first | (go_simp; done) | (go_simp; rfl)); intro gb324 hg w7 hbox hb; have n0_ := aA (bB BK323.out hb); have n1_ := aA (below_step (mD1 GE323.out) hb); have n2_ := aA (hbox); have n3_ := aA ((bZ hg (mD1 GE323.out))); have n4_ := aA ((bZ hg (mD1 GE323.out))); have n5_ := aA ((bL hg BK323.out)); have n6_ := aA ((bG hg BK323.out)); clear BK323 HB; have BK323 := n0_; have HB := n1_; have BK324 := n2_; have GW324 := n3_; have GE324 := n4_; have NB323_324 := n5_; have NB324_323 := n6_; clear n0_ n1_ n2_ n3_ n4_ n5_ n6_ hb hbox hg; have hnb8 := NB323_324.out; have hnc8 := NB324_323.out; obtain ⟨hcz9_0, hcz9_1, hcz9_2⟩ := bC3 BK323.out; obtain ⟨hfz9_0, hfz9_1, hfz9_2⟩ := bF3 BK323.out; obtain ⟨hcz10_0, hcz10_1, hcz10_2⟩ := bC3 BK324.out; obtain ⟨hfz10_0, hfz10_1, hfz10_2⟩ := bF3 BK324.out) | (go_at_call 58; (with_reducible refine (foghornref10_Asked.calls k _ _ l0_2 _ _ l1_2 t325 _ ?side1 ?side2 ?side3 ?side4 A5.out).mono ?_); (case side1 => exact mC ((Kd.C_below HR0_2.out HB.out))); (case side2 => exact HC0_2.out); (case side3 => exact mC ((Kd.C_below HR1_2.out HB.out))); (case side4 => exact HC1_2.out); rintro e w' ⟨rfl, ⟨nd, rfl⟩⟩))
   go_ret
   exact ⟨by first | rfl | (simp [errW_none, errW_some] <;> rfl) | (simp [*, errW_none, errW_some] <;> rfl), by repeat (first | (with_reducible first | exact HB.out | apply below_alloc | apply pw_below_drewN | apply below_drew1 | refine below_set ?_ GE323.out | refine below_set ?_ GE324.out) | exact HB.out)⟩
  ·rw [if_neg c4] at H
   have c4b0 : (a0_1 == a1_1) = false := beq_eq_false_iff_ne.mpr c4
   have c4b1 : (a0_1 != a1_1) = true := bne_iff_ne.mpr c4
   obtain rfl := Option.some.inj H
   go_enter Tryz.func44, Tryz.ntmps44
   go_wp2_with (first | ((with_reducible refine gate_dst (N := 2) rfl ?_); refine box_event ?hg (N := 2) ?hd (cs := #[.int .i64 a0_0, .int .i64 a0_1, .slice A0_2 l0_2.length c0_2]) (t := 25) ?hr ?_; (case hd => rfl); (case hg => rfl); (case hr => first | (go_simp; done) | (go_simp; rfl)); intro gb323 hg w11 hbox hb; have n0_ := aA (below_step mB hb); have n1_ := aA (hbox); have n2_ := aA ((bZ hg mB)); have n3_ := aA ((bZ hg mB)); clear HB; have HB := n0_; have BK323 := n1_; have GW323 := n2_; have GE323 := n3_; clear n0_ n1_ n2_ n3_ hb hbox hg) | ((with_reducible refine gate_dst (N := 3) rfl ?_); refine box_event ?hg (N := 3) ?hd (cs := #[.int .i64 a1_0, .int .i64 a1_1, .slice A1_2 l1_2.length c1_2]) (t := 25) ?hr ?_; (case hd => rfl); (case hg => rfl); (case hr => first | (go_simp; done) | (go_simp; rfl)); intro gb324 hg w12 hbox hb; have n0_ := aA (bB BK323.out hb); have n1_ := aA (below_step (mD1 GE323.out) hb); have n2_ := aA (hbox); have n3_ := aA ((bZ hg (mD1 GE323.out))); have n4_ := aA ((bZ hg (mD1 GE323.out))); have n5_ := aA ((bL hg BK323.out)); have n6_ := aA ((bG hg BK323.out)); clear BK323 HB; have BK323 := n0_; have HB := n1_; have BK324 := n2_; have GW324 := n3_; have GE324 := n4_; have NB323_324 := n5_; have NB324_323 := n6_; clear n0_ n1_ n2_ n3_ n4_ n5_ n6_ hb hbox hg; have hnb13 := NB323_324.out; have hnc13 := NB324_323.out; obtain ⟨hcz14_0, hcz14_1, hcz14_2⟩ := bC3 BK323.out; obtain ⟨hfz14_0, hfz14_1, hfz14_2⟩ := bF3 BK323.out; obtain ⟨hcz15_0, hcz15_1, hcz15_2⟩ := bC3 BK324.out; obtain ⟨hfz15_0, hfz15_1, hfz15_2⟩ := bF3 BK324.out))
   go_ret
   exact ⟨by first | rfl | (simp [errW_none, errW_some] <;> rfl) | (simp [*, errW_none, errW_some] <;> rfl), by repeat (first | (with_reducible first | exact HB.out | apply below_alloc | apply pw_below_drewN | apply below_drew1 | refine below_set ?_ GE323.out | refine below_set ?_ GE324.out) | exact HB.out)⟩
 ·rw [if_neg c3] at H
  have c3b0 : (a0_0 == a1_0) = false := beq_eq_false_iff_ne.mpr c3
  have c3b1 : (a0_0 != a1_0) = true := bne_iff_ne.mpr c3
  obtain rfl := Option.some.inj H
  go_enter Tryz.func44, Tryz.ntmps44
  go_wp2_with (first | ((with_reducible refine gate_dst (N := 2) rfl ?_); refine box_event ?hg (N := 2) ?hd (cs := #[.int .i64 a0_0, .int .i64 a0_1, .slice A0_2 l0_2.length c0_2]) (t := 25) ?hr ?_; (case hd => rfl); (case hg => rfl); (case hr => first | (go_simp; done) | (go_simp; rfl)); intro gb323 hg w16 hbox hb; have n0_ := aA (below_step mB hb); have n1_ := aA (hbox); have n2_ := aA ((bZ hg mB)); have n3_ := aA ((bZ hg mB)); clear HB; have HB := n0_; have BK323 := n1_; have GW323 := n2_; have GE323 := n3_; clear n0_ n1_ n2_ n3_ hb hbox hg) | ((with_reducible refine gate_dst (N := 3) rfl ?_); refine box_event ?hg (N := 3) ?hd (cs := #[.int .i64 a1_0, .int .i64 a1_1, .slice A1_2 l1_2.length c1_2]) (t := 25) ?hr ?_; (case hd => rfl); (case hg => rfl); (case hr => first | (go_simp; done) | (go_simp; rfl)); intro gb324 hg w17 hbox hb; have n0_ := aA (bB BK323.out hb); have n1_ := aA (below_step (mD1 GE323.out) hb); have n2_ := aA (hbox); have n3_ := aA ((bZ hg (mD1 GE323.out))); have n4_ := aA ((bZ hg (mD1 GE323.out))); have n5_ := aA ((bL hg BK323.out)); have n6_ := aA ((bG hg BK323.out)); clear BK323 HB; have BK323 := n0_; have HB := n1_; have BK324 := n2_; have GW324 := n3_; have GE324 := n4_; have NB323_324 := n5_; have NB324_323 := n6_; clear n0_ n1_ n2_ n3_ n4_ n5_ n6_ hb hbox hg; have hnb18 := NB323_324.out; have hnc18 := NB324_323.out; obtain ⟨hcz19_0, hcz19_1, hcz19_2⟩ := bC3 BK323.out; obtain ⟨hfz19_0, hfz19_1, hfz19_2⟩ := bF3 BK323.out; obtain ⟨hcz20_0, hcz20_1, hcz20_2⟩ := bC3 BK324.out; obtain ⟨hfz20_0, hfz20_1, hfz20_2⟩ := bF3 BK324.out))
  go_ret
  exact ⟨by first | rfl | (simp [errW_none, errW_some] <;> rfl) | (simp [*, errW_none, errW_some] <;> rfl), by repeat (first | (with_reducible first | exact HB.out | apply below_alloc | apply pw_below_drewN | apply below_drew1 | refine below_set ?_ GE323.out | refine below_set ?_ GE324.out) | exact HB.out)⟩
end Go.Proofs.YtjfknmlchdifjaaGreatDoorQ.P
namespace Go.Proofs.YtjfknmlchdifjaaGreatDoorQ.P
open Go.RowKit Go.Proofs.YtjfknmlchdifjaaGreatDoorW.PrintWords Go.Proofs.YtjfknmlchdifjaaGreatDoorW.PrintLast Go.Proofs.YtjfknmlchdifjaaGreatDoorW.PrintMore
attribute [local go_sem] max2_int min2_int max_two min_two max_three min_three max_four min_four
def foghornref12_Same.f (k : Nat) (a0_0 : Int) (l0_1 : List (S52)) (a0_2 : Int) (a0_3 : Int) (l0_4 : List (S32)) (a1_0 : Int) (l1_1 : List (S52)) (a1_2 : Int) (a1_3 : Int) (l1_4 : List (S32)) : Option (Bool) := if a0_0 = a1_0 then ((foghornref10_Same.f l0_1 l1_1).bind fun t328 => (if t328 = true then ((foghornref12_Hushes.f k a0_2 a0_3 l0_4 a1_2 a1_3 l1_4).bind fun t329 => (some t329)) else (some false))) else (some false)
theorem foghornref12_Same.mono : ∀ a0 a1 a2 a3 a4 a5 a6 a7 a8 a9 k, LeO (foghornref12_Same.f k a0 a1 a2 a3 a4 a5 a6 a7 a8 a9) (foghornref12_Same.f (k + 1) a0 a1 a2 a3 a4 a5 a6 a7 a8 a9) := by
 intro a0 a1 a2 a3 a4 a5 a6 a7 a8 a9 k
 unfold foghornref12_Same.f
 repeat' first
   | (with_reducible exact foghornref12_Hushes.mono _ _ _ _ _ _ _)
   | (with_reducible exact LeO.refl _)
   | (with_reducible exact LeO.none _)
   | (with_reducible refine LeO.ite ?_ ?_)
   | (with_reducible refine LeO.bind ?_ (fun _ => ?_))
   | exact foghornref12_Hushes.mono _ _ _ _ _ _ _
   | exact LeO.none _
   | refine LeO.ite ?_ ?_
   | refine LeO.bind ?_ (fun _ => ?_)
set_option maxHeartbeats 8000000 in
set_option maxRecDepth 100000 in
theorem foghornref12_Same.calls (k : Nat) (a0_0 : Int) (A0_1 : Option Addr) (c0_1 : Nat) (l0_1 : List (S52)) (a0_2 : Int) (a0_3 : Int) (A0_4 : Option Addr) (c0_4 : Nat) (l0_4 : List (S32)) (a1_0 : Int) (A1_1 : Option Addr) (c1_1 : Nat) (l1_1 : List (S52)) (a1_2 : Int) (a1_3 : Int) (A1_4 : Option Addr) (c1_4 : Nat) (l1_4 : List (S32)) (r : Bool) (w : World) (hr0_1 : Kd.C k52 w A0_1 l0_1.length l0_1) (hc0_1 : l0_1.length ≤ c0_1) (hr0_4 : Kd.C k32 w A0_4 l0_4.length l0_4) (hc0_4 : l0_4.length ≤ c0_4) (hr1_1 : Kd.C k52 w A1_1 l1_1.length l1_1) (hc1_1 : l1_1.length ≤ c1_1) (hr1_4 : Kd.C k32 w A1_4 l1_4.length l1_4) (hc1_4 : l1_4.length ≤ c1_4) (h : foghornref12_Same.f k a0_0 l0_1 a0_2 a0_3 l0_4 a1_0 l1_1 a1_2 a1_3 l1_4 = some r) :
  Calls Tryz.prog 14 #[.agg #[.int .i64 a0_0, .slice A0_1 l0_1.length c0_1, .int .i64 a0_2, .int .i64 a0_3, .slice A0_4 l0_4.length c0_4], .agg #[.int .i64 a1_0, .slice A1_1 l1_1.length c1_1, .int .i64 a1_2, .int .i64 a1_3, .slice A1_4 l1_4.length c1_4]] w fun e w' => e = .returned (.bool r) ∧ Below w.heap.size w w' := by
 have hu27 := Tryz.underlying27
 have hu25 := Tryz.underlying25
 have HR0_1 := aA hr0_1
 have HC0_1 := aA hc0_1
 clear hr0_1 hc0_1
 have HR0_4 := aA hr0_4
 have HC0_4 := aA hc0_4
 clear hr0_4 hc0_4
 have HR1_1 := aA hr1_1
 have HC1_1 := aA hc1_1
 clear hr1_1 hc1_1
 have HR1_4 := aA hr1_4
 have HC1_4 := aA hc1_4
 clear hr1_4 hc1_4
 have HB := aA (Below.refl w.heap.size w)
 have H : (if a0_0 = a1_0 then ((foghornref10_Same.f l0_1 l1_1).bind fun t328 => (if t328 = true then ((foghornref12_Hushes.f k a0_2 a0_3 l0_4 a1_2 a1_3 l1_4).bind fun t329 => (some t329)) else (some false))) else (some false)) = some r := h
 clear h
 by_cases c3 : a0_0 = a1_0
 ·rw [if_pos c3] at H
  have c3b0 : (a0_0 == a1_0) = true := beq_iff_eq.mpr c3
  have c3b1 : (a0_0 != a1_0) = false := bne_eq_false_iff_eq.mpr c3
  clear c3
  replace H := Option.bind_eq_some_iff.mp H
  obtain ⟨t328, A40, H⟩ := H
  have A4 := aA A40
  clear A40
  by_cases c5 : t328 = true
  ·subst c5
   have H1 : ((foghornref12_Hushes.f k a0_2 a0_3 l0_4 a1_2 a1_3 l1_4).bind fun t329 => (some t329)) = some r := by rw [if_pos rfl] at H; exact H
   clear H
   have H := H1
   clear H1
   replace H := Option.bind_eq_some_iff.mp H
   obtain ⟨t329, A60, H⟩ := H
   have A6 := aA A60
   clear A60
   obtain rfl := Option.some.inj H
   go_enter Tryz.func14, Tryz.ntmps14
   go_wp2_with (first | ((with_reducible refine gate_dst (N := 2) rfl ?_); refine box_event ?hg (N := 2) ?hd (cs := #[.int .i64 a0_0, .slice A0_1 l0_1.length c0_1, .int .i64 a0_2, .int .i64 a0_3, .slice A0_4 l0_4.length c0_4]) (t := 27) ?hr ?_; (case hd => rfl); (case hg => rfl); (case hr => first | (go_simp; done) | (go_simp; rfl)); intro gb326 hg w7 hbox hb; have n0_ := aA (below_step mB hb); have n1_ := aA (hbox); have n2_ := aA ((bZ hg mB)); have n3_ := aA ((bZ hg mB)); clear HB; have HB := n0_; have BK326 := n1_; have GW326 := n2_; have GE326 := n3_; clear n0_ n1_ n2_ n3_ hb hbox hg) | ((with_reducible refine gate_dst (N := 3) rfl ?_); refine box_event ?hg (N := 3) ?hd (cs := #[.int .i64 a1_0, .slice A1_1 l1_1.length c1_1, .int .i64 a1_2, .int .i64 a1_3, .slice A1_4 l1_4.length c1_4]) (t := 27) ?hr ?_; (case hd => rfl); (case hg => rfl); (case hr => first | (go_simp; done) | (go_simp; rfl)); intro gb327 hg w8 hbox hb; have n0_ := aA (bB BK326.out hb); have n1_ := aA (below_step (mD1 GE326.out) hb); have n2_ := aA (hbox); have n3_ := aA ((bZ hg (mD1 GE326.out))); have n4_ := aA ((bZ hg (mD1 GE326.out))); have n5_ := aA ((bL hg BK326.out)); have n6_ := aA ((bG hg BK326.out)); clear BK326 HB; have BK326 := n0_; have HB := n1_; have BK327 := n2_; have GW327 := n3_; have GE327 := n4_; have NB326_327 := n5_; have NB327_326 := n6_; clear n0_ n1_ n2_ n3_ n4_ n5_ n6_ hb hbox hg; have hnb9 := NB326_327.out; have hnc9 := NB327_326.out; obtain ⟨hcz10_0, hcz10_1, hcz10_2, hcz10_3, hcz10_4⟩ := bC5 BK326.out; obtain ⟨hfz10_0, hfz10_1, hfz10_2, hfz10_3, hfz10_4⟩ := bF5 BK326.out; obtain ⟨hcz11_0, hcz11_1, hcz11_2, hcz11_3, hcz11_4⟩ := bC5 BK327.out; obtain ⟨hfz11_0, hfz11_1, hfz11_2, hfz11_3, hfz11_4⟩ := bF5 BK327.out) | (go_at_call 43; (with_reducible refine (foghornref10_Same.calls _ _ l0_1 _ _ l1_1 true _ ?side1 ?side2 ?side3 ?side4 A4.out).mono ?_); (case side1 => exact mC ((Kd.C_below HR0_1.out HB.out))); (case side2 => exact HC0_1.out); (case side3 => exact mC ((Kd.C_below HR1_1.out HB.out))); (case side4 => exact HC1_1.out); rintro e w12 ⟨rfl, hb⟩; have n0_ := aA (bB BK326.out hb); have n1_ := aA (bB BK327.out hb); have n2_ := aA (below_step (mD2 GE326.out GE327.out) hb); clear BK326 BK327 HB; have BK326 := n0_; have BK327 := n1_; have HB := n2_; clear n0_ n1_ n2_; (try clear hb); (try clear hb2); (try clear hk); (try clear hi); obtain ⟨hcz13_0, hcz13_1, hcz13_2, hcz13_3, hcz13_4⟩ := bC5 BK326.out; obtain ⟨hfz13_0, hfz13_1, hfz13_2, hfz13_3, hfz13_4⟩ := bF5 BK326.out; obtain ⟨hcz14_0, hcz14_1, hcz14_2, hcz14_3, hcz14_4⟩ := bC5 BK327.out; obtain ⟨hfz14_0, hfz14_1, hfz14_2, hfz14_3, hfz14_4⟩ := bF5 BK327.out) | (go_at_call 44; (with_reducible refine (foghornref12_Hushes.calls k a0_2 a0_3 _ _ l0_4 a1_2 a1_3 _ _ l1_4 t329 _ ?side1 ?side2 ?side3 ?side4 A6.out).mono ?_); (case side1 => exact mC ((Kd.C_below HR0_4.out HB.out))); (case side2 => exact HC0_4.out); (case side3 => exact mC ((Kd.C_below HR1_4.out HB.out))); (case side4 => exact HC1_4.out); rintro e w15 ⟨rfl, hb⟩; have n0_ := aA (bB BK326.out hb); have n1_ := aA (bB BK327.out hb); have n2_ := aA (below_step (mD2 GE326.out GE327.out) hb); clear BK326 BK327 HB; have BK326 := n0_; have BK327 := n1_; have HB := n2_; clear n0_ n1_ n2_; (try clear hb); (try clear hb2); (try clear hk); (try clear hi)))
   go_ret
   exact ⟨by first | rfl | (simp [errW_none, errW_some] <;> rfl) | (simp [*, errW_none, errW_some] <;> rfl), by repeat (first | (with_reducible first | exact HB.out | apply below_alloc | apply pw_below_drewN | apply below_drew1 | refine below_set ?_ GE326.out | refine below_set ?_ GE327.out) | exact HB.out)⟩
  ·replace c5 := Bool.eq_false_iff.mpr c5
   subst c5
   have H1 : (some false) = some r := by rw [if_neg (show ¬ (false = true) by decide)] at H; exact H
   clear H
   have H := H1
   clear H1
   obtain rfl := Option.some.inj H
   go_enter Tryz.func14, Tryz.ntmps14
   go_wp2_with (first | ((with_reducible refine gate_dst (N := 2) rfl ?_); refine box_event ?hg (N := 2) ?hd (cs := #[.int .i64 a0_0, .slice A0_1 l0_1.length c0_1, .int .i64 a0_2, .int .i64 a0_3, .slice A0_4 l0_4.length c0_4]) (t := 27) ?hr ?_; (case hd => rfl); (case hg => rfl); (case hr => first | (go_simp; done) | (go_simp; rfl)); intro gb326 hg w16 hbox hb; have n0_ := aA (below_step mB hb); have n1_ := aA (hbox); have n2_ := aA ((bZ hg mB)); have n3_ := aA ((bZ hg mB)); clear HB; have HB := n0_; have BK326 := n1_; have GW326 := n2_; have GE326 := n3_; clear n0_ n1_ n2_ n3_ hb hbox hg) | ((with_reducible refine gate_dst (N := 3) rfl ?_); refine box_event ?hg (N := 3) ?hd (cs := #[.int .i64 a1_0, .slice A1_1 l1_1.length c1_1, .int .i64 a1_2, .int .i64 a1_3, .slice A1_4 l1_4.length c1_4]) (t := 27) ?hr ?_; (case hd => rfl); (case hg => rfl); (case hr => first | (go_simp; done) | (go_simp; rfl)); intro gb327 hg w17 hbox hb; have n0_ := aA (bB BK326.out hb); have n1_ := aA (below_step (mD1 GE326.out) hb); have n2_ := aA (hbox); have n3_ := aA ((bZ hg (mD1 GE326.out))); have n4_ := aA ((bZ hg (mD1 GE326.out))); have n5_ := aA ((bL hg BK326.out)); have n6_ := aA ((bG hg BK326.out)); clear BK326 HB; have BK326 := n0_; have HB := n1_; have BK327 := n2_; have GW327 := n3_; have GE327 := n4_; have NB326_327 := n5_; have NB327_326 := n6_; clear n0_ n1_ n2_ n3_ n4_ n5_ n6_ hb hbox hg; have hnb18 := NB326_327.out; have hnc18 := NB327_326.out; obtain ⟨hcz19_0, hcz19_1, hcz19_2, hcz19_3, hcz19_4⟩ := bC5 BK326.out; obtain ⟨hfz19_0, hfz19_1, hfz19_2, hfz19_3, hfz19_4⟩ := bF5 BK326.out; obtain ⟨hcz20_0, hcz20_1, hcz20_2, hcz20_3, hcz20_4⟩ := bC5 BK327.out; obtain ⟨hfz20_0, hfz20_1, hfz20_2, hfz20_3, hfz20_4⟩ := bF5 BK327.out) | (go_at_call 43; (with_reducible refine (foghornref10_Same.calls _ _ l0_1 _ _ l1_1 false _ ?side1 ?side2 ?side3 ?side4 A4.out).mono ?_); (case side1 => exact mC ((Kd.C_below HR0_1.out HB.out))); (case side2 => exact HC0_1.out); (case side3 => exact mC ((Kd.C_below HR1_1.out HB.out))); (case side4 => exact HC1_1.out); rintro e w21 ⟨rfl, hb⟩; have n0_ := aA (bB BK326.out hb); have n1_ := aA (bB BK327.out hb); have n2_ := aA (below_step (mD2 GE326.out GE327.out) hb); clear BK326 BK327 HB; have BK326 := n0_; have BK327 := n1_; have HB := n2_; clear n0_ n1_ n2_; (try clear hb); (try clear hb2); (try clear hk); (try clear hi)))
   go_ret
   exact ⟨by first | rfl | (simp [errW_none, errW_some] <;> rfl) | (simp [*, errW_none, errW_some] <;> rfl), by repeat (first | (with_reducible first | exact HB.out | apply below_alloc | apply pw_below_drewN | apply below_drew1 | refine below_set ?_ GE326.out | refine below_set ?_ GE327.out) | exact HB.out)⟩
 ·rw [if_neg c3] at H
  have c3b0 : (a0_0 == a1_0) = false := beq_eq_false_iff_ne.mpr c3
  have c3b1 : (a0_0 != a1_0) = true := bne_iff_ne.mpr c3
  obtain rfl := Option.some.inj H
  go_enter Tryz.func14, Tryz.ntmps14
  go_wp2_with (first | ((with_reducible refine gate_dst (N := 2) rfl ?_); refine box_event ?hg (N := 2) ?hd (cs := #[.int .i64 a0_0, .slice A0_1 l0_1.length c0_1, .int .i64 a0_2, .int .i64 a0_3, .slice A0_4 l0_4.length c0_4]) (t := 27) ?hr ?_; (case hd => rfl); (case hg => rfl); (case hr => first | (go_simp; done) | (go_simp; rfl)); intro gb326 hg w22 hbox hb; have n0_ := aA (below_step mB hb); have n1_ := aA (hbox); have n2_ := aA ((bZ hg mB)); have n3_ := aA ((bZ hg mB)); clear HB; have HB := n0_; have BK326 := n1_; have GW326 := n2_; have GE326 := n3_; clear n0_ n1_ n2_ n3_ hb hbox hg) | ((with_reducible refine gate_dst (N := 3) rfl ?_); refine box_event ?hg (N := 3) ?hd (cs := #[.int .i64 a1_0, .slice A1_1 l1_1.length c1_1, .int .i64 a1_2, .int .i64 a1_3, .slice A1_4 l1_4.length c1_4]) (t := 27) ?hr ?_; (case hd => rfl); (case hg => rfl); (case hr => first | (go_simp; done) | (go_simp; rfl)); intro gb327 hg w23 hbox hb; have n0_ := aA (bB BK326.out hb); have n1_ := aA (below_step (mD1 GE326.out) hb); have n2_ := aA (hbox); have n3_ := aA ((bZ hg (mD1 GE326.out))); have n4_ := aA ((bZ hg (mD1 GE326.out))); have n5_ := aA ((bL hg BK326.out)); have n6_ := aA ((bG hg BK326.out)); clear BK326 HB; have BK326 := n0_; have HB := n1_; have BK327 := n2_; have GW327 := n3_; have GE327 := n4_; have NB326_327 := n5_; have NB327_326 := n6_; clear n0_ n1_ n2_ n3_ n4_ n5_ n6_ hb hbox hg; have hnb24 := NB326_327.out; have hnc24 := NB327_326.out; obtain ⟨hcz25_0, hcz25_1, hcz25_2, hcz25_3, hcz25_4⟩ := bC5 BK326.out; obtain ⟨hfz25_0, hfz25_1, hfz25_2, hfz25_3, hfz25_4⟩ := bF5 BK326.out; obtain ⟨hcz26_0, hcz26_1, hcz26_2, hcz26_3, hcz26_4⟩ := bC5 BK327.out; obtain ⟨hfz26_0, hfz26_1, hfz26_2, hfz26_3, hfz26_4⟩ := bF5 BK327.out))
  go_ret
  exact ⟨by first | rfl | (simp [errW_none, errW_some] <;> rfl) | (simp [*, errW_none, errW_some] <;> rfl), by repeat (first | (with_reducible first | exact HB.out | apply below_alloc | apply pw_below_drewN | apply below_drew1 | refine below_set ?_ GE326.out | refine below_set ?_ GE327.out) | exact HB.out)⟩
end Go.Proofs.YtjfknmlchdifjaaGreatDoorQ.P
namespace Go.Proofs.YtjfknmlchdifjaaGreatDoorQ.P
open Go.RowKit Go.Proofs.YtjfknmlchdifjaaGreatDoorW.PrintWords Go.Proofs.YtjfknmlchdifjaaGreatDoorW.PrintLast Go.Proofs.YtjfknmlchdifjaaGreatDoorW.PrintMore
attribute [local go_sem] max2_int min2_int max_two min_two max_three min_three max_four min_four
attribute [local go_sem high] eqA32
def foghornlaw12_WireParses.j0 : Nat → Int → Bool → Bool → Int → ByteArray → ByteArray → Int → ByteArray → ByteArray → Option (Bool)
 | 0, _, _, _, _, _, _, _, _, _ => none
 | k + 1, x10, x12, x55, x369000, x369001, x369002, x374000, x374001, x374002 => if x55 = true then (some false) else (if x12 = true then (if x10 = 0 then (some (x369000 == x374000 && (x369001.toList == x374001.toList && (x369002.toList == x374002.toList)))) else (some false)) else (if x10 = 13 then (some (x369000 == 0 && (x369001.toList == ([] : List UInt8) && (x369002.toList == ([] : List UInt8))))) else (some false)))
theorem foghornlaw12_WireParses.mono_l : ∀ k, (∀ y0 y1 y2 y3 y4 y5 y6 y7 y8, LeO (foghornlaw12_WireParses.j0 k y0 y1 y2 y3 y4 y5 y6 y7 y8) (foghornlaw12_WireParses.j0 (k + 1) y0 y1 y2 y3 y4 y5 y6 y7 y8))
 | 0 => fun _ _ _ _ _ _ _ _ _ r h => by simp [foghornlaw12_WireParses.j0] at h
 | k + 1 => by
  have ih0 := foghornlaw12_WireParses.mono_l k
  ·intro y0 y1 y2 y3 y4 y5 y6 y7 y8
   unfold foghornlaw12_WireParses.j0
   repeat' first
   | (with_reducible exact ih0 _ _ _ _ _ _ _ _ _)
   | (with_reducible exact foghornlaw12_alive.mono _)
   | (with_reducible exact foghornref12_Asked.mono _ _)
   | (with_reducible exact foghornref12_Parse.mono _ _)
   | (with_reducible exact foghornref12_Same.mono _ _ _ _ _ _ _ _ _ _ _)
   | (with_reducible exact wire_Parse.mono _ _)
   | (with_reducible exact LeO.refl _)
   | (with_reducible exact LeO.none _)
   | (with_reducible refine LeO.ite ?_ ?_)
   | (with_reducible refine LeO.bind ?_ (fun _ => ?_))
   | exact ih0 _ _ _ _ _ _ _ _ _
   | exact foghornlaw12_alive.mono _
   | exact foghornref12_Asked.mono _ _
   | exact foghornref12_Parse.mono _ _
   | exact foghornref12_Same.mono _ _ _ _ _ _ _ _ _ _ _
   | exact wire_Parse.mono _ _
   | exact LeO.none _
   | refine LeO.ite ?_ ?_
   | refine LeO.bind ?_ (fun _ => ?_)
end Go.Proofs.YtjfknmlchdifjaaGreatDoorQ.P
namespace Go.Proofs.YtjfknmlchdifjaaGreatDoorQ.P
open Go.RowKit Go.Proofs.YtjfknmlchdifjaaGreatDoorW.PrintWords Go.Proofs.YtjfknmlchdifjaaGreatDoorW.PrintLast Go.Proofs.YtjfknmlchdifjaaGreatDoorW.PrintMore
attribute [local go_sem] max2_int min2_int max_two min_two max_three min_three max_four min_four
def foghornlaw12_one.f (a0_0 : Int) (a0_1 : ByteArray) (a0_2 : ByteArray) : Option (Int × ByteArray × ByteArray) := if 0 ≤ (mn (a0_1.size : Int) 12) then (if (mn (a0_1.size : Int) 12) ≤ (a0_1.size : Int) then (if 0 ≤ (mn (a0_2.size : Int) 12) then (if (mn (a0_2.size : Int) 12) ≤ (a0_2.size : Int) then (some (a0_0, a0_1.extract 0 ((mn (a0_1.size : Int) 12) : Int).toNat, a0_2.extract 0 ((mn (a0_2.size : Int) 12) : Int).toNat)) else (none)) else (none)) else (none)) else (none)
def foghornlaw12_one.T1 : Bool × List (List Nat × List Nat) := (true, [([], []), ([0], [0]), ([], []), ([2], [2]), ([], []), ([4], [4]), ([5], [5]), ([6], [6]), ([3, 7], [3, 7]), ([], []), ([9], [9]), ([], []), ([11], [11]), ([12], [12]), ([13], [13]), ([10, 14], [10, 14]), ([1, 8, 15], [1, 8, 15]), ([16, 0, 1, 2, 3, 4, 5, 6, 7, 8, 9, 10, 11, 12, 13, 14, 15, 16], [16])])
def foghornlaw12_one.B1 : List Nat := [0, 1, 0, 4, 0, 16, 48, 112, 252, 0, 512, 0, 2048, 6144, 14336, 32256, 65535, 131071]
theorem foghornlaw12_one.tab1 : rtab .any (opsOf Tryz.f17 1) = foghornlaw12_one.T1 := by kernel_rfl
theorem foghornlaw12_one.bits1 : waitsOk foghornlaw12_one.T1.2 foghornlaw12_one.B1 = true := by kernel_rfl
set_option maxHeartbeats 8000000 in
set_option maxRecDepth 100000 in
theorem foghornlaw12_one.calls (a0_0 : Int) (a0_1 : ByteArray) (a0_2 : ByteArray) (r1 : Int) (r2 : ByteArray) (r3 : ByteArray) (w : World) (h : foghornlaw12_one.f a0_0 a0_1 a0_2 = some (r1, r2, r3)) :
  Calls Tryz.prog 17 #[.agg #[.int .i64 a0_0, .string a0_1, .string a0_2]] w fun e w' => e = .returned (.agg #[.int .i64 r1, .string r2, .string r3]) ∧ Below w.heap.size w w' := by
 have hu32 := Tryz.underlying32
 have HB := aA (Below.refl w.heap.size w)
 have H : (if 0 ≤ (mn (a0_1.size : Int) 12) then (if (mn (a0_1.size : Int) 12) ≤ (a0_1.size : Int) then (if 0 ≤ (mn (a0_2.size : Int) 12) then (if (mn (a0_2.size : Int) 12) ≤ (a0_2.size : Int) then (some (a0_0, a0_1.extract 0 ((mn (a0_1.size : Int) 12) : Int).toNat, a0_2.extract 0 ((mn (a0_2.size : Int) 12) : Int).toNat)) else (none)) else (none)) else (none)) else (none)) = some (r1, r2, r3) := h
 clear h
 obtain ⟨ji2, hji2⟩ : ∃ j_ : Int, (mn (a0_1.size : Int) 12) = j_ := ⟨_, rfl⟩
 replace H : (if 0 ≤ (ji2) then (if (ji2) ≤ (a0_1.size : Int) then (if 0 ≤ (mn (a0_2.size : Int) 12) then (if (mn (a0_2.size : Int) 12) ≤ (a0_2.size : Int) then (some (a0_0, a0_1.extract 0 ((ji2) : Int).toNat, a0_2.extract 0 ((mn (a0_2.size : Int) 12) : Int).toNat)) else (none)) else (none)) else (none)) else (none)) = some (r1, r2, r3) := by first | (rw [hji2] at H; exact H) | (simp only [hji2] at H ⊢; exact H)
 (try (have hji2h : ji2 ≤ 12 := by (rw [← hji2]; unfold mn; (repeat' split) <;> omega)))
 (try (have hji2g : ji2 ≤ 64 := by omega))
 (try (have hji2l : 0 ≤ ji2 := by (rw [← hji2]; unfold mn; (repeat' split) <;> omega)))
 (try (have hji2m : 0 ≤ ji2 := by omega))
 have hji2_ : (if 12 < (a0_1.size : Int) then 12 else (a0_1.size : Int)) = ji2 := hji2
 by_cases c3 : 0 ≤ (ji2)
 ·rw [if_pos c3] at H
  have c3b0 := eq_true c3
  have c3b1 := decide_eq_true c3
  clear c3
  by_cases c4 : (ji2) ≤ (a0_1.size : Int)
  ·rw [if_pos c4] at H
   have c4b0 := eq_true c4
   have c4b1 := decide_eq_true c4
   clear c4
   obtain ⟨ji5, hji5⟩ : ∃ j_ : Int, (mn (a0_2.size : Int) 12) = j_ := ⟨_, rfl⟩
   replace H : (if 0 ≤ (ji5) then (if (ji5) ≤ (a0_2.size : Int) then (some (a0_0, a0_1.extract 0 ((ji2) : Int).toNat, a0_2.extract 0 ((ji5) : Int).toNat)) else (none)) else (none)) = some (r1, r2, r3) := by first | (rw [hji5] at H; exact H) | (simp only [hji5] at H ⊢; exact H)
   (try (have hji5h : ji5 ≤ 12 := by (rw [← hji5]; unfold mn; (repeat' split) <;> omega)))
   (try (have hji5g : ji5 ≤ 64 := by omega))
   (try (have hji5l : 0 ≤ ji5 := by (rw [← hji5]; unfold mn; (repeat' split) <;> omega)))
   (try (have hji5m : 0 ≤ ji5 := by omega))
   have hji5_ : (if 12 < (a0_2.size : Int) then 12 else (a0_2.size : Int)) = ji5 := hji5
   by_cases c6 : 0 ≤ (ji5)
   ·rw [if_pos c6] at H
    have c6b0 := eq_true c6
    have c6b1 := decide_eq_true c6
    clear c6
    by_cases c7 : (ji5) ≤ (a0_2.size : Int)
    ·rw [if_pos c7] at H
     have c7b0 := eq_true c7
     have c7b1 := decide_eq_true c7
     clear c7
     simp only [Option.some.injEq, Prod.mk.injEq] at H
     obtain ⟨rfl, rfl, rfl⟩ := H
     go_enter Tryz.func17, Tryz.ntmps17
     try go_wp2_with (first | ((with_reducible refine gate_dst (N := 1) rfl ?_); refine box_event ?hg (N := 1) ?hd (cs := #[.int .i64 a0_0, .string a0_1, .string a0_2]) (t := 32) ?hr ?_; (case hd => rfl); (case hg => rfl); (case hr => first | (go_simp; done) | (go_simp; rfl)); intro gb376 hg w8 hbox hb; have n0_ := aA (below_step mB hb); have n1_ := aA (hbox); have n2_ := aA ((bZ hg mB)); have n3_ := aA ((bZ hg mB)); clear HB; have HB := n0_; have BK376 := n1_; have GW376 := n2_; have GE376 := n3_; clear n0_ n1_ n2_ n3_ hb hbox hg) | ((with_reducible refine gate_dst (N := 2) rfl ?_); refine box_event ?hg (N := 2) ?hd (cs := #[.int .i64 0, .string (⟨#[]⟩ : ByteArray), .string (⟨#[]⟩ : ByteArray)]) (t := 32) ?hr ?_; (case hd => rfl); (case hg => rfl); (case hr => first | (go_simp; done) | (go_simp; rfl)); intro gb377 hg w9 hbox hb; have n0_ := aA (bB BK376.out hb); have n1_ := aA (below_step (mD1 GE376.out) hb); have n2_ := aA (hbox); have n3_ := aA ((bZ hg (mD1 GE376.out))); have n4_ := aA ((bZ hg (mD1 GE376.out))); have n5_ := aA ((bL hg BK376.out)); have n6_ := aA ((bG hg BK376.out)); clear BK376 HB; have BK376 := n0_; have HB := n1_; have BK377 := n2_; have GW377 := n3_; have GE377 := n4_; have NB376_377 := n5_; have NB377_376 := n6_; clear n0_ n1_ n2_ n3_ n4_ n5_ n6_ hb hbox hg))
     have n0_ := aA (blk_drew BK376.out)
     have n1_ := aA (blk_drew BK377.out)
     have n2_ := aA (below_drew1 HB.out)
     clear BK376
     clear BK377
     clear HB
     have BK376 := n0_
     have BK377 := n1_
     have HB := n2_
     clear n0_ n1_ n2_
     refine start_ (n := 18) (S := fun w' => w'.cell? ⟨gb376, 0, none⟩ = some (.int .i64 a0_0) ∧ w'.cell? ⟨gb376, 1, none⟩ = some (.string a0_1) ∧ w'.cell? ⟨gb376, 2, none⟩ = some (.string a0_2)) (ds := []) (bA 18 0) (by kernel_rfl) rfl rfl (bC3 BK376.out) (fun hHeld => ?_); refine with_tabW foghornlaw12_one.tab1 foghornlaw12_one.bits1 (fun HT_ HW_ => ?_)
     generalize w9.drew = w10 at BK376 BK377 HB hHeld ⊢
     refine pure_ (i := 0) (N := some 3) (v := ?_) (a' := ?_) (bA 18 1) rfl rfl (any_of HT_.out (by kernel_rfl)) (fun _ _ _ h => h) (Or.inl ⟨by rfl, ?_⟩) ?_ ?_
     rotate_left
     ·intro w'
      go_simp
      with_reducible rfl
     rotate_left
     ·exact mP
     refine pure_ (i := 2) (N := some 5) (v := ?_) (a' := ?_) (bA 18 5) rfl rfl (any_of HT_.out (by kernel_rfl)) (fun _ _ _ h => h) (Or.inl ⟨by rfl, ?_⟩) ?_ ?_
     rotate_left
     ·intro w'
      go_simp
      with_reducible rfl
     rotate_left
     ·exact mP
     refine pure_ (i := 4) (N := some 7) (v := ?_) (a' := ?_) (bA 18 21) rfl rfl (any_of HT_.out (by kernel_rfl)) (fun _ _ _ h => h) (Or.inl ⟨by rfl, ?_⟩) ?_ ?_
     rotate_left
     ·intro w'
      go_simp
      with_reducible rfl
     rotate_left
     ·exact mP
     refine pure_ (i := 9) (N := some 12) (v := ?_) (a' := ?_) (bA 18 533) rfl rfl (any_of HT_.out (by kernel_rfl)) (fun _ _ _ h => h) (Or.inl ⟨by rfl, ?_⟩) ?_ ?_
     rotate_left
     ·intro w'
      go_simp
      with_reducible rfl
     rotate_left
     ·exact mP
     refine pure_ (i := 11) (N := some 14) (v := ?_) (a' := ?_) (bA 18 2581) rfl rfl (any_of HT_.out (by kernel_rfl)) (fun _ _ _ h => h) (Or.inl ⟨by rfl, ?_⟩) ?_ ?_
     rotate_left
     ·intro w'
      go_simp
      with_reducible rfl
     rotate_left
     ·exact mP
     refine take_ (i := 1) (N := some 4) (v := ?_) (a' := ?_) (bA 18 2583) rfl rfl (take_ofW HT_.out HW_.out (by kernel_rfl)) (fun _ _ _ h => h) (Or.inl ⟨by rfl, ?_⟩) hHeld ?_ ?_
     rotate_left
     ·rintro w' ⟨s0, s1, s2⟩
      go_simp
      with_reducible rfl
     rotate_left
     ·exact mP
     refine take_ (i := 3) (N := some 6) (v := ?_) (a' := ?_) (bA 18 2591) rfl rfl (take_ofW HT_.out HW_.out (by kernel_rfl)) (fun _ _ _ h => h) (Or.inl ⟨by rfl, ?_⟩) hHeld ?_ ?_
     rotate_left
     ·rintro w' ⟨s0, s1, s2⟩
      go_simp
      with_reducible rfl
     rotate_left
     ·exact mP
     refine take_ (i := 5) (N := some 8) (v := ?_) (a' := ?_) (bA 18 2623) rfl rfl (take_ofW HT_.out HW_.out (by kernel_rfl)) (fun _ _ _ h => h) (Or.inl ⟨by rfl, ?_⟩) hHeld ?_ ?_
     rotate_left
     ·rintro w' ⟨s0, s1, s2⟩
      go_simp
      with_reducible rfl
     rotate_left
     ·exact mP
     refine pure_ (i := 6) (N := some 9) (v := ?_) (a' := ?_) (bA 18 2687) rfl rfl (any_of HT_.out (by kernel_rfl)) (fun _ _ _ h => h) (Or.inl ⟨by rfl, ?_⟩) ?_ ?_
     rotate_left
     ·intro w'
      go_simp
      with_reducible rfl
     rotate_left
     ·exact mP
     refine pure_ (i := 7) (N := some 10) (v := ?_) (a' := ?_) (bA 18 2815) rfl rfl (any_of HT_.out (by kernel_rfl)) (fun _ _ _ h => h) (Or.inl ⟨by rfl, ?_⟩) ?_ ?_
     rotate_left
     ·intro w'
      go_simp
      with_reducible rfl
     rotate_left
     ·exact mP
     refine pure_ (i := 8) (N := some 11) (v := ?_) (a' := ?_) (bA 18 3071) rfl rfl (any_of HT_.out (by kernel_rfl)) (fun _ _ _ h => h) (Or.inl ⟨by rfl, ?_⟩) ?_ ?_
     rotate_left
     ·intro w'
      go_simp
      with_reducible rfl
     rotate_left
     ·exact mP
     refine take_ (i := 10) (N := some 13) (v := ?_) (a' := ?_) (bA 18 4095) rfl rfl (take_ofW HT_.out HW_.out (by kernel_rfl)) (fun _ _ _ h => h) (Or.inl ⟨by rfl, ?_⟩) hHeld ?_ ?_
     rotate_left
     ·rintro w' ⟨s0, s1, s2⟩
      go_simp
      with_reducible rfl
     rotate_left
     ·exact mP
     refine take_ (i := 12) (N := some 15) (v := ?_) (a' := ?_) (bA 18 8191) rfl rfl (take_ofW HT_.out HW_.out (by kernel_rfl)) (fun _ _ _ h => h) (Or.inl ⟨by rfl, ?_⟩) hHeld ?_ ?_
     rotate_left
     ·rintro w' ⟨s0, s1, s2⟩
      go_simp
      with_reducible rfl
     rotate_left
     ·exact mP
     refine pure_ (i := 13) (N := some 16) (v := ?_) (a' := ?_) (bA 18 16383) rfl rfl (any_of HT_.out (by kernel_rfl)) (fun _ _ _ h => h) (Or.inl ⟨by rfl, ?_⟩) ?_ ?_
     rotate_left
     ·intro w'
      go_simp
      with_reducible rfl
     rotate_left
     ·exact mP
     refine pure_ (i := 14) (N := some 17) (v := ?_) (a' := ?_) (bA 18 32767) rfl rfl (any_of HT_.out (by kernel_rfl)) (fun _ _ _ h => h) (Or.inl ⟨by rfl, ?_⟩) ?_ ?_
     rotate_left
     ·intro w'
      go_simp
      with_reducible rfl
     rotate_left
     ·exact mP
     refine pure_ (i := 15) (N := some 18) (v := ?_) (a' := ?_) (bA 18 65535) rfl rfl (any_of HT_.out (by kernel_rfl)) (fun _ _ _ h => h) (Or.inl ⟨by rfl, ?_⟩) ?_ ?_
     rotate_left
     ·intro w'
      go_simp
      with_reducible rfl
     rotate_left
     ·exact mP
     refine pure_ (i := 16) (N := some 19) (v := ?_) (a' := ?_) (bA 18 131071) rfl rfl (any_of HT_.out (by kernel_rfl)) (fun _ _ _ h => h) (Or.inl ⟨by rfl, ?_⟩) ?_ ?_
     rotate_left
     ·intro w'
      go_simp
      with_reducible rfl
     rotate_left
     ·exact mP
     refine one_ (i := 17) (N := none) (bA 18 262143) rfl rfl (one_of HT_.out (by kernel_rfl)) (by decide) (fun K hK => ?_)
     have hs11 : w10.cell? ⟨gb377, 0, none⟩ = some (.int .i64 0) := (blk_cell BK377.out 0).trans rfl
     have hfs11 := blk_frozen BK377.out 0
     have hns11_0 := NB376_377.out
     have hms11_0 := NB377_376.out
     have hs12 : w10.cell? ⟨gb377, 1, none⟩ = some (.string (⟨#[]⟩ : ByteArray)) := (blk_cell BK377.out 1).trans rfl
     have hfs12 := blk_frozen BK377.out 1
     have hns12_0 := NB376_377.out
     have hms12_0 := NB377_376.out
     have hs13 : w10.cell? ⟨gb377, 2, none⟩ = some (.string (⟨#[]⟩ : ByteArray)) := (blk_cell BK377.out 2).trans rfl
     have hfs13 := blk_frozen BK377.out 2
     have hns13_0 := NB376_377.out
     have hms13_0 := NB377_376.out
     refine skip_ (w1 := ?_) (by rfl) rfl ?_ ?_
     rotate_left
     ·go_simp
      rfl
     refine hK.out _ _ ⟨((cell_far (p := ⟨gb377, _, none⟩) NB376_377.out _).trans (((cell_far (p := ⟨gb377, _, none⟩) NB376_377.out _).trans (((cell_far (p := ⟨gb377, _, none⟩) NB376_377.out _).trans (hHeld.1)))))), ((cell_far (p := ⟨gb377, _, none⟩) NB376_377.out _).trans (((cell_far (p := ⟨gb377, _, none⟩) NB376_377.out _).trans (((cell_far (p := ⟨gb377, _, none⟩) NB376_377.out _).trans (hHeld.2.1)))))), ((cell_far (p := ⟨gb377, _, none⟩) NB376_377.out _).trans (((cell_far (p := ⟨gb377, _, none⟩) NB376_377.out _).trans (((cell_far (p := ⟨gb377, _, none⟩) NB376_377.out _).trans (hHeld.2.2))))))⟩ (fun hHeld => ?_)
     clear hK K
     refine done_ (done_of HT_.out (by kernel_rfl)) ?_
     try go_wp2
     refine bodyPost_ret (results_cell_row rfl _ _ gb377 32 #[.int .i64 a0_0, .string (a0_1.extract 0 ((ji2) : Int).toNat), .string (a0_2.extract 0 ((ji5) : Int).toNat)] (0, 0) _ rfl (by (with_reducible repeat (first | refine blk_drewN ?_ _ | refine blk_drew ?_ | refine blk_alloc ?_ _)); have h_ := BK377.out; exact pK 2 (pK 1 (pK 0 (h_)))) Tryz.underlying32 rfl (by kernel_rfl)) rfl ?_
     exact ⟨by first | rfl | (simp [errW_none, errW_some] <;> rfl) | (simp only [← hji2, ← hji5]; first | rfl | (simp [errW_none, errW_some] <;> rfl)) | (simp [*, errW_none, errW_some] <;> rfl), by repeat (first | (with_reducible first | exact HB.out | apply below_alloc | apply pw_below_drewN | apply below_drew1 | refine below_set ?_ GE376.out | refine below_set ?_ GE377.out) | exact HB.out)⟩
    ·rw [if_neg c7] at H
     exact absurd H (by simp)
   ·rw [if_neg c6] at H
    exact absurd H (by simp)
  ·rw [if_neg c4] at H
   exact absurd H (by simp)
 ·rw [if_neg c3] at H
  exact absurd H (by simp)
end Go.Proofs.YtjfknmlchdifjaaGreatDoorQ.P
namespace Go.Proofs.YtjfknmlchdifjaaGreatDoorQ.P
open Go.RowKit Go.Proofs.YtjfknmlchdifjaaGreatDoorW.PrintWords Go.Proofs.YtjfknmlchdifjaaGreatDoorW.PrintLast Go.Proofs.YtjfknmlchdifjaaGreatDoorW.PrintMore
attribute [local go_sem] max2_int min2_int max_two min_two max_three min_three max_four min_four
mutual
def foghornlaw12_few.l0 : Nat → List (S52) → List (S52) → Int → Int → Int → List (S52) → Int → Int → List (S32) → Option (Int × (List (S52)) × Int × Int × (List (S32)))
 | 0, _, _, _, _, _, _, _, _, _ => none
 | k + 1, x3, x15, x16, x17, x379000, x379001, x379002, x379003, x379004 => if x17 < x16 then (if 0 ≤ x17 then (if x17 < (x15.length : Int) then (if 0 ≤ (mn (((rd_T52 x15 x17).f0).size : Int) 12) then (if (mn (((rd_T52 x15 x17).f0).size : Int) 12) ≤ (((rd_T52 x15 x17).f0).size : Int) then (if 0 ≤ (mn (((rd_T52 x15 x17).f1).size : Int) 12) then (if (mn (((rd_T52 x15 x17).f1).size : Int) 12) ≤ (((rd_T52 x15 x17).f1).size : Int) then (if x3.length < 4398046511104 then (foghornlaw12_few.l0 k (x3 ++ [(⟨((rd_T52 x15 x17).f0).extract 0 ((mn (((rd_T52 x15 x17).f0).size : Int) 12) : Int).toNat, ((rd_T52 x15 x17).f1).extract 0 ((mn (((rd_T52 x15 x17).f1).size : Int) 12) : Int).toNat⟩ : S52)]) x15 x16 (wrap64 (x17 + 1)) x379000 x379001 x379002 x379003 x379004) else (none)) else (none)) else (none)) else (none)) else (none)) else (none)) else (none)) else (if 0 ≤ (mn (x379004.length : Int) 6) then (if (mn (x379004.length : Int) 6) ≤ (x379004.length : Int) then ((some (x379004.take ((mn (x379004.length : Int) 6) : Int).toNat : List (S32))).bind fun y389 => (foghornlaw12_few.l1 k x3 ([] : List (S32)) y389 (y389.length : Int) 0 x379000 x379001 x379002 x379003 x379004)) else (none)) else (none))
def foghornlaw12_few.l1 : Nat → List (S52) → List (S32) → List (S32) → Int → Int → Int → List (S52) → Int → Int → List (S32) → Option (Int × (List (S52)) × Int × Int × (List (S32)))
 | 0, _, _, _, _, _, _, _, _, _, _ => none
 | k + 1, x3, x6, x48, x49, x50, x379000, x379001, x379002, x379003, x379004 => if x50 < x49 then (if 0 ≤ x50 then (if x50 < (x48.length : Int) then ((foghornlaw12_one.f ((rd_T32 x48 x50).f0) ((rd_T32 x48 x50).f1) ((rd_T32 x48 x50).f2)).bind fun bt395 => (if x6.length < 3518437208883 then (foghornlaw12_few.l1 k x3 (x6 ++ [(⟨bt395.1, bt395.2.1, bt395.2.2⟩ : S32)]) x48 x49 (wrap64 (x50 + 1)) x379000 x379001 x379002 x379003 x379004) else (none))) else (none)) else (none)) else (some (x379000, x3, x379002, x379003, x6))
end
def foghornlaw12_few.f (k : Nat) (a0_0 : Int) (l0_1 : List (S52)) (a0_2 : Int) (a0_3 : Int) (l0_4 : List (S32)) : Option (Int × (List (S52)) × Int × Int × (List (S32))) := if 0 ≤ (mn (l0_1.length : Int) 5) then (if (mn (l0_1.length : Int) 5) ≤ (l0_1.length : Int) then ((some (l0_1.take ((mn (l0_1.length : Int) 5) : Int).toNat : List (S52))).bind fun y380 => (foghornlaw12_few.l0 k ([] : List (S52)) y380 (y380.length : Int) 0 a0_0 l0_1 a0_2 a0_3 l0_4)) else (none)) else (none)
theorem foghornlaw12_few.mono_l : ∀ k, (∀ y0 y1 y2 y3 y4 y5 y6 y7 y8, LeO (foghornlaw12_few.l0 k y0 y1 y2 y3 y4 y5 y6 y7 y8) (foghornlaw12_few.l0 (k + 1) y0 y1 y2 y3 y4 y5 y6 y7 y8)) ∧ (∀ y0 y1 y2 y3 y4 y5 y6 y7 y8 y9, LeO (foghornlaw12_few.l1 k y0 y1 y2 y3 y4 y5 y6 y7 y8 y9) (foghornlaw12_few.l1 (k + 1) y0 y1 y2 y3 y4 y5 y6 y7 y8 y9))
 | 0 => ⟨fun _ _ _ _ _ _ _ _ _ r h => by simp [foghornlaw12_few.l0] at h, fun _ _ _ _ _ _ _ _ _ _ r h => by simp [foghornlaw12_few.l1] at h⟩
 | k + 1 => by
  obtain ⟨ih0, ih1⟩ := foghornlaw12_few.mono_l k
  refine ⟨?_, ?_⟩
  ·intro y0 y1 y2 y3 y4 y5 y6 y7 y8
   unfold foghornlaw12_few.l0
   repeat' first
   | (with_reducible exact ih0 _ _ _ _ _ _ _ _ _)
   | (with_reducible exact ih1 _ _ _ _ _ _ _ _ _ _)
   | (with_reducible exact LeO.refl _)
   | (with_reducible exact LeO.none _)
   | (with_reducible refine LeO.ite ?_ ?_)
   | (with_reducible refine LeO.bind ?_ (fun _ => ?_))
   | exact ih0 _ _ _ _ _ _ _ _ _
   | exact ih1 _ _ _ _ _ _ _ _ _ _
   | exact LeO.none _
   | refine LeO.ite ?_ ?_
   | refine LeO.bind ?_ (fun _ => ?_)
  ·intro y0 y1 y2 y3 y4 y5 y6 y7 y8 y9
   unfold foghornlaw12_few.l1
   repeat' first
   | (with_reducible exact ih0 _ _ _ _ _ _ _ _ _)
   | (with_reducible exact ih1 _ _ _ _ _ _ _ _ _ _)
   | (with_reducible exact LeO.refl _)
   | (with_reducible exact LeO.none _)
   | (with_reducible refine LeO.ite ?_ ?_)
   | (with_reducible refine LeO.bind ?_ (fun _ => ?_))
   | exact ih0 _ _ _ _ _ _ _ _ _
   | exact ih1 _ _ _ _ _ _ _ _ _ _
   | exact LeO.none _
   | refine LeO.ite ?_ ?_
   | refine LeO.bind ?_ (fun _ => ?_)
theorem foghornlaw12_few.mono : ∀ a0 a1 a2 a3 a4 k, LeO (foghornlaw12_few.f k a0 a1 a2 a3 a4) (foghornlaw12_few.f (k + 1) a0 a1 a2 a3 a4) := by
 intro a0 a1 a2 a3 a4 k
 obtain ⟨ih0, ih1⟩ := foghornlaw12_few.mono_l k
 unfold foghornlaw12_few.f
 repeat' first
   | (with_reducible exact ih0 _ _ _ _ _ _ _ _ _)
   | (with_reducible exact ih1 _ _ _ _ _ _ _ _ _ _)
   | (with_reducible exact LeO.refl _)
   | (with_reducible exact LeO.none _)
   | (with_reducible refine LeO.ite ?_ ?_)
   | (with_reducible refine LeO.bind ?_ (fun _ => ?_))
   | exact ih0 _ _ _ _ _ _ _ _ _
   | exact ih1 _ _ _ _ _ _ _ _ _ _
   | exact LeO.none _
   | refine LeO.ite ?_ ?_
   | refine LeO.bind ?_ (fun _ => ?_)
def foghornlaw12_few.T5 : Bool × List (List Nat × List Nat) := (true, [([], []), ([], []), ([1], [1]), ([], []), ([3], [3]), ([4], [4]), ([5], [5]), ([2, 6], [2, 6]), ([], []), ([8], [8]), ([], []), ([10], [10]), ([11], [11]), ([12], [12]), ([9, 13], [9, 13]), ([7, 14], [7, 14]), ([15], [15]), ([0, 16], [0, 16]), ([17, 17, 0, 1, 2, 3, 4, 5, 6, 7, 8, 9, 10, 11, 12, 13, 14, 15, 16, 17], [0, 17])])
def foghornlaw12_few.B5 : List Nat := [0, 0, 2, 0, 8, 24, 56, 126, 0, 256, 0, 1024, 3072, 7168, 16128, 32766, 65534, 131071, 262143]
theorem foghornlaw12_few.tab5 : rtab .any (opsOf Tryz.f16 5) = foghornlaw12_few.T5 := by kernel_rfl
theorem foghornlaw12_few.bits5 : waitsOk foghornlaw12_few.T5.2 foghornlaw12_few.B5 = true := by kernel_rfl
set_option maxHeartbeats 8000000 in
set_option maxRecDepth 100000 in
theorem foghornlaw12_few.calls (k : Nat) (a0_0 : Int) (A0_1 : Option Addr) (c0_1 : Nat) (l0_1 : List (S52)) (a0_2 : Int) (a0_3 : Int) (A0_4 : Option Addr) (c0_4 : Nat) (l0_4 : List (S32)) (r1 : Int) (r2 : List (S52)) (r3 : Int) (r4 : Int) (r5 : List (S32)) (w : World) (hr0_1 : Kd.C k52 w A0_1 l0_1.length l0_1) (hc0_1 : l0_1.length ≤ c0_1) (hr0_4 : Kd.C k32 w A0_4 l0_4.length l0_4) (hc0_4 : l0_4.length ≤ c0_4) (h : foghornlaw12_few.f k a0_0 l0_1 a0_2 a0_3 l0_4 = some (r1, r2, r3, r4, r5)) :
  Calls Tryz.prog 16 #[.agg #[.int .i64 a0_0, .slice A0_1 l0_1.length c0_1, .int .i64 a0_2, .int .i64 a0_3, .slice A0_4 l0_4.length c0_4]] w fun e w' => ∃ v1_ v4_ : Value, e = .returned (.agg #[.int .i64 r1, v1_, .int .i64 r3, .int .i64 r4, v4_]) ∧ Kd.R k52 52 w' w.heap.size (fun _ => True) v1_ r2 ∧ Kd.R k32 32 w' w.heap.size (fun _ => True) v4_ r5 ∧ Below w.heap.size w w' := by
 have hu27 := Tryz.underlying27
 have hu52 := Tryz.underlying52
 have hu32 := Tryz.underlying32
 have HR0_1 := aA hr0_1
 have HC0_1 := aA hc0_1
 clear hr0_1 hc0_1
 have HR0_4 := aA hr0_4
 have HC0_4 := aA hc0_4
 clear hr0_4 hc0_4
 have HB := aA (Below.refl w.heap.size w)
 have H : (if 0 ≤ (mn (l0_1.length : Int) 5) then (if (mn (l0_1.length : Int) 5) ≤ (l0_1.length : Int) then ((some (l0_1.take ((mn (l0_1.length : Int) 5) : Int).toNat : List (S52))).bind fun y380 => (foghornlaw12_few.l0 k ([] : List (S52)) y380 (y380.length : Int) 0 a0_0 l0_1 a0_2 a0_3 l0_4)) else (none)) else (none)) = some (r1, r2, r3, r4, r5) := h
 clear h
 obtain ⟨ji2, hji2⟩ : ∃ j_ : Int, (mn (l0_1.length : Int) 5) = j_ := ⟨_, rfl⟩
 replace H : (if 0 ≤ (ji2) then (if (ji2) ≤ (l0_1.length : Int) then ((some (l0_1.take ((ji2) : Int).toNat : List (S52))).bind fun y380 => (foghornlaw12_few.l0 k ([] : List (S52)) y380 (y380.length : Int) 0 a0_0 l0_1 a0_2 a0_3 l0_4)) else (none)) else (none)) = some (r1, r2, r3, r4, r5) := by first | (rw [hji2] at H; exact H) | (simp only [hji2] at H ⊢; exact H)
 (try (have hji2h : ji2 ≤ 5 := by (rw [← hji2]; unfold mn; (repeat' split) <;> omega)))
 (try (have hji2g : ji2 ≤ 64 := by omega))
 (try (have hji2l : 0 ≤ ji2 := by (rw [← hji2]; unfold mn; (repeat' split) <;> omega)))
 (try (have hji2m : 0 ≤ ji2 := by omega))
 have hji2_ : (if 5 < (l0_1.length : Int) then 5 else (l0_1.length : Int)) = ji2 := hji2
 by_cases c3 : 0 ≤ (ji2)
 ·rw [if_pos c3] at H
  have c3b0 := eq_true c3
  have c3b1 := decide_eq_true c3
  clear c3
  by_cases c4 : (ji2) ≤ (l0_1.length : Int)
  ·rw [if_pos c4] at H
   have c4b0 := eq_true c4
   have c4b1 := decide_eq_true c4
   clear c4
   obtain ⟨y380, hy380⟩ : ∃ y_ : List (S52), y_ = (l0_1.take ((ji2) : Int).toNat) := ⟨_, rfl⟩
   replace H : (foghornlaw12_few.l0 k ([] : List (S52)) y380 (y380.length : Int) 0 a0_0 l0_1 a0_2 a0_3 l0_4) = some (r1, r2, r3, r4, r5) := by first | (rw [hy380]; with_reducible exact H) | (have H2_ := (Option.bind_some _ _).symm.trans H; rw [hy380]; with_reducible exact H2_) | (have H2_ := (Option.bind_some _ _).symm.trans H; with_reducible exact H2_) | with_reducible exact H | (rw [hy380]; exact H) | exact H
   have Ny380 := aA hy380
   clear hy380
   have H' := aA H
   clear H
   go_enter Tryz.func16, Tryz.ntmps16
   go_wp2_with (first | ((with_reducible refine gate_dst (N := 1) rfl ?_); refine box_event ?hg (N := 1) ?hd (cs := #[.int .i64 a0_0, .slice A0_1 l0_1.length c0_1, .int .i64 a0_2, .int .i64 a0_3, .slice A0_4 l0_4.length c0_4]) (t := 27) ?hr ?_; (case hd => rfl); (case hg => rfl); (case hr => first | (go_simp; done) | (go_simp; rfl)); intro gb378 hg w5 hbox hb; have n0_ := aA (below_step mB hb); have n1_ := aA (hbox); have n2_ := aA ((bZ hg mB)); have n3_ := aA ((bZ hg mB)); clear HB; have HB := n0_; have BK378 := n1_; have GW378 := n2_; have GE378 := n3_; clear n0_ n1_ n2_ n3_ hb hbox hg) | ((with_reducible refine gate_dst (N := 2) rfl ?_); refine box_event ?hg (N := 2) ?hd (cs := #[.int .i64 0, .slice none 0 0, .int .i64 0, .int .i64 0, .slice none 0 0]) (t := 27) ?hr ?_; (case hd => rfl); (case hg => rfl); (case hr => first | (go_simp; done) | (go_simp; rfl)); intro gb379 hg w6 hbox hb; have n0_ := aA (bB BK378.out hb); have n1_ := aA (below_step (mD1 GE378.out) hb); have n2_ := aA (hbox); have n3_ := aA ((bZ hg (mD1 GE378.out))); have n4_ := aA ((bZ hg (mD1 GE378.out))); have n5_ := aA ((bL hg BK378.out)); have n6_ := aA ((bG hg BK378.out)); clear BK378 HB; have BK378 := n0_; have HB := n1_; have BK379 := n2_; have GW379 := n3_; have GE379 := n4_; have NB378_379 := n5_; have NB379_378 := n6_; clear n0_ n1_ n2_ n3_ n4_ n5_ n6_ hb hbox hg; have hnb7 := NB378_379.out; have hnc7 := NB379_378.out; obtain ⟨hcz8_0, hcz8_1, hcz8_2, hcz8_3, hcz8_4⟩ := bC5 BK378.out; obtain ⟨hfz8_0, hfz8_1, hfz8_2, hfz8_3, hfz8_4⟩ := bF5 BK378.out; have q9 : ((ji2) : Int) ≤ ((l0_1.length : Int) : Int) := of_decide_eq_true (by first | (with_reducible assumption) | assumption); obtain ⟨i09, hi09, _, hsz9, _⟩ := info_parts info52; have hroom9 : l0_1.length ≤ c0_1 := HC0_1.out; have hC9 : Kd.C k52 _ A0_1 l0_1.length l0_1 := HR0_1.out; have hcut9 := cut_to (P := Tryz.prog) 22 52 .i64 Tryz.underlying22 hi09 A0_1 l0_1.length c0_1 (ji2) (of_decide_eq_true (by first | (with_reducible assumption) | assumption)) q9 hroom9; have hr9 := Kd.C_take (m := ((ji2) : Int).toNat) hC9 (by omega); have hy9 : y380.length = ((ji2) : Int).toNat := (by rw [Ny380.out, List.length_take]; omega); rw [← Ny380.out] at hr9; rw [← hy9] at hcut9; have HR383 := aA hr9; have HC383 := aA (show y380.length ≤ c0_1 from by omega); clear hr9 hC9 hroom9 hi09 hsz9; have KY9 := aA hy9; clear hy9; replace q9 := eq_true q9))
   go_loopg [3, 17] k (fun kq v3 v17 w' => ∃ (x3_1 : List (S52)) (x17_1 : Int), v17 = .int .i64 x17_1 ∧ Aside0 (foghornlaw12_few.l0 kq x3_1 y380 (y380.length : Int) x17_1 a0_0 l0_1 a0_2 a0_3 l0_4 = some (r1, r2, r3, r4, r5)) ∧ Aside0 (kq ≤ k) ∧ Aside0 (Kd.R k52 52 w' w.heap.size (fun _ => True) v3 x3_1) ∧ Aside0 (w'.heap[gb378]? = some (.cells #[.int .i64 a0_0, (.slice A0_1 l0_1.length c0_1), .int .i64 a0_2, .int .i64 a0_3, (.slice A0_4 l0_4.length c0_4)] 27 (0, 0))) ∧ Aside0 (w'.heap[gb379]? = some (.cells #[.int .i64 0, (.slice none 0 0), .int .i64 0, .int .i64 0, (.slice none 0 0)] 27 (0, 0))) ∧ Aside0 (Below w.heap.size w w'))
   case atStart => exact ⟨(([] : List (S52))), (0), (by first | rfl | (simp; done) | (simp [*]; done)), H', ⟨Nat.le_refl _⟩, ⟨by first | exact Kd.R_nil _ _ _ _ _ | exact Kd.N_nil _ _ _ _ _ | exact Kd.V_nil _ _ _ _ _ | exact Kd.Q_nil _ _ _ _ _ | exact Kd.S_nil _ _ _ _ _⟩, ⟨by (with_reducible repeat (first | refine blk_drewN ?_ _ | refine blk_drew ?_ | refine blk_alloc ?_ _)); exact BK378.out⟩, ⟨by (with_reducible repeat (first | refine blk_drewN ?_ _ | refine blk_drew ?_ | refine blk_alloc ?_ _)); exact BK379.out⟩, ⟨by repeat (first | (with_reducible first | exact HB.out | apply below_alloc | apply pw_below_drewN | apply below_drew1 | refine below_set ?_ GE378.out | refine below_set ?_ GE379.out) | exact HB.out)⟩⟩
   case round =>
    clear H'
    try clear c1
    try clear p2
    try clear c3
    try clear c3b0
    try clear c3b1
    try clear c4
    try clear c4b0
    try clear c4b1
    try clear c7
    try clear q9
    try clear hcz8_0 hcz8_1 hcz8_2 hcz8_3 hcz8_4
    try clear hfz8_0 hfz8_1 hfz8_2 hfz8_3 hfz8_4
    try clear q9
    obtain ⟨x3_1, x17_1, rfl, HA, HK1, HO_3, BK378, BK379, HB⟩ := hrel
    cases gk with
    | zero => exact absurd HA.out (by simp [foghornlaw12_few.l0])
    | succ k1 =>
     have H := HA.out
     clear HA
     simp only [foghornlaw12_few.l0] at H
     by_cases c10 : x17_1 < (y380.length : Int)
     ·rw [if_pos c10] at H
      have c10b0 : decide (x17_1 < (y380.length : Int)) = true := decide_eq_true c10
      clear c10
      by_cases c11 : 0 ≤ x17_1
      ·rw [if_pos c11] at H
       have c11b0 : decide (0 ≤ x17_1) = true := decide_eq_true c11
       clear c11
       by_cases c12 : x17_1 < (y380.length : Int)
       ·rw [if_pos c12] at H
        have c12b0 : decide (x17_1 < (y380.length : Int)) = true := decide_eq_true c12
        clear c12
        obtain ⟨ji13, hji13⟩ : ∃ j_ : Int, (mn (((rd_T52 y380 x17_1).f0).size : Int) 12) = j_ := ⟨_, rfl⟩
        replace H : (if 0 ≤ (ji13) then (if (ji13) ≤ (((rd_T52 y380 x17_1).f0).size : Int) then (if 0 ≤ (mn (((rd_T52 y380 x17_1).f1).size : Int) 12) then (if (mn (((rd_T52 y380 x17_1).f1).size : Int) 12) ≤ (((rd_T52 y380 x17_1).f1).size : Int) then (if x3_1.length < 4398046511104 then (foghornlaw12_few.l0 k1 (x3_1 ++ [(⟨((rd_T52 y380 x17_1).f0).extract 0 ((ji13) : Int).toNat, ((rd_T52 y380 x17_1).f1).extract 0 ((mn (((rd_T52 y380 x17_1).f1).size : Int) 12) : Int).toNat⟩ : S52)]) y380 (y380.length : Int) (wrap64 (x17_1 + 1)) a0_0 l0_1 a0_2 a0_3 l0_4) else (none)) else (none)) else (none)) else (none)) else (none)) = some (r1, r2, r3, r4, r5) := by first | (rw [hji13] at H; exact H) | (simp only [hji13] at H ⊢; exact H)
        have hji13_ : (if 12 < (((rd_T52 y380 x17_1).f0).size : Int) then 12 else (((rd_T52 y380 x17_1).f0).size : Int)) = ji13 := hji13
        by_cases c14 : 0 ≤ (ji13)
        ·rw [if_pos c14] at H
         have c14b0 := eq_true c14
         have c14b1 := decide_eq_true c14
         clear c14
         by_cases c15 : (ji13) ≤ (((rd_T52 y380 x17_1).f0).size : Int)
         ·rw [if_pos c15] at H
          have c15b0 := eq_true c15
          have c15b1 := decide_eq_true c15
          clear c15
          obtain ⟨ji16, hji16⟩ : ∃ j_ : Int, (mn (((rd_T52 y380 x17_1).f1).size : Int) 12) = j_ := ⟨_, rfl⟩
          replace H : (if 0 ≤ (ji16) then (if (ji16) ≤ (((rd_T52 y380 x17_1).f1).size : Int) then (if x3_1.length < 4398046511104 then (foghornlaw12_few.l0 k1 (x3_1 ++ [(⟨((rd_T52 y380 x17_1).f0).extract 0 ((ji13) : Int).toNat, ((rd_T52 y380 x17_1).f1).extract 0 ((ji16) : Int).toNat⟩ : S52)]) y380 (y380.length : Int) (wrap64 (x17_1 + 1)) a0_0 l0_1 a0_2 a0_3 l0_4) else (none)) else (none)) else (none)) = some (r1, r2, r3, r4, r5) := by first | (rw [hji16] at H; exact H) | (simp only [hji16] at H ⊢; exact H)
          have hji16_ : (if 12 < (((rd_T52 y380 x17_1).f1).size : Int) then 12 else (((rd_T52 y380 x17_1).f1).size : Int)) = ji16 := hji16
          by_cases c17 : 0 ≤ (ji16)
          ·rw [if_pos c17] at H
           have c17b0 := eq_true c17
           have c17b1 := decide_eq_true c17
           clear c17
           by_cases c18 : (ji16) ≤ (((rd_T52 y380 x17_1).f1).size : Int)
           ·rw [if_pos c18] at H
            have c18b0 := eq_true c18
            have c18b1 := decide_eq_true c18
            clear c18
            by_cases c19 : x3_1.length < 4398046511104
            ·rw [if_pos c19] at H
             have LMc19 := aA c19
             clear c19
             obtain ⟨y386, hy386⟩ : ∃ y_ : List (S52), y_ = (x3_1 ++ [(⟨((rd_T52 y380 x17_1).f0).extract 0 ((ji13) : Int).toNat, ((rd_T52 y380 x17_1).f1).extract 0 ((ji16) : Int).toNat⟩ : S52)]) := ⟨_, rfl⟩
             replace H : (foghornlaw12_few.l0 k1 y386 y380 (y380.length : Int) (wrap64 (x17_1 + 1)) a0_0 l0_1 a0_2 a0_3 l0_4) = some (r1, r2, r3, r4, r5) := by first | (rw [hy386]; with_reducible exact H) | (have H2_ := (Option.bind_some _ _).symm.trans H; rw [hy386]; with_reducible exact H2_) | (have H2_ := (Option.bind_some _ _).symm.trans H; with_reducible exact H2_) | with_reducible exact H | (rw [hy386]; exact H) | exact H
             have Ny386 := aA hy386
             clear hy386
             have H' := aA H
             clear H
             have p384 : 0 ≤ (x17_1 : Int) := of_decide_eq_true (by first | (with_reducible assumption) | assumption)
             have q384 : x17_1 < (y380.length : Int) := of_decide_eq_true (by first | (with_reducible assumption) | assumption)
             obtain ⟨ad384, e384, hx384_0, hx384_1⟩ := at_T52 HR383.out x17_1 p384 q384
             cases e384
             replace hx384_0 := (HB.out.cell (World.block_lt_of_cell? w _ hx384_0)).trans hx384_0
             replace hx384_1 := (HB.out.cell (World.block_lt_of_cell? w _ hx384_1)).trans hx384_1
             replace p384 := eq_true p384
             replace q384 := eq_true q384
             try go_wp2_with (first | ((with_reducible refine gate_dst (N := 5) rfl ?_); refine box_event ?hg (N := 5) ?hd (cs := #[.string (⟨#[]⟩ : ByteArray), .string (⟨#[]⟩ : ByteArray)]) (t := 52) ?hr ?_; (case hd => rfl); (case hg => rfl); (case hr => first | (go_simp; done) | (go_simp; rfl)); intro gb385 hg w20 hbox hb; have n0_ := aA (Kd.R_below (Kd.R_elderB (mR HO_3.out) gb385 (Nat.le_of_eq hg.symm)) hb); have n1_ := aA (bB BK378.out hb); have n2_ := aA (bB BK379.out hb); have n3_ := aA (below_step (mD2 GE378.out GE379.out) hb); have n4_ := aA (hbox); have n5_ := aA ((bZ hg (mD2 GE378.out GE379.out))); have n6_ := aA ((bZ hg (mD2 GE378.out GE379.out))); have n7_ := aA ((bL hg BK378.out)); have n8_ := aA ((bG hg BK378.out)); have n9_ := aA ((bL hg BK379.out)); have n10_ := aA ((bG hg BK379.out)); clear HO_3 BK378 BK379 HB; have HO_3 := n0_; have BK378 := n1_; have BK379 := n2_; have HB := n3_; have BK385 := n4_; have GW385 := n5_; have GE385 := n6_; have NB378_385 := n7_; have NB385_378 := n8_; have NB379_385 := n9_; have NB385_379 := n10_; clear n0_ n1_ n2_ n3_ n4_ n5_ n6_ n7_ n8_ n9_ n10_ hb hbox hg; have hnb21 := NB385_378.out; have hnc21 := NB378_385.out; have hnb22 := NB385_379.out; have hnc22 := NB379_385.out; obtain ⟨hcz23_0, hcz23_1⟩ := bC2 BK385.out; obtain ⟨hfz23_0, hfz23_1⟩ := bF2 BK385.out))
             have n0_ : Aside0 (Kd.R k52 52 ((w20.setCell ⟨gb385, 0, none⟩ (.string ((rd_T52 y380 x17_1).f0))).setCell ⟨gb385, 1, none⟩ (.string ((rd_T52 y380 x17_1).f1))) w.heap.size (fun k_ => k_ ≠ gb385) u3 x3_1) := ⟨by (with_reducible repeat (first | apply Kd.R_alloc | apply Kd.R_drewN | apply Kd.R_drew)); exact Kd.R_mono (rF 1 (rF 0 (Kd.R_mono HO_3.out (fun k_ hk => (⟨hk, hk.2⟩ : _ ∧ k_ ≠ gb385))))) (fun _ hk => hk.1.2)⟩
             have n1_ : Aside0 (((w20.setCell ⟨gb385, 0, none⟩ (.string ((rd_T52 y380 x17_1).f0))).setCell ⟨gb385, 1, none⟩ (.string ((rd_T52 y380 x17_1).f1))).heap[gb378]? = some (.cells #[.int .i64 a0_0, .slice (some ad384) l0_1.length c0_1, .int .i64 a0_2, .int .i64 a0_3, .slice A0_4 l0_4.length c0_4] 27 (0, 0))) := ⟨by (with_reducible repeat (first | refine blk_drewN ?_ _ | refine blk_drew ?_ | refine blk_alloc ?_ _)); refine blk_far ?_ NB378_385.out _; (with_reducible repeat (first | refine blk_drewN ?_ _ | refine blk_drew ?_ | refine blk_alloc ?_ _)); refine blk_far ?_ NB378_385.out _; (with_reducible repeat (first | refine blk_drewN ?_ _ | refine blk_drew ?_ | refine blk_alloc ?_ _)); exact BK378.out⟩
             have n2_ : Aside0 (((w20.setCell ⟨gb385, 0, none⟩ (.string ((rd_T52 y380 x17_1).f0))).setCell ⟨gb385, 1, none⟩ (.string ((rd_T52 y380 x17_1).f1))).heap[gb379]? = some (.cells #[.int .i64 0, .slice none 0 0, .int .i64 0, .int .i64 0, .slice none 0 0] 27 (0, 0))) := ⟨by (with_reducible repeat (first | refine blk_drewN ?_ _ | refine blk_drew ?_ | refine blk_alloc ?_ _)); refine blk_far ?_ NB379_385.out _; (with_reducible repeat (first | refine blk_drewN ?_ _ | refine blk_drew ?_ | refine blk_alloc ?_ _)); refine blk_far ?_ NB379_385.out _; (with_reducible repeat (first | refine blk_drewN ?_ _ | refine blk_drew ?_ | refine blk_alloc ?_ _)); exact BK379.out⟩
             have n3_ : Aside0 (((w20.setCell ⟨gb385, 0, none⟩ (.string ((rd_T52 y380 x17_1).f0))).setCell ⟨gb385, 1, none⟩ (.string ((rd_T52 y380 x17_1).f1))).heap[gb385]? = some (.cells #[.string ((rd_T52 y380 x17_1).f0), .string ((rd_T52 y380 x17_1).f1)] 52 (0, 0))) := ⟨by (with_reducible repeat (first | refine blk_drewN ?_ _ | refine blk_drew ?_ | refine blk_alloc ?_ _)); refine blk_put (cs := #[.string ((rd_T52 y380 x17_1).f0), .string (⟨#[]⟩ : ByteArray)]) ?_ 1 _ rfl; (with_reducible repeat (first | refine blk_drewN ?_ _ | refine blk_drew ?_ | refine blk_alloc ?_ _)); refine blk_put (cs := #[.string (⟨#[]⟩ : ByteArray), .string (⟨#[]⟩ : ByteArray)]) ?_ 0 _ rfl; (with_reducible repeat (first | refine blk_drewN ?_ _ | refine blk_drew ?_ | refine blk_alloc ?_ _)); exact BK385.out⟩
             have n4_ : Aside0 (Below w.heap.size w ((w20.setCell ⟨gb385, 0, none⟩ (.string ((rd_T52 y380 x17_1).f0))).setCell ⟨gb385, 1, none⟩ (.string ((rd_T52 y380 x17_1).f1)))) := ⟨by repeat (first | (with_reducible first | exact HB.out | apply below_alloc | apply pw_below_drewN | apply below_drew1 | refine below_set ?_ GE378.out | refine below_set ?_ GE379.out | refine below_set ?_ GE385.out) | exact HB.out)⟩
             (try clear HO_3)
             (try clear BK378)
             (try clear BK379)
             (try clear BK385)
             (try clear HB)
             generalize ((w20.setCell ⟨gb385, 0, none⟩ (.string ((rd_T52 y380 x17_1).f0))).setCell ⟨gb385, 1, none⟩ (.string ((rd_T52 y380 x17_1).f1))) = w24 at n0_ n1_ n2_ n3_ n4_ ⊢
             have HO_3 := n0_
             have BK378 := n1_
             have BK379 := n2_
             have BK385 := n3_
             have HB := n4_
             clear n0_ n1_ n2_ n3_ n4_
             have n0_ := aA (Kd.R_drew HO_3.out)
             have n1_ := aA (blk_drew BK378.out)
             have n2_ := aA (blk_drew BK379.out)
             have n3_ := aA (blk_drew BK385.out)
             have n4_ := aA (below_drew1 HB.out)
             clear HO_3
             clear BK378
             clear BK379
             clear BK385
             clear HB
             have HO_3 := n0_
             have BK378 := n1_
             have BK379 := n2_
             have BK385 := n3_
             have HB := n4_
             clear n0_ n1_ n2_ n3_ n4_
             refine start_ (n := 19) (S := fun w' => w'.cell? ⟨gb385, 0, none⟩ = some (.string ((rd_T52 y380 x17_1).f0)) ∧ w'.cell? ⟨gb385, 1, none⟩ = some (.string ((rd_T52 y380 x17_1).f1))) (ds := []) (bA 19 0) (by kernel_rfl) rfl rfl (bC2 BK385.out) (fun hHeld => ?_); refine with_tabW foghornlaw12_few.tab5 foghornlaw12_few.bits5 (fun HT_ HW_ => ?_)
             generalize w24.drew = w25 at HO_3 BK378 BK379 BK385 HB hHeld ⊢
             refine pure_ (i := 0) (N := some 21) (v := ?_) (a' := ?_) (bA 19 1) rfl rfl (any_of HT_.out (by kernel_rfl)) (fun _ _ _ h => h) (Or.inl ⟨by rfl, ?_⟩) ?_ ?_
             rotate_left
             ·intro w'
              go_simp
              with_reducible rfl
             rotate_left
             ·exact mP
             refine pure_ (i := 1) (N := some 22) (v := ?_) (a' := ?_) (bA 19 3) rfl rfl (any_of HT_.out (by kernel_rfl)) (fun _ _ _ h => h) (Or.inl ⟨by rfl, ?_⟩) ?_ ?_
             rotate_left
             ·intro w'
              go_simp
              with_reducible rfl
             rotate_left
             ·exact mP
             refine pure_ (i := 3) (N := some 24) (v := ?_) (a' := ?_) (bA 19 11) rfl rfl (any_of HT_.out (by kernel_rfl)) (fun _ _ _ h => h) (Or.inl ⟨by rfl, ?_⟩) ?_ ?_
             rotate_left
             ·intro w'
              go_simp
              with_reducible rfl
             rotate_left
             ·exact mP
             refine pure_ (i := 8) (N := some 29) (v := ?_) (a' := ?_) (bA 19 267) rfl rfl (any_of HT_.out (by kernel_rfl)) (fun _ _ _ h => h) (Or.inl ⟨by rfl, ?_⟩) ?_ ?_
             rotate_left
             ·intro w'
              go_simp
              with_reducible rfl
             rotate_left
             ·exact mP
             refine pure_ (i := 10) (N := some 31) (v := ?_) (a' := ?_) (bA 19 1291) rfl rfl (any_of HT_.out (by kernel_rfl)) (fun _ _ _ h => h) (Or.inl ⟨by rfl, ?_⟩) ?_ ?_
             rotate_left
             ·intro w'
              go_simp
              with_reducible rfl
             rotate_left
             ·exact mP
             refine take_ (i := 2) (N := some 23) (v := ?_) (a' := ?_) (bA 19 1295) rfl rfl (take_ofW HT_.out HW_.out (by kernel_rfl)) (fun _ _ _ h => h) (Or.inl ⟨by rfl, ?_⟩) hHeld ?_ ?_
             rotate_left
             ·rintro w' ⟨s0, s1⟩
              go_simp
              with_reducible rfl
             rotate_left
             ·exact mP
             refine take_ (i := 4) (N := some 25) (v := ?_) (a' := ?_) (bA 19 1311) rfl rfl (take_ofW HT_.out HW_.out (by kernel_rfl)) (fun _ _ _ h => h) (Or.inl ⟨by rfl, ?_⟩) hHeld ?_ ?_
             rotate_left
             ·rintro w' ⟨s0, s1⟩
              go_simp
              with_reducible rfl
             rotate_left
             ·exact mP
             refine pure_ (i := 5) (N := some 26) (v := ?_) (a' := ?_) (bA 19 1343) rfl rfl (any_of HT_.out (by kernel_rfl)) (fun _ _ _ h => h) (Or.inl ⟨by rfl, ?_⟩) ?_ ?_
             rotate_left
             ·intro w'
              go_simp
              with_reducible rfl
             rotate_left
             ·exact mP
             refine pure_ (i := 6) (N := some 27) (v := ?_) (a' := ?_) (bA 19 1407) rfl rfl (any_of HT_.out (by kernel_rfl)) (fun _ _ _ h => h) (Or.inl ⟨by rfl, ?_⟩) ?_ ?_
             rotate_left
             ·intro w'
              go_simp
              with_reducible rfl
             rotate_left
             ·exact mP
             refine pure_ (i := 7) (N := some 28) (v := ?_) (a' := ?_) (bA 19 1535) rfl rfl (any_of HT_.out (by kernel_rfl)) (fun _ _ _ h => h) (Or.inl ⟨by rfl, ?_⟩) ?_ ?_
             rotate_left
             ·intro w'
              go_simp
              with_reducible rfl
             rotate_left
             ·exact mP
             refine take_ (i := 9) (N := some 30) (v := ?_) (a' := ?_) (bA 19 2047) rfl rfl (take_ofW HT_.out HW_.out (by kernel_rfl)) (fun _ _ _ h => h) (Or.inl ⟨by rfl, ?_⟩) hHeld ?_ ?_
             rotate_left
             ·rintro w' ⟨s0, s1⟩
              go_simp
              with_reducible rfl
             rotate_left
             ·exact mP
             refine take_ (i := 11) (N := some 32) (v := ?_) (a' := ?_) (bA 19 4095) rfl rfl (take_ofW HT_.out HW_.out (by kernel_rfl)) (fun _ _ _ h => h) (Or.inl ⟨by rfl, ?_⟩) hHeld ?_ ?_
             rotate_left
             ·rintro w' ⟨s0, s1⟩
              go_simp
              with_reducible rfl
             rotate_left
             ·exact mP
             refine pure_ (i := 12) (N := some 33) (v := ?_) (a' := ?_) (bA 19 8191) rfl rfl (any_of HT_.out (by kernel_rfl)) (fun _ _ _ h => h) (Or.inl ⟨by rfl, ?_⟩) ?_ ?_
             rotate_left
             ·intro w'
              go_simp
              with_reducible rfl
             rotate_left
             ·exact mP
             refine pure_ (i := 13) (N := some 34) (v := ?_) (a' := ?_) (bA 19 16383) rfl rfl (any_of HT_.out (by kernel_rfl)) (fun _ _ _ h => h) (Or.inl ⟨by rfl, ?_⟩) ?_ ?_
             rotate_left
             ·intro w'
              go_simp
              with_reducible rfl
             rotate_left
             ·exact mP
             refine pure_ (i := 14) (N := some 35) (v := ?_) (a' := ?_) (bA 19 32767) rfl rfl (any_of HT_.out (by kernel_rfl)) (fun _ _ _ h => h) (Or.inl ⟨by rfl, ?_⟩) ?_ ?_
             rotate_left
             ·intro w'
              go_simp
              with_reducible rfl
             rotate_left
             ·exact mP
             refine pure_ (i := 15) (N := some 36) (v := ?_) (a' := ?_) (bA 19 65535) rfl rfl (any_of HT_.out (by kernel_rfl)) (fun _ _ _ h => h) (Or.inl ⟨by rfl, ?_⟩) ?_ ?_
             rotate_left
             ·intro w'
              go_simp
              with_reducible rfl
             rotate_left
             ·exact mP
             refine one_ (i := 16) (N := some 37) (bA 19 131071) rfl rfl (one_of HT_.out (by kernel_rfl)) (by decide) (fun K hK => ?_)
             refine value_ (w1 := ?_) (v := ?_) (by rfl) rfl ?_ ?_
             rotate_left 2
             ·go_simp
              constructor
              ·rfl
              ·rfl
             refine hK.out _ _ ⟨(blk_cell (blk_alloc BK385.out _) 0).trans rfl, (blk_cell (blk_alloc BK385.out _) 1).trans rfl⟩ (fun hHeld => ?_)
             clear hK K
             refine norm_ (a' := ?_) ?_ ?_
             rotate_left
             ·show Act.put _ (some 37) _ = _
              simp only [Act.put, List.setIfInBounds_toArray, List.set_cons_zero, List.set_cons_succ, i64_w, i32_w]
              rfl
             refine one_ (i := 17) (N := some 38) (bA 19 262143) rfl rfl (one_of HT_.out (by kernel_rfl)) (by decide) (fun K hK => ?_)
             refine Kd.R_append_step k52 (w0 := w) w.heap.size (by rfl) (.tmp 21) (.tmp 37) 22 52 (.agg #[(.string ⟨#[]⟩), (.string ⟨#[]⟩)]) 32 rfl Tryz.underlying22 info52 rfl (by decide) (by omega) u3 x3_1 (⟨((rd_T52 y380 x17_1).f0).extract 0 ((ji13) : Int).toNat, ((rd_T52 y380 x17_1).f1).extract 0 ((ji16) : Int).toNat⟩ : S52) [.string (((rd_T52 y380 x17_1).f0).extract 0 ((ji13) : Int).toNat), .string (((rd_T52 y380 x17_1).f1).extract 0 ((ji16) : Int).toNat)] (fun k_ => k_ ≠ gb385) (fun _ => False) rfl rfl ?aP (fun _ hk => hk.elim) ?aF ?aO ?aB ?aS ?aL ?_
             (case aP => exact k52_mkM _ _ _ (⟨((rd_T52 y380 x17_1).f0).extract 0 ((ji13) : Int).toNat, ((rd_T52 y380 x17_1).f1).extract 0 ((ji16) : Int).toNat⟩ : S52))
             (case aB => exact (mD3 GE378.out GE379.out GE385.out))
             (case aF => exact (fun k_ hk => Kd.freshB (g := gb385) (o := .cells #[.string ((rd_T52 y380 x17_1).f0), .string ((rd_T52 y380 x17_1).f1)] 52 (0, 0)) (mK BK385.out) k_ hk))
             (case aO => exact (mR HO_3.out))
             (case aS => exact (below_size (mD3 GE378.out GE379.out GE385.out)))
             (case aL => have := LMc19.out; omega)
             intro v387 w26 ho hb hg hat
             rw [← Ny386.out] at ho
             have n0_ := aA (blk_grown (g := gb378) (o := .cells #[.int .i64 a0_0, .slice (some ad384) l0_1.length c0_1, .int .i64 a0_2, .int .i64 a0_3, .slice A0_4 l0_4.length c0_4] 27 (0, 0)) (mK BK378.out) hg (Kd.R_ne HO_3.out BK378.out (by decide)))
             have n1_ := aA (blk_grown (g := gb379) (o := .cells #[.int .i64 0, .slice none 0 0, .int .i64 0, .int .i64 0, .slice none 0 0] 27 (0, 0)) (mK BK379.out) hg (Kd.R_ne HO_3.out BK379.out (by decide)))
             have n2_ := aA (blk_grown (g := gb385) (o := .cells #[.string ((rd_T52 y380 x17_1).f0), .string ((rd_T52 y380 x17_1).f1)] 52 (0, 0)) (mK BK385.out) hg (Kd.R_away HO_3.out (fun _ hk => hk)))
             have n3_ := aA (hb)
             have n4_ := aA (ho)
             clear BK378
             clear BK379
             clear BK385
             clear HB
             clear HO_3
             have BK378 := n0_
             have BK379 := n1_
             have BK385 := n2_
             have HB := n3_
             have HO388 := n4_
             clear n0_ n1_ n2_ n3_ n4_
             clear ho hb hg hat
             refine hK.out _ _ (bC2 BK385.out) (fun hHeld => ?_)
             clear hK K
             refine norm_ (a' := ?_) ?_ ?_
             rotate_left
             ·show Act.put _ (some 38) _ = _
              simp only [Act.put, List.setIfInBounds_toArray, List.set_cons_zero, List.set_cons_succ, i64_w, i32_w]
              rfl
             refine pure_ (i := 18) (N := some 3) (v := ?_) (a' := ?_) (bA 19 524287) rfl rfl (any_of HT_.out (by kernel_rfl)) (fun _ _ _ h => h) (Or.inl ⟨by rfl, ?_⟩) ?_ ?_
             rotate_left
             ·intro w'
              go_simp
              with_reducible rfl
             rotate_left
             ·exact mP
             refine done_ (done_of HT_.out (by kernel_rfl)) ?_
             try go_wp2
             go_roundg k1
             case measure => have := HK1.out; omega
             case rel => exact ⟨(y386), (wrap64 (x17_1 + 1)), (by first | rfl | (simp; done) | (simp [*]; done)), H', ⟨by have := HK1.out; omega⟩, ⟨by (with_reducible repeat (first | apply Kd.R_alloc | apply Kd.R_drewN | apply Kd.R_drew)); exact Kd.R_mono HO388.out (fun _ hk => trivial)⟩, ⟨by (with_reducible repeat (first | refine blk_drewN ?_ _ | refine blk_drew ?_ | refine blk_alloc ?_ _)); exact BK378.out⟩, ⟨by (with_reducible repeat (first | refine blk_drewN ?_ _ | refine blk_drew ?_ | refine blk_alloc ?_ _)); exact BK379.out⟩, ⟨by repeat (first | (with_reducible first | exact HB.out | apply below_alloc | apply pw_below_drewN | apply below_drew1 | refine below_set ?_ GE378.out | refine below_set ?_ GE379.out | refine below_set ?_ GE385.out) | exact HB.out)⟩⟩
            ·rw [if_neg c19] at H
             exact absurd H (by simp)
           ·rw [if_neg c18] at H
            exact absurd H (by simp)
          ·rw [if_neg c17] at H
           exact absurd H (by simp)
         ·rw [if_neg c15] at H
          exact absurd H (by simp)
        ·rw [if_neg c14] at H
         exact absurd H (by simp)
       ·rw [if_neg c12] at H
        exact absurd H (by simp)
      ·rw [if_neg c11] at H
       exact absurd H (by simp)
     ·rw [if_neg c10] at H
      have c10b0 : decide (x17_1 < (y380.length : Int)) = false := decide_eq_false c10
      clear c10
      obtain ⟨ji27, hji27⟩ : ∃ j_ : Int, (mn (l0_4.length : Int) 6) = j_ := ⟨_, rfl⟩
      replace H : (if 0 ≤ (ji27) then (if (ji27) ≤ (l0_4.length : Int) then ((some (l0_4.take ((ji27) : Int).toNat : List (S32))).bind fun y389 => (foghornlaw12_few.l1 k1 x3_1 ([] : List (S32)) y389 (y389.length : Int) 0 a0_0 l0_1 a0_2 a0_3 l0_4)) else (none)) else (none)) = some (r1, r2, r3, r4, r5) := by first | (rw [hji27] at H; exact H) | (simp only [hji27] at H ⊢; exact H)
      have hji27_ : (if 6 < (l0_4.length : Int) then 6 else (l0_4.length : Int)) = ji27 := hji27
      by_cases c28 : 0 ≤ (ji27)
      ·rw [if_pos c28] at H
       have c28b0 := eq_true c28
       have c28b1 := decide_eq_true c28
       clear c28
       by_cases c29 : (ji27) ≤ (l0_4.length : Int)
       ·rw [if_pos c29] at H
        have c29b0 := eq_true c29
        have c29b1 := decide_eq_true c29
        clear c29
        obtain ⟨y389, hy389⟩ : ∃ y_ : List (S32), y_ = (l0_4.take ((ji27) : Int).toNat) := ⟨_, rfl⟩
        replace H : (foghornlaw12_few.l1 k1 x3_1 ([] : List (S32)) y389 (y389.length : Int) 0 a0_0 l0_1 a0_2 a0_3 l0_4) = some (r1, r2, r3, r4, r5) := by first | (rw [hy389]; with_reducible exact H) | (have H2_ := (Option.bind_some _ _).symm.trans H; rw [hy389]; with_reducible exact H2_) | (have H2_ := (Option.bind_some _ _).symm.trans H; with_reducible exact H2_) | with_reducible exact H | (rw [hy389]; exact H) | exact H
        have Ny389 := aA hy389
        clear hy389
        have H' := aA H
        clear H
        have hnb30 := NB378_379.out
        have hnc30 := NB379_378.out
        obtain ⟨hcz31_0, hcz31_1, hcz31_2, hcz31_3, hcz31_4⟩ := bC5 BK378.out
        obtain ⟨hfz31_0, hfz31_1, hfz31_2, hfz31_3, hfz31_4⟩ := bF5 BK378.out
        have q32 : ((ji27) : Int) ≤ ((l0_4.length : Int) : Int) := of_decide_eq_true (by first | (with_reducible assumption) | assumption)
        obtain ⟨i032, hi032, _, hsz32, _⟩ := info_parts info32
        have hroom32 : l0_4.length ≤ c0_4 := HC0_4.out
        have hC32 : Kd.C k32 _ A0_4 l0_4.length l0_4 := HR0_4.out
        have hcut32 := cut_to (P := Tryz.prog) 23 32 .i64 Tryz.underlying23 hi032 A0_4 l0_4.length c0_4 (ji27) (of_decide_eq_true (by first | (with_reducible assumption) | assumption)) q32 hroom32
        have hr32 := Kd.C_take (m := ((ji27) : Int).toNat) hC32 (by omega)
        have hy32 : y389.length = ((ji27) : Int).toNat := (by rw [Ny389.out, List.length_take]; omega)
        rw [← Ny389.out] at hr32
        rw [← hy32] at hcut32
        have HR392 := aA hr32
        have HC392 := aA (show y389.length ≤ c0_4 from by omega)
        clear hr32 hC32 hroom32 hi032 hsz32
        have KY32 := aA hy32
        clear hy32
        replace q32 := eq_true q32
        go_wp2
        go_loopg [6, 50] k1 (fun kq v6 v50 w' => ∃ (x6_2 : List (S32)) (x50_2 : Int), v50 = .int .i64 x50_2 ∧ Aside0 (foghornlaw12_few.l1 kq x3_1 x6_2 y389 (y389.length : Int) x50_2 a0_0 l0_1 a0_2 a0_3 l0_4 = some (r1, r2, r3, r4, r5)) ∧ Aside0 (kq ≤ k1) ∧ Aside0 (Kd.R k52 52 w' w.heap.size (fun _ => True) u3 x3_1) ∧ Aside0 (Kd.R k32 32 w' w.heap.size (fun _ => True) v6 x6_2) ∧ Aside0 (w'.heap[gb378]? = some (.cells #[.int .i64 a0_0, (.slice A0_1 l0_1.length c0_1), .int .i64 a0_2, .int .i64 a0_3, (.slice A0_4 l0_4.length c0_4)] 27 (0, 0))) ∧ Aside0 (w'.heap[gb379]? = some (.cells #[.int .i64 0, (.slice none 0 0), .int .i64 0, .int .i64 0, (.slice none 0 0)] 27 (0, 0))) ∧ Aside0 (Below w.heap.size w w'))
        case atStart => exact ⟨(([] : List (S32))), (0), (by first | rfl | (simp; done) | (simp [*]; done)), H', ⟨Nat.le_refl _⟩, ⟨by (with_reducible repeat (first | apply Kd.R_alloc | apply Kd.R_drewN | apply Kd.R_drew)); exact HO_3.out⟩, ⟨by first | exact Kd.R_nil _ _ _ _ _ | exact Kd.N_nil _ _ _ _ _ | exact Kd.V_nil _ _ _ _ _ | exact Kd.Q_nil _ _ _ _ _ | exact Kd.S_nil _ _ _ _ _⟩, ⟨by (with_reducible repeat (first | refine blk_drewN ?_ _ | refine blk_drew ?_ | refine blk_alloc ?_ _)); exact BK378.out⟩, ⟨by (with_reducible repeat (first | refine blk_drewN ?_ _ | refine blk_drew ?_ | refine blk_alloc ?_ _)); exact BK379.out⟩, ⟨by repeat (first | (with_reducible first | exact HB.out | apply below_alloc | apply pw_below_drewN | apply below_drew1 | refine below_set ?_ GE378.out | refine below_set ?_ GE379.out) | exact HB.out)⟩⟩
        case round =>
         clear H'
         try clear c1
         try clear c2
         try clear p2
         try clear c3
         try clear c3b0
         try clear c3b1
         try clear p3
         try clear q3
         try clear hx3
         try clear c4
         try clear c4b0
         try clear c4b1
         try clear p6
         try clear c7
         try clear q9
         try clear c10
         try clear c10b0
         try clear c11
         try clear c11b0
         try clear c12
         try clear c12b0
         try clear c14
         try clear c14b0
         try clear c14b1
         try clear c15
         try clear c15b0
         try clear c15b1
         try clear c16
         try clear c17
         try clear c17b0
         try clear c17b1
         try clear c18
         try clear c18b0
         try clear c18b1
         try clear c19
         try clear c21
         try clear c22
         try clear c28
         try clear c28b0
         try clear c28b1
         try clear c29
         try clear c29b0
         try clear c29b1
         try clear c30
         try clear q32
         try clear hcz23_0 hcz23_1
         try clear hcz31_0 hcz31_1 hcz31_2 hcz31_3 hcz31_4
         try clear hcz8_0 hcz8_1 hcz8_2 hcz8_3 hcz8_4
         try clear hfz23_0 hfz23_1
         try clear hfz31_0 hfz31_1 hfz31_2 hfz31_3 hfz31_4
         try clear hfz8_0 hfz8_1 hfz8_2 hfz8_3 hfz8_4
         try clear hx384_0
         try clear hx384_1
         try clear p2
         try clear p384
         try clear q32
         try clear q384
         try clear q9
         obtain ⟨x6_2, x50_2, rfl, HA, HK2, HO_3, HO_6, BK378, BK379, HB⟩ := hrel
         cases gk with
         | zero => exact absurd HA.out (by simp [foghornlaw12_few.l1])
         | succ k2 =>
          have H := HA.out
          clear HA
          simp only [foghornlaw12_few.l1] at H
          by_cases c33 : x50_2 < (y389.length : Int)
          ·rw [if_pos c33] at H
           have c33b0 : decide (x50_2 < (y389.length : Int)) = true := decide_eq_true c33
           clear c33
           by_cases c34 : 0 ≤ x50_2
           ·rw [if_pos c34] at H
            have c34b0 : decide (0 ≤ x50_2) = true := decide_eq_true c34
            clear c34
            by_cases c35 : x50_2 < (y389.length : Int)
            ·rw [if_pos c35] at H
             have c35b0 : decide (x50_2 < (y389.length : Int)) = true := decide_eq_true c35
             clear c35
             replace H := Option.bind_eq_some_iff.mp H
             obtain ⟨⟨t395, t396, t397⟩, A360, H⟩ := H
             replace H : (if x6_2.length < 3518437208883 then (foghornlaw12_few.l1 k2 x3_1 (x6_2 ++ [(⟨t395, t396, t397⟩ : S32)]) y389 (y389.length : Int) (wrap64 (x50_2 + 1)) a0_0 l0_1 a0_2 a0_3 l0_4) else (none)) = some (r1, r2, r3, r4, r5) := H
             have A36 := aA A360
             clear A360
             by_cases c37 : x6_2.length < 3518437208883
             ·rw [if_pos c37] at H
              have LMc37 := aA c37
              clear c37
              obtain ⟨y398, hy398⟩ : ∃ y_ : List (S32), y_ = (x6_2 ++ [(⟨t395, t396, t397⟩ : S32)]) := ⟨_, rfl⟩
              replace H : (foghornlaw12_few.l1 k2 x3_1 y398 y389 (y389.length : Int) (wrap64 (x50_2 + 1)) a0_0 l0_1 a0_2 a0_3 l0_4) = some (r1, r2, r3, r4, r5) := by first | (rw [hy398]; with_reducible exact H) | (have H2_ := (Option.bind_some _ _).symm.trans H; rw [hy398]; with_reducible exact H2_) | (have H2_ := (Option.bind_some _ _).symm.trans H; with_reducible exact H2_) | with_reducible exact H | (rw [hy398]; exact H) | exact H
              have Ny398 := aA hy398
              clear hy398
              have H' := aA H
              clear H
              have p393 : 0 ≤ (x50_2 : Int) := of_decide_eq_true (by first | (with_reducible assumption) | assumption)
              have q393 : x50_2 < (y389.length : Int) := of_decide_eq_true (by first | (with_reducible assumption) | assumption)
              obtain ⟨ad393, e393, hx393_0, hx393_1, hx393_2⟩ := at_T32 HR392.out x50_2 p393 q393
              cases e393
              replace hx393_0 := (HB.out.cell (World.block_lt_of_cell? w _ hx393_0)).trans hx393_0
              replace hx393_1 := (HB.out.cell (World.block_lt_of_cell? w _ hx393_1)).trans hx393_1
              replace hx393_2 := (HB.out.cell (World.block_lt_of_cell? w _ hx393_2)).trans hx393_2
              replace p393 := eq_true p393
              replace q393 := eq_true q393
              go_wp2_with (first | ((with_reducible refine gate_dst (N := 8) rfl ?_); refine box_event ?hg (N := 8) ?hd (cs := #[.int .i64 0, .string (⟨#[]⟩ : ByteArray), .string (⟨#[]⟩ : ByteArray)]) (t := 32) ?hr ?_; (case hd => rfl); (case hg => rfl); (case hr => first | (go_simp; done) | (go_simp; rfl)); intro gb394 hg w38 hbox hb; have n0_ := aA (Kd.R_below (mR HO_3.out) hb); have n1_ := aA (Kd.R_below (Kd.R_elderB (mR HO_6.out) gb394 (Nat.le_of_eq hg.symm)) hb); have n2_ := aA (bB BK378.out hb); have n3_ := aA (bB BK379.out hb); have n4_ := aA (below_step (mD2 GE378.out GE379.out) hb); have n5_ := aA (hbox); have n6_ := aA ((bZ hg (mD2 GE378.out GE379.out))); have n7_ := aA ((bZ hg (mD2 GE378.out GE379.out))); have n8_ := aA ((bL hg BK378.out)); have n9_ := aA ((bG hg BK378.out)); have n10_ := aA ((bL hg BK379.out)); have n11_ := aA ((bG hg BK379.out)); clear HO_3 HO_6 BK378 BK379 HB; have HO_3 := n0_; have HO_6 := n1_; have BK378 := n2_; have BK379 := n3_; have HB := n4_; have BK394 := n5_; have GW394 := n6_; have GE394 := n7_; have NB378_394 := n8_; have NB394_378 := n9_; have NB379_394 := n10_; have NB394_379 := n11_; clear n0_ n1_ n2_ n3_ n4_ n5_ n6_ n7_ n8_ n9_ n10_ n11_ hb hbox hg; have hnb39 := NB394_378.out; have hnc39 := NB378_394.out; have hnb40 := NB394_379.out; have hnc40 := NB379_394.out; obtain ⟨hcz41_0, hcz41_1, hcz41_2⟩ := bC3 BK394.out; obtain ⟨hfz41_0, hfz41_1, hfz41_2⟩ := bF3 BK394.out) | ((with_reducible refine gate_callee (f := 17) rfl ?_); refine goesL_ (some 56) rfl rfl Tryz.func17 (by kernel_rfl) rfl #[.agg #[.int .i64 ((rd_T32 y389 x50_2).f0), .string ((rd_T32 y389 x50_2).f1), .string ((rd_T32 y389 x50_2).f2)]] rfl mS ?_; (with_reducible refine (foghornlaw12_one.calls ((rd_T32 y389 x50_2).f0) ((rd_T32 y389 x50_2).f1) ((rd_T32 y389 x50_2).f2) t395 t396 t397 _ A36.out).mono ?_); rintro e w42 ⟨rfl, hb⟩; refine ⟨_, rfl, ?_⟩; have n0_ := aA (Kd.R_below (by (with_reducible repeat (first | apply Kd.R_alloc | apply Kd.R_drewN | apply Kd.R_drew)); exact (Kd.R_mono (rF 2 (rF 1 (rF 0 (Kd.R_types HO_3.out BK394.out (by decide))))) (fun _ h_ => h_.1))) hb); have n1_ := aA (Kd.R_below (by (with_reducible repeat (first | apply Kd.R_alloc | apply Kd.R_drewN | apply Kd.R_drew)); exact (Kd.R_mono (rF 2 (rF 1 (rF 0 (Kd.R_mono HO_6.out (fun k_ hk => (⟨hk, hk.2⟩ : _ ∧ k_ ≠ gb394)))))) (fun _ h_ => h_.1))) hb); have n2_ := aA (blk_below (g := gb378) (o := .cells #[.int .i64 a0_0, .slice A0_1 l0_1.length c0_1, .int .i64 a0_2, .int .i64 a0_3, .slice (some ad393) l0_4.length c0_4] 27 (0, 0)) (by (with_reducible repeat (first | refine blk_drewN ?_ _ | refine blk_drew ?_ | refine blk_alloc ?_ _)); refine blk_far ?_ NB378_394.out _; (with_reducible repeat (first | refine blk_drewN ?_ _ | refine blk_drew ?_ | refine blk_alloc ?_ _)); refine blk_far ?_ NB378_394.out _; (with_reducible repeat (first | refine blk_drewN ?_ _ | refine blk_drew ?_ | refine blk_alloc ?_ _)); refine blk_far ?_ NB378_394.out _; (with_reducible repeat (first | refine blk_drewN ?_ _ | refine blk_drew ?_ | refine blk_alloc ?_ _)); exact BK378.out) hb); have n3_ := aA (blk_below (g := gb379) (o := .cells #[.int .i64 0, .slice none 0 0, .int .i64 0, .int .i64 0, .slice none 0 0] 27 (0, 0)) (by (with_reducible repeat (first | refine blk_drewN ?_ _ | refine blk_drew ?_ | refine blk_alloc ?_ _)); refine blk_far ?_ NB379_394.out _; (with_reducible repeat (first | refine blk_drewN ?_ _ | refine blk_drew ?_ | refine blk_alloc ?_ _)); refine blk_far ?_ NB379_394.out _; (with_reducible repeat (first | refine blk_drewN ?_ _ | refine blk_drew ?_ | refine blk_alloc ?_ _)); refine blk_far ?_ NB379_394.out _; (with_reducible repeat (first | refine blk_drewN ?_ _ | refine blk_drew ?_ | refine blk_alloc ?_ _)); exact BK379.out) hb); have n4_ := aA (blk_below (g := gb394) (o := .cells #[.int .i64 ((rd_T32 y389 x50_2).f0), .string ((rd_T32 y389 x50_2).f1), .string ((rd_T32 y389 x50_2).f2)] 32 (0, 0)) (by (with_reducible repeat (first | refine blk_drewN ?_ _ | refine blk_drew ?_ | refine blk_alloc ?_ _)); have h_ := BK394.out; exact pK 2 (pK 1 (pK 0 (h_)))) hb); have n5_ := aA (below_step (mD3 GE378.out GE379.out GE394.out) hb); clear HO_3 HO_6 BK378 BK379 BK394 HB; have HO_3 := n0_; have HO_6 := n1_; have BK378 := n2_; have BK379 := n3_; have BK394 := n4_; have HB := n5_; clear n0_ n1_ n2_ n3_ n4_ n5_; (try clear hb); (try clear hb2); (try clear hk); (try clear hi)) | ((with_reducible refine gate_builtin (b := .append) (xs := #[.tmp 54, .tmp 57]) rfl ?_); at_builtin; refine Kd.R_append k32 (w0 := w) w.heap.size rfl (.tmp 54) (.tmp 57) 23 32 (.agg #[(.int .i64 0), (.string ⟨#[]⟩), (.string ⟨#[]⟩)]) 40 rfl Tryz.underlying23 info32 rfl (by decide) (by omega) u6 x6_2 (⟨t395, t396, t397⟩ : S32) [.int .i64 t395, .string t396, .string t397] (fun k_ => k_ ≠ gb394) (fun _ => False) rfl rfl ?aP (fun _ hk => hk.elim) ?aF ?aO ?aB ?aS ?aL ?_; (case aP => exact k32_mkM _ _ _ (⟨t395, t396, t397⟩ : S32)); (case aB => exact (mD3 GE378.out GE379.out GE394.out)); (case aF => exact (fun k_ hk => Kd.freshB (g := gb394) (o := .cells #[.int .i64 ((rd_T32 y389 x50_2).f0), .string ((rd_T32 y389 x50_2).f1), .string ((rd_T32 y389 x50_2).f2)] 32 (0, 0)) (mK BK394.out) k_ hk)); (case aO => exact (by (with_reducible repeat (first | apply Kd.R_alloc | apply Kd.R_drewN | apply Kd.R_drew)); exact Kd.R_mono HO_6.out (fun _ hk => hk.2))); (case aS => exact (below_size (mD3 GE378.out GE379.out GE394.out))); (case aL => have := LMc37.out; omega); intro v399 w43 ho hb hg hat; rw [← Ny398.out] at ho; have n0_ := aA (Kd.R_over' (mR HO_3.out) (Kd.R_typed (mR HO_6.out)) (by decide) hg); have n1_ := aA (blk_grown (g := gb378) (o := .cells #[.int .i64 a0_0, .slice A0_1 l0_1.length c0_1, .int .i64 a0_2, .int .i64 a0_3, .slice (some ad393) l0_4.length c0_4] 27 (0, 0)) (mK BK378.out) hg (Kd.R_ne HO_6.out BK378.out (by decide))); have n2_ := aA (blk_grown (g := gb379) (o := .cells #[.int .i64 0, .slice none 0 0, .int .i64 0, .int .i64 0, .slice none 0 0] 27 (0, 0)) (mK BK379.out) hg (Kd.R_ne HO_6.out BK379.out (by decide))); have n3_ := aA (blk_grown (g := gb394) (o := .cells #[.int .i64 ((rd_T32 y389 x50_2).f0), .string ((rd_T32 y389 x50_2).f1), .string ((rd_T32 y389 x50_2).f2)] 32 (0, 0)) (mK BK394.out) hg (Kd.R_away HO_6.out (fun _ hk => hk.2))); have n4_ := aA (hb); have n5_ := aA (ho); clear HO_3 BK378 BK379 BK394 HB HO_6; have HO_3 := n0_; have BK378 := n1_; have BK379 := n2_; have BK394 := n3_; have HB := n4_; have HO400 := n5_; clear n0_ n1_ n2_ n3_ n4_ n5_ ho hb hg hat))
              go_roundg k2
              case measure => have := HK1.out; have := HK2.out; omega
              case rel => exact ⟨(y398), (wrap64 (x50_2 + 1)), (by first | rfl | (simp; done) | (simp [*]; done)), H', ⟨by have := HK1.out; have := HK2.out; omega⟩, ⟨by (with_reducible repeat (first | apply Kd.R_alloc | apply Kd.R_drewN | apply Kd.R_drew)); exact HO_3.out⟩, ⟨by (with_reducible repeat (first | apply Kd.R_alloc | apply Kd.R_drewN | apply Kd.R_drew)); exact Kd.R_mono HO400.out (fun _ hk => trivial)⟩, ⟨by (with_reducible repeat (first | refine blk_drewN ?_ _ | refine blk_drew ?_ | refine blk_alloc ?_ _)); exact BK378.out⟩, ⟨by (with_reducible repeat (first | refine blk_drewN ?_ _ | refine blk_drew ?_ | refine blk_alloc ?_ _)); exact BK379.out⟩, ⟨by repeat (first | (with_reducible first | exact HB.out | apply below_alloc | apply pw_below_drewN | apply below_drew1 | refine below_set ?_ GE378.out | refine below_set ?_ GE379.out | refine below_set ?_ GE394.out) | exact HB.out)⟩⟩
             ·rw [if_neg c37] at H
              exact absurd H (by simp)
            ·rw [if_neg c35] at H
             exact absurd H (by simp)
           ·rw [if_neg c34] at H
            exact absurd H (by simp)
          ·rw [if_neg c33] at H
           have c33b0 : decide (x50_2 < (y389.length : Int)) = false := decide_eq_false c33
           clear c33
           simp only [Option.some.injEq, Prod.mk.injEq] at H
           obtain ⟨rfl, rfl, rfl, rfl, rfl⟩ := H
           obtain ⟨Ao44, co44, eo44⟩ := Kd.R_slice HO_3.out
           subst eo44
           have hnb45 := NB378_379.out
           have hnc45 := NB379_378.out
           obtain ⟨hcz46_0, hcz46_1, hcz46_2, hcz46_3, hcz46_4⟩ := bC5 BK378.out
           obtain ⟨hfz46_0, hfz46_1, hfz46_2, hfz46_3, hfz46_4⟩ := bF5 BK378.out
           obtain ⟨Ao47, co47, eo47⟩ := Kd.R_slice HO_6.out
           subst eo47
           obtain ⟨hcz48_0, hcz48_1, hcz48_2, hcz48_3, hcz48_4⟩ := bC5 BK379.out
           obtain ⟨hfz48_0, hfz48_1, hfz48_2, hfz48_3, hfz48_4⟩ := bF5 BK379.out
           go_wp2
           refine bodyPost_ret (results_cell_row rfl _ _ gb379 27 #[.int .i64 a0_0, .slice Ao44 x3_1.length co44, .int .i64 a0_2, .int .i64 a0_3, .slice Ao47 x6_2.length co47] (0, 0) _ rfl (by (with_reducible repeat (first | refine blk_drewN ?_ _ | refine blk_drew ?_ | refine blk_alloc ?_ _)); refine blk_put (cs := #[.int .i64 a0_0, .slice Ao44 x3_1.length co44, .int .i64 a0_2, .int .i64 a0_3, .slice none 0 0]) ?_ 4 _ rfl; (with_reducible repeat (first | refine blk_drewN ?_ _ | refine blk_drew ?_ | refine blk_alloc ?_ _)); refine blk_put (cs := #[.int .i64 a0_0, .slice Ao44 x3_1.length co44, .int .i64 a0_2, .int .i64 0, .slice none 0 0]) ?_ 3 _ rfl; (with_reducible repeat (first | refine blk_drewN ?_ _ | refine blk_drew ?_ | refine blk_alloc ?_ _)); refine blk_put (cs := #[.int .i64 a0_0, .slice Ao44 x3_1.length co44, .int .i64 0, .int .i64 0, .slice none 0 0]) ?_ 2 _ rfl; (with_reducible repeat (first | refine blk_drewN ?_ _ | refine blk_drew ?_ | refine blk_alloc ?_ _)); refine blk_put (cs := #[.int .i64 a0_0, .slice none 0 0, .int .i64 0, .int .i64 0, .slice none 0 0]) ?_ 1 _ rfl; (with_reducible repeat (first | refine blk_drewN ?_ _ | refine blk_drew ?_ | refine blk_alloc ?_ _)); refine blk_put (cs := #[.int .i64 0, .slice none 0 0, .int .i64 0, .int .i64 0, .slice none 0 0]) ?_ 0 _ rfl; (with_reducible repeat (first | refine blk_drewN ?_ _ | refine blk_drew ?_ | refine blk_alloc ?_ _)); refine blk_far ?_ NB379_378.out _; (with_reducible repeat (first | refine blk_drewN ?_ _ | refine blk_drew ?_ | refine blk_alloc ?_ _)); refine blk_far ?_ NB379_378.out _; (with_reducible repeat (first | refine blk_drewN ?_ _ | refine blk_drew ?_ | refine blk_alloc ?_ _)); exact BK379.out) Tryz.underlying27 rfl (by kernel_rfl)) rfl ?_
           exact ⟨_, _, by first | rfl | (simp [errW_none, errW_some] <;> rfl) | (simp only [← hji2, ← hji27]; first | rfl | (simp [errW_none, errW_some] <;> rfl)) | (simp [*, errW_none, errW_some] <;> rfl), by (with_reducible repeat (first | apply Kd.R_alloc | apply Kd.R_drewN | apply Kd.R_drew)); exact Kd.R_mono (rF 4 (rF 3 (rF 2 (rF 1 (rF 0 (Kd.R_far (p := ⟨gb378, 4, none⟩) (Kd.R_far (p := ⟨gb378, 1, none⟩) (Kd.R_types (Kd.R_types HO_3.out BK378.out (by decide)) BK379.out (by decide)) (fun _ hk => hk.1.2) (.slice Ao44 x3_1.length co44)) (fun _ hk => hk.1.2) (.slice Ao47 x6_2.length co47))))))) (fun _ hk => trivial), by (with_reducible repeat (first | apply Kd.R_alloc | apply Kd.R_drewN | apply Kd.R_drew)); exact Kd.R_mono (rF 4 (rF 3 (rF 2 (rF 1 (rF 0 (Kd.R_far (p := ⟨gb378, 4, none⟩) (Kd.R_far (p := ⟨gb378, 1, none⟩) (Kd.R_types (Kd.R_types HO_6.out BK378.out (by decide)) BK379.out (by decide)) (fun _ hk => hk.1.2) (.slice Ao44 x3_1.length co44)) (fun _ hk => hk.1.2) (.slice Ao47 x6_2.length co47))))))) (fun _ hk => trivial), by repeat (first | (with_reducible first | exact HB.out | apply below_alloc | apply pw_below_drewN | apply below_drew1 | refine below_set ?_ GE378.out | refine below_set ?_ GE379.out) | exact HB.out)⟩
       ·rw [if_neg c29] at H
        exact absurd H (by simp)
      ·rw [if_neg c28] at H
       exact absurd H (by simp)
  ·rw [if_neg c4] at H
   exact absurd H (by simp)
 ·rw [if_neg c3] at H
  exact absurd H (by simp)
end Go.Proofs.YtjfknmlchdifjaaGreatDoorQ.P
namespace Go.Proofs.YtjfknmlchdifjaaGreatDoorQ.P
open Go.RowKit Go.Proofs.YtjfknmlchdifjaaGreatDoorW.PrintWords Go.Proofs.YtjfknmlchdifjaaGreatDoorW.PrintLast Go.Proofs.YtjfknmlchdifjaaGreatDoorW.PrintMore
attribute [local go_sem] max2_int min2_int max_two min_two max_three min_three max_four min_four
def wire_Ask.f (a0_0 : Int) (a0_1 : ByteArray) (a0_2 : ByteArray) : Option (ByteArray × Int) := (label_Matcher.f a0_0 a0_1 a0_2).bind fun t402 => (if t402 = true then (if 0 ≤ a0_0 then (if a0_0 ≤ (wrap64 (a0_0 + 1)) then (if (wrap64 (a0_0 + 1)) ≤ 4 then (if a0_1.size + ((⟨#[61, 33, 94, 63]⟩ : ByteArray).extract (a0_0 : Int).toNat ((wrap64 (a0_0 + 1)) : Int).toNat).size ≤ 9223372036854775807 then (if (a0_1 ++ ((⟨#[61, 33, 94, 63]⟩ : ByteArray).extract (a0_0 : Int).toNat ((wrap64 (a0_0 + 1)) : Int).toNat)).size + a0_2.size ≤ 9223372036854775807 then (some ((a0_1 ++ ((⟨#[61, 33, 94, 63]⟩ : ByteArray).extract (a0_0 : Int).toNat ((wrap64 (a0_0 + 1)) : Int).toNat)) ++ a0_2, 0)) else (none)) else (none)) else (none)) else (none)) else (none)) else (some ((⟨#[]⟩ : ByteArray), 1)))
set_option maxHeartbeats 8000000 in
set_option maxRecDepth 100000 in
theorem wire_Ask.calls (a0_0 : Int) (a0_1 : ByteArray) (a0_2 : ByteArray) (r1 : ByteArray) (r2 : Int) (w : World) (h : wire_Ask.f a0_0 a0_1 a0_2 = some (r1, r2)) :
  Calls Tryz.prog 19 #[.agg #[.int .i64 a0_0, .string a0_1, .string a0_2]] w fun e w' => e = .returned (.tuple #[.string r1, .int .i64 r2]) ∧ Below w.heap.size w w' := by
 have hu32 := Tryz.underlying32
 have HB := aA (Below.refl w.heap.size w)
 have H : ((label_Matcher.f a0_0 a0_1 a0_2).bind fun t402 => (if t402 = true then (if 0 ≤ a0_0 then (if a0_0 ≤ (wrap64 (a0_0 + 1)) then (if (wrap64 (a0_0 + 1)) ≤ 4 then (if a0_1.size + ((⟨#[61, 33, 94, 63]⟩ : ByteArray).extract (a0_0 : Int).toNat ((wrap64 (a0_0 + 1)) : Int).toNat).size ≤ 9223372036854775807 then (if (a0_1 ++ ((⟨#[61, 33, 94, 63]⟩ : ByteArray).extract (a0_0 : Int).toNat ((wrap64 (a0_0 + 1)) : Int).toNat)).size + a0_2.size ≤ 9223372036854775807 then (some ((a0_1 ++ ((⟨#[61, 33, 94, 63]⟩ : ByteArray).extract (a0_0 : Int).toNat ((wrap64 (a0_0 + 1)) : Int).toNat)) ++ a0_2, 0)) else (none)) else (none)) else (none)) else (none)) else (none)) else (some ((⟨#[]⟩ : ByteArray), 1)))) = some (r1, r2) := h
 clear h
 replace H := Option.bind_eq_some_iff.mp H
 obtain ⟨t402, A20, H⟩ := H
 replace H : (if t402 = true then (if 0 ≤ a0_0 then (if a0_0 ≤ (wrap64 (a0_0 + 1)) then (if (wrap64 (a0_0 + 1)) ≤ 4 then (if a0_1.size + ((⟨#[61, 33, 94, 63]⟩ : ByteArray).extract (a0_0 : Int).toNat ((wrap64 (a0_0 + 1)) : Int).toNat).size ≤ 9223372036854775807 then (if (a0_1 ++ ((⟨#[61, 33, 94, 63]⟩ : ByteArray).extract (a0_0 : Int).toNat ((wrap64 (a0_0 + 1)) : Int).toNat)).size + a0_2.size ≤ 9223372036854775807 then (some ((a0_1 ++ ((⟨#[61, 33, 94, 63]⟩ : ByteArray).extract (a0_0 : Int).toNat ((wrap64 (a0_0 + 1)) : Int).toNat)) ++ a0_2, 0)) else (none)) else (none)) else (none)) else (none)) else (none)) else (some ((⟨#[]⟩ : ByteArray), 1))) = some (r1, r2) := H
 have A2 := aA A20
 clear A20
 by_cases c3 : t402 = true
 ·subst c3
  have H1 : (if 0 ≤ a0_0 then (if a0_0 ≤ (wrap64 (a0_0 + 1)) then (if (wrap64 (a0_0 + 1)) ≤ 4 then (if a0_1.size + ((⟨#[61, 33, 94, 63]⟩ : ByteArray).extract (a0_0 : Int).toNat ((wrap64 (a0_0 + 1)) : Int).toNat).size ≤ 9223372036854775807 then (if (a0_1 ++ ((⟨#[61, 33, 94, 63]⟩ : ByteArray).extract (a0_0 : Int).toNat ((wrap64 (a0_0 + 1)) : Int).toNat)).size + a0_2.size ≤ 9223372036854775807 then (some ((a0_1 ++ ((⟨#[61, 33, 94, 63]⟩ : ByteArray).extract (a0_0 : Int).toNat ((wrap64 (a0_0 + 1)) : Int).toNat)) ++ a0_2, 0)) else (none)) else (none)) else (none)) else (none)) else (none)) = some (r1, r2) := by rw [if_pos rfl] at H; exact H
  clear H
  have H := H1
  clear H1
  by_cases c4 : 0 ≤ a0_0
  ·rw [if_pos c4] at H
   have c4b0 := eq_true c4
   have c4b1 := decide_eq_true c4
   clear c4
   by_cases c5 : a0_0 ≤ (wrap64 (a0_0 + 1))
   ·rw [if_pos c5] at H
    have c5b0 := eq_true c5
    have c5b1 := decide_eq_true c5
    by_cases c6 : (wrap64 (a0_0 + 1)) ≤ 4
    ·rw [if_pos c6] at H
     have c6b0 := eq_true c6
     have c6b1 := decide_eq_true c6
     by_cases c7 : a0_1.size + ((⟨#[61, 33, 94, 63]⟩ : ByteArray).extract (a0_0 : Int).toNat ((wrap64 (a0_0 + 1)) : Int).toNat).size ≤ 9223372036854775807
     ·rw [if_pos c7] at H
      have c7b0 := eq_true c7
      have c7b1 := decide_eq_true c7
      try have c7b2 : (9223372036854775807 < a0_1.size + ((⟨#[61, 33, 94, 63]⟩ : ByteArray).extract (a0_0 : Int).toNat ((wrap64 (a0_0 + 1)) : Int).toNat).size) = False := eq_false (Nat.not_lt.2 c7)
      by_cases c8 : (a0_1 ++ ((⟨#[61, 33, 94, 63]⟩ : ByteArray).extract (a0_0 : Int).toNat ((wrap64 (a0_0 + 1)) : Int).toNat)).size + a0_2.size ≤ 9223372036854775807
      ·rw [if_pos c8] at H
       have c8b0 := eq_true c8
       have c8b1 := decide_eq_true c8
       try have c8b2 : (9223372036854775807 < (a0_1 ++ ((⟨#[61, 33, 94, 63]⟩ : ByteArray).extract (a0_0 : Int).toNat ((wrap64 (a0_0 + 1)) : Int).toNat)).size + a0_2.size) = False := eq_false (Nat.not_lt.2 c8)
       simp only [Option.some.injEq, Prod.mk.injEq] at H
       obtain ⟨rfl, rfl⟩ := H
       go_enter Tryz.func19, Tryz.ntmps19
       go_wp2_with (first | ((with_reducible refine gate_dst (N := 1) rfl ?_); refine box_event ?hg (N := 1) ?hd (cs := #[.int .i64 a0_0, .string a0_1, .string a0_2]) (t := 32) ?hr ?_; (case hd => rfl); (case hg => rfl); (case hr => first | (go_simp; done) | (go_simp; rfl)); intro gb401 hg w9 hbox hb; have n0_ := aA (below_step mB hb); have n1_ := aA (hbox); have n2_ := aA ((bZ hg mB)); have n3_ := aA ((bZ hg mB)); clear HB; have HB := n0_; have BK401 := n1_; have GW401 := n2_; have GE401 := n3_; clear n0_ n1_ n2_ n3_ hb hbox hg; obtain ⟨hcz10_0, hcz10_1, hcz10_2⟩ := bC3 BK401.out; obtain ⟨hfz10_0, hfz10_1, hfz10_2⟩ := bF3 BK401.out) | (go_at_call 41; (with_reducible refine (label_Matcher.calls a0_0 a0_1 a0_2 true _ A2.out).mono ?_); rintro e w11 ⟨rfl, hb⟩; have n0_ := aA (bB BK401.out hb); have n1_ := aA (below_step (mD1 GE401.out) hb); clear BK401 HB; have BK401 := n0_; have HB := n1_; clear n0_ n1_; (try clear hb); (try clear hb2); (try clear hk); (try clear hi); obtain ⟨hcz12_0, hcz12_1, hcz12_2⟩ := bC3 BK401.out; obtain ⟨hfz12_0, hfz12_1, hfz12_2⟩ := bF3 BK401.out))
       repeat (go_quiet (first | ((with_reducible refine gate_dst (N := 1) rfl ?_); refine box_event ?hg (N := 1) ?hd (cs := #[.int .i64 a0_0, .string a0_1, .string a0_2]) (t := 32) ?hr ?_; (case hd => rfl); (case hg => rfl); (case hr => first | (go_simp; done) | (go_simp; rfl)); intro gb401 hg w9 hbox hb; have n0_ := aA (below_step mB hb); have n1_ := aA (hbox); have n2_ := aA ((bZ hg mB)); have n3_ := aA ((bZ hg mB)); clear HB; have HB := n0_; have BK401 := n1_; have GW401 := n2_; have GE401 := n3_; clear n0_ n1_ n2_ n3_ hb hbox hg; obtain ⟨hcz10_0, hcz10_1, hcz10_2⟩ := bC3 BK401.out; obtain ⟨hfz10_0, hfz10_1, hfz10_2⟩ := bF3 BK401.out) | (go_at_call 41; (with_reducible refine (label_Matcher.calls a0_0 a0_1 a0_2 true _ A2.out).mono ?_); rintro e w11 ⟨rfl, hb⟩; have n0_ := aA (bB BK401.out hb); have n1_ := aA (below_step (mD1 GE401.out) hb); clear BK401 HB; have BK401 := n0_; have HB := n1_; clear n0_ n1_; (try clear hb); (try clear hb2); (try clear hk); (try clear hi); obtain ⟨hcz12_0, hcz12_1, hcz12_2⟩ := bC3 BK401.out; obtain ⟨hfz12_0, hfz12_1, hfz12_2⟩ := bF3 BK401.out)); try go_wp2_with (first | ((with_reducible refine gate_dst (N := 1) rfl ?_); refine box_event ?hg (N := 1) ?hd (cs := #[.int .i64 a0_0, .string a0_1, .string a0_2]) (t := 32) ?hr ?_; (case hd => rfl); (case hg => rfl); (case hr => first | (go_simp; done) | (go_simp; rfl)); intro gb401 hg w9 hbox hb; have n0_ := aA (below_step mB hb); have n1_ := aA (hbox); have n2_ := aA ((bZ hg mB)); have n3_ := aA ((bZ hg mB)); clear HB; have HB := n0_; have BK401 := n1_; have GW401 := n2_; have GE401 := n3_; clear n0_ n1_ n2_ n3_ hb hbox hg; obtain ⟨hcz10_0, hcz10_1, hcz10_2⟩ := bC3 BK401.out; obtain ⟨hfz10_0, hfz10_1, hfz10_2⟩ := bF3 BK401.out) | (go_at_call 41; (with_reducible refine (label_Matcher.calls a0_0 a0_1 a0_2 true _ A2.out).mono ?_); rintro e w11 ⟨rfl, hb⟩; have n0_ := aA (bB BK401.out hb); have n1_ := aA (below_step (mD1 GE401.out) hb); clear BK401 HB; have BK401 := n0_; have HB := n1_; clear n0_ n1_; (try clear hb); (try clear hb2); (try clear hk); (try clear hi); obtain ⟨hcz12_0, hcz12_1, hcz12_2⟩ := bC3 BK401.out; obtain ⟨hfz12_0, hfz12_1, hfz12_2⟩ := bF3 BK401.out)))
       go_ret2
       exact ⟨by first | rfl | (simp [errW_none, errW_some] <;> rfl) | (simp [*, errW_none, errW_some] <;> rfl), by repeat (first | (with_reducible first | exact HB.out | apply below_alloc | apply pw_below_drewN | apply below_drew1 | refine below_set ?_ GE401.out) | exact HB.out)⟩
      ·rw [if_neg c8] at H
       exact absurd H (by simp)
     ·rw [if_neg c7] at H
      exact absurd H (by simp)
    ·rw [if_neg c6] at H
     exact absurd H (by simp)
   ·rw [if_neg c5] at H
    exact absurd H (by simp)
  ·rw [if_neg c4] at H
   exact absurd H (by simp)
 ·replace c3 := Bool.eq_false_iff.mpr c3
  subst c3
  have H1 : (some ((⟨#[]⟩ : ByteArray), 1)) = some (r1, r2) := by rw [if_neg (show ¬ (false = true) by decide)] at H; exact H
  clear H
  have H := H1
  clear H1
  simp only [Option.some.injEq, Prod.mk.injEq] at H
  obtain ⟨rfl, rfl⟩ := H
  go_enter Tryz.func19, Tryz.ntmps19
  go_wp2_with (first | ((with_reducible refine gate_dst (N := 1) rfl ?_); refine box_event ?hg (N := 1) ?hd (cs := #[.int .i64 a0_0, .string a0_1, .string a0_2]) (t := 32) ?hr ?_; (case hd => rfl); (case hg => rfl); (case hr => first | (go_simp; done) | (go_simp; rfl)); intro gb401 hg w13 hbox hb; have n0_ := aA (below_step mB hb); have n1_ := aA (hbox); have n2_ := aA ((bZ hg mB)); have n3_ := aA ((bZ hg mB)); clear HB; have HB := n0_; have BK401 := n1_; have GW401 := n2_; have GE401 := n3_; clear n0_ n1_ n2_ n3_ hb hbox hg; obtain ⟨hcz14_0, hcz14_1, hcz14_2⟩ := bC3 BK401.out; obtain ⟨hfz14_0, hfz14_1, hfz14_2⟩ := bF3 BK401.out) | (go_at_call 41; (with_reducible refine (label_Matcher.calls a0_0 a0_1 a0_2 false _ A2.out).mono ?_); rintro e w15 ⟨rfl, hb⟩; have n0_ := aA (bB BK401.out hb); have n1_ := aA (below_step (mD1 GE401.out) hb); clear BK401 HB; have BK401 := n0_; have HB := n1_; clear n0_ n1_; (try clear hb); (try clear hb2); (try clear hk); (try clear hi)))
  repeat (go_quiet (first | ((with_reducible refine gate_dst (N := 1) rfl ?_); refine box_event ?hg (N := 1) ?hd (cs := #[.int .i64 a0_0, .string a0_1, .string a0_2]) (t := 32) ?hr ?_; (case hd => rfl); (case hg => rfl); (case hr => first | (go_simp; done) | (go_simp; rfl)); intro gb401 hg w13 hbox hb; have n0_ := aA (below_step mB hb); have n1_ := aA (hbox); have n2_ := aA ((bZ hg mB)); have n3_ := aA ((bZ hg mB)); clear HB; have HB := n0_; have BK401 := n1_; have GW401 := n2_; have GE401 := n3_; clear n0_ n1_ n2_ n3_ hb hbox hg; obtain ⟨hcz14_0, hcz14_1, hcz14_2⟩ := bC3 BK401.out; obtain ⟨hfz14_0, hfz14_1, hfz14_2⟩ := bF3 BK401.out) | (go_at_call 41; (with_reducible refine (label_Matcher.calls a0_0 a0_1 a0_2 false _ A2.out).mono ?_); rintro e w15 ⟨rfl, hb⟩; have n0_ := aA (bB BK401.out hb); have n1_ := aA (below_step (mD1 GE401.out) hb); clear BK401 HB; have BK401 := n0_; have HB := n1_; clear n0_ n1_; (try clear hb); (try clear hb2); (try clear hk); (try clear hi))); try go_wp2_with (first | ((with_reducible refine gate_dst (N := 1) rfl ?_); refine box_event ?hg (N := 1) ?hd (cs := #[.int .i64 a0_0, .string a0_1, .string a0_2]) (t := 32) ?hr ?_; (case hd => rfl); (case hg => rfl); (case hr => first | (go_simp; done) | (go_simp; rfl)); intro gb401 hg w13 hbox hb; have n0_ := aA (below_step mB hb); have n1_ := aA (hbox); have n2_ := aA ((bZ hg mB)); have n3_ := aA ((bZ hg mB)); clear HB; have HB := n0_; have BK401 := n1_; have GW401 := n2_; have GE401 := n3_; clear n0_ n1_ n2_ n3_ hb hbox hg; obtain ⟨hcz14_0, hcz14_1, hcz14_2⟩ := bC3 BK401.out; obtain ⟨hfz14_0, hfz14_1, hfz14_2⟩ := bF3 BK401.out) | (go_at_call 41; (with_reducible refine (label_Matcher.calls a0_0 a0_1 a0_2 false _ A2.out).mono ?_); rintro e w15 ⟨rfl, hb⟩; have n0_ := aA (bB BK401.out hb); have n1_ := aA (below_step (mD1 GE401.out) hb); clear BK401 HB; have BK401 := n0_; have HB := n1_; clear n0_ n1_; (try clear hb); (try clear hb2); (try clear hk); (try clear hi))))
  go_ret2
  exact ⟨by first | rfl | (simp [errW_none, errW_some] <;> rfl) | (simp [*, errW_none, errW_some] <;> rfl), by repeat (first | (with_reducible first | exact HB.out | apply below_alloc | apply pw_below_drewN | apply below_drew1 | refine below_set ?_ GE401.out) | exact HB.out)⟩
end Go.Proofs.YtjfknmlchdifjaaGreatDoorQ.P
namespace Go.Proofs.YtjfknmlchdifjaaGreatDoorQ.P
open Go.RowKit Go.Proofs.YtjfknmlchdifjaaGreatDoorW.PrintWords Go.Proofs.YtjfknmlchdifjaaGreatDoor
def wire_isHush.f (a0_0 : Int) (a0_1 : Int) (l0_2 : List (S32)) : Option (Bool) := if matsOkB l0_2 = true then some (hushB a0_0 a0_1 (l0_2.map toMat)) else none
theorem wire_isHush.calls (a0_0 : Int) (a0_1 : Int) (A0_2 : Option Addr) (c0_2 : Nat) (l0_2 : List (S32)) (r : Bool) (w : World) (hr0_2 : Kd.C k32 w A0_2 l0_2.length l0_2) (hc0_2 : l0_2.length ≤ c0_2) (h : wire_isHush.f a0_0 a0_1 l0_2 = some r) :
    Calls Tryz.prog 47 #[.agg #[.int .i64 a0_0, .int .i64 a0_1, .slice A0_2 l0_2.length c0_2]] w fun e w' => e = .returned (.bool r) ∧ Below w.heap.size w w' := by
  obtain ⟨h1, rfl⟩ := if_some h
  exact isHush_any _ _ _ _ w (mats_c hr0_2 hc0_2) (mats_ok h1)
end Go.Proofs.YtjfknmlchdifjaaGreatDoorQ.P
