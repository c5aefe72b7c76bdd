/- The statement 'BoundRises': for every input the law returns true, and each argument reads behind the call as it read before; the library's tables are tied to the program's text. No condition. -/
import Derived.WideShapes
import Derived.HandedShaped
import Derived.SizedLaws
import Derived.LaidMore
import Derived.Test.YtejdpjmfnpbadaaGreatDoorRows
import Derived.Test.YtejdpjmfnpbadaaGreatDoorCards
import Derived.Test.YtejdpjmfnpbadaaGreatDoorTie
import Derived.WalkKit
import Derived.ProofKit
import Derived.OpenShut
import Derived.ShutString
import Derived.Below
import Derived.Carry
import Derived.Stop.Joined
import Derived.Stop.LaidErr
import Derived.SevenTiedAt
import Derived.Lib.LaidTab
import Derived.Lay
import Derived.LaidOnce
import Derived.Shelf.Vars
import Derived.Test.YtejdpjmfnpbadaaGreatDoorWbr1
import Derived.Test.YtejdpjmfnpbadaaGreatDoorWbr2
import Derived.Test.YtejdpjmfnpbadaaGreatDoorWbr3
set_option linter.unusedVariables false
set_option linter.unusedSimpArgs false
namespace Go.Proofs.YtejdpjmfnpbadaaGreatDoorQ.P
open Go.RowKit Go.Proofs.YtejdpjmfnpbadaaGreatDoorW.PrintWords Go.Proofs.YtejdpjmfnpbadaaGreatDoorW.PrintLast Go.Proofs.YtejdpjmfnpbadaaGreatDoorW.PrintMore
attribute [local go_sem] max2_int min2_int max_two min_two max_three min_three max_four min_four
def foghornlaw24_alive.f  : Option (Bool) := (config_Parse.f (⟨#[114, 101, 99, 101, 105, 118, 101, 114, 32, 97, 32, 49, 32, 56, 32, 48, 32, 51, 32, 53, 32, 49, 48, 32, 50, 32, 52, 10, 114, 111, 117, 116, 101, 32, 97, 32, 105, 102, 10, 114, 101, 112, 101, 97, 116, 32, 54, 48, 10, 98, 101, 97, 116, 32, 51, 48, 10]⟩ : ByteArray)).bind fun bt170 => ((bound_Alone.f bt170.1 bt170.2.1 bt170.2.2.1 bt170.2.2.2.1 3).bind fun bt181 => ((bound_Many.f bt170.1 bt170.2.1 bt170.2.2.1 bt170.2.2.2.1 0 4).bind fun bt183 => ((bound_Life.f bt170.1 bt170.2.1 bt170.2.2.1 bt170.2.2.2.1 7).bind fun bt185 => (if bt181.2 = 0 then (if bt183.2 = 0 then (if bt185.2 = 0 then (if bt181.1 = 21 then (if bt183.1 = 13 then (some (bt185.1 == 37)) else (some false)) else (some false)) else (some false)) else (some false)) else (some false)))))
set_option maxHeartbeats 8000000 in
set_option maxRecDepth 100000 in
theorem foghornlaw24_alive.callsT  (r : Bool) (w : World) (hG : GOK w) (h : foghornlaw24_alive.f  = some r) (hrt_ : r = true) :
  Calls Tryz.prog 12 #[] w fun e w' => e = .returned (.bool r) ∧ Below w.heap.size w w' := by
 have hu25 := Tryz.underlying25
 have HG := aA hG
 clear hG
 have HB := aA (Below.refl w.heap.size w)
 have H : ((config_Parse.f (⟨#[114, 101, 99, 101, 105, 118, 101, 114, 32, 97, 32, 49, 32, 56, 32, 48, 32, 51, 32, 53, 32, 49, 48, 32, 50, 32, 52, 10, 114, 111, 117, 116, 101, 32, 97, 32, 105, 102, 10, 114, 101, 112, 101, 97, 116, 32, 54, 48, 10, 98, 101, 97, 116, 32, 51, 48, 10]⟩ : ByteArray)).bind fun bt170 => ((bound_Alone.f bt170.1 bt170.2.1 bt170.2.2.1 bt170.2.2.2.1 3).bind fun bt181 => ((bound_Many.f bt170.1 bt170.2.1 bt170.2.2.1 bt170.2.2.2.1 0 4).bind fun bt183 => ((bound_Life.f bt170.1 bt170.2.1 bt170.2.2.1 bt170.2.2.2.1 7).bind fun bt185 => (if bt181.2 = 0 then (if bt183.2 = 0 then (if bt185.2 = 0 then (if bt181.1 = 21 then (if bt183.1 = 13 then (some (bt185.1 == 37)) else (some false)) else (some false)) else (some false)) else (some false)) else (some false)))))) = some r := h
 clear h
 replace H := Option.bind_eq_some_iff.mp H
 obtain ⟨⟨t170, t173, t176, t177, t178, t179⟩, A10, H⟩ := H
 have A1 := aA A10
 clear A10
 replace H := Option.bind_eq_some_iff.mp H
 obtain ⟨⟨t181, t182⟩, A20, H⟩ := H
 have A2 := aA A20
 clear A20
 replace H := Option.bind_eq_some_iff.mp H
 obtain ⟨⟨t183, t184⟩, A30, H⟩ := H
 have A3 := aA A30
 clear A30
 replace H := Option.bind_eq_some_iff.mp H
 obtain ⟨⟨t185, t186⟩, A40, H⟩ := H
 have A4 := aA A40
 clear A40
 by_cases c5 : t182 = 0
 ·rw [if_pos c5] at H
  have c5b0 : (t182 == 0) = true := beq_iff_eq.mpr c5
  have c5b1 : (t182 != 0) = false := bne_eq_false_iff_eq.mpr c5
  clear c5
  by_cases c6 : t184 = 0
  ·rw [if_pos c6] at H
   have c6b0 : (t184 == 0) = true := beq_iff_eq.mpr c6
   have c6b1 : (t184 != 0) = false := bne_eq_false_iff_eq.mpr c6
   clear c6
   by_cases c7 : t186 = 0
   ·rw [if_pos c7] at H
    have c7b0 : (t186 == 0) = true := beq_iff_eq.mpr c7
    have c7b1 : (t186 != 0) = false := bne_eq_false_iff_eq.mpr c7
    clear c7
    by_cases c8 : t181 = 21
    ·rw [if_pos c8] at H
     have c8b0 : (t181 == 21) = true := beq_iff_eq.mpr c8
     have c8b1 : (t181 != 21) = false := bne_eq_false_iff_eq.mpr c8
     clear c8
     by_cases c9 : t183 = 13
     ·rw [if_pos c9] at H
      have c9b0 : (t183 == 13) = true := beq_iff_eq.mpr c9
      have c9b1 : (t183 != 13) = false := bne_eq_false_iff_eq.mpr c9
      clear c9
      obtain rfl := Option.some.inj H
      go_enter Tryz.func12, Tryz.ntmps12
      go_wp2_with (first | ((with_reducible refine gate_callee (f := 30) rfl ?_); refine goesL_ (some 11) rfl rfl Tryz.func30 (by kernel_rfl) rfl #[.string (⟨#[114, 101, 99, 101, 105, 118, 101, 114, 32, 97, 32, 49, 32, 56, 32, 48, 32, 51, 32, 53, 32, 49, 48, 32, 50, 32, 52, 10, 114, 111, 117, 116, 101, 32, 97, 32, 105, 102, 10, 114, 101, 112, 101, 97, 116, 32, 54, 48, 10, 98, 101, 97, 116, 32, 51, 48, 10]⟩ : ByteArray)] rfl mS ?_; (with_reducible refine (config_Parse.calls (⟨#[114, 101, 99, 101, 105, 118, 101, 114, 32, 97, 32, 49, 32, 56, 32, 48, 32, 51, 32, 53, 32, 49, 48, 32, 50, 32, 52, 10, 114, 111, 117, 116, 101, 32, 97, 32, 105, 102, 10, 114, 101, 112, 101, 97, 116, 32, 54, 48, 10, 98, 101, 97, 116, 32, 51, 48, 10]⟩ : ByteArray) t170 t173 t176 t177 t178 t179 _ ?side1 A1.out).mono ?_); (case side1 => exact gok_below HG.out mB); rintro e w10 ⟨v171, v174, rfl, ho0, ho1, hb⟩; refine ⟨_, rfl, ?_⟩; have n0_ := aA (Kd.R_lower ho0 (below_size mB)); have n1_ := aA (Kd.S_lower ho1 (below_size mB)); have n2_ := aA (below_step mB hb); clear HB; have HO172 := n0_; have HO175 := n1_; have HB := n2_; clear n0_ n1_ n2_; (try clear hb); (try clear hb2); (try clear hk); (try clear hi); (try clear ho0); (try clear ho1)) | ((with_reducible refine gate_dst (N := 1) rfl ?_); refine box_event ?hg (N := 1) ?hd (cs := #[.slice none 0 0, .slice none 0 0, .int .i64 0, .int .i64 0]) (t := 25) ?hr ?_; (case hd => rfl); (case hg => rfl); (case hr => first | (go_simp; done) | (go_simp; rfl)); intro gb180 hg w11 hbox hb; have n0_ := aA (Kd.R_below (mR HO172.out) hb); have n1_ := aA (Kd.S_below (by (with_reducible repeat (first | apply Kd.S_alloc | apply Kd.S_drewN | apply Kd.S_drew)); exact HO175.out) hb); have n2_ := aA (below_step mB hb); have n3_ := aA (hbox); have n4_ := aA ((bZ hg mB)); have n5_ := aA ((bZ hg mB)); clear HO172 HO175 HB; have HO172 := n0_; have HO175 := n1_; have HB := n2_; have BK180 := n3_; have GW180 := n4_; have GE180 := n5_; clear n0_ n1_ n2_ n3_ n4_ n5_ hb hbox hg; obtain ⟨Ao12, co12, eo12⟩ := Kd.R_slice HO172.out; subst eo12; obtain ⟨hcz13_0, hcz13_1, hcz13_2, hcz13_3⟩ := bC4 BK180.out; obtain ⟨hfz13_0, hfz13_1, hfz13_2, hfz13_3⟩ := bF4 BK180.out; obtain ⟨Ao14, co14, eo14⟩ := Kd.S_slice HO175.out; subst eo14) | ((with_reducible refine gate_callee (f := 8) rfl ?_); refine goesL_ (some 17) rfl rfl Tryz.func8 (by kernel_rfl) rfl #[.agg #[.slice Ao12 t170.length co12, .slice Ao14 t173.length co14, .int .i64 t176, .int .i64 t177], .int .i64 3] rfl mS ?_; (with_reducible refine (bound_Alone.calls _ _ t170 _ _ t173 t176 t177 3 t181 t182 _ ?side1 ?side2 ?side3 ?side4 A2.out).mono ?_); (case side1 => refine (Kd.R_reads' (e := 41) (base := w.heap.size) (ok := fun k_ => True) (n := t170.length) (c := co12) ?_).2.2; exact (by (with_reducible repeat (first | apply Kd.R_alloc | apply Kd.R_drewN | apply Kd.R_drew)); exact (Kd.R_mono (rF 3 (rF 2 (rF 1 (rF 0 (Kd.R_types HO172.out BK180.out (by decide)))))) (fun _ h_ => h_.1)))); (case side2 => exact (Kd.R_reads' HO172.out).2.1); (case side3 => refine (Kd.S_reads' (e := 46) (base := w.heap.size) (ok := fun k_ => True) (n := t173.length) (c := co14) ?_).2.2; exact (by (with_reducible repeat (first | apply Kd.S_alloc | apply Kd.S_drewN | apply Kd.S_drew)); exact (Kd.S_mono (Kd.S_far (p := ⟨gb180, 3, none⟩) (Kd.S_far (p := ⟨gb180, 2, none⟩) (Kd.S_far (p := ⟨gb180, 1, none⟩) (Kd.S_far (p := ⟨gb180, 0, none⟩) (Kd.S_types HO175.out BK180.out (by decide)) (fun _ hk => hk.2) (.slice Ao12 t170.length co12)) (fun _ hk => hk.2) (.slice Ao14 t173.length co14)) (fun _ hk => hk.2) (.int .i64 t176)) (fun _ hk => hk.2) (.int .i64 t177)) (fun _ h_ => h_.1)))); (case side4 => exact (Kd.S_reads' HO175.out).2.1); rintro e w15 ⟨rfl, hb⟩; refine ⟨_, rfl, ?_⟩; have n0_ := aA (Kd.R_below (by (with_reducible repeat (first | apply Kd.R_alloc | apply Kd.R_drewN | apply Kd.R_drew)); exact (Kd.R_mono (rF 3 (rF 2 (rF 1 (rF 0 (Kd.R_types HO172.out BK180.out (by decide)))))) (fun _ h_ => h_.1))) hb); have n1_ := aA (Kd.S_below (by (with_reducible repeat (first | apply Kd.S_alloc | apply Kd.S_drewN | apply Kd.S_drew)); exact (Kd.S_mono (Kd.S_far (p := ⟨gb180, 3, none⟩) (Kd.S_far (p := ⟨gb180, 2, none⟩) (Kd.S_far (p := ⟨gb180, 1, none⟩) (Kd.S_far (p := ⟨gb180, 0, none⟩) (Kd.S_types HO175.out BK180.out (by decide)) (fun _ hk => hk.2) (.slice Ao12 t170.length co12)) (fun _ hk => hk.2) (.slice Ao14 t173.length co14)) (fun _ hk => hk.2) (.int .i64 t176)) (fun _ hk => hk.2) (.int .i64 t177)) (fun _ h_ => h_.1))) hb); have n2_ := aA (blk_below (g := gb180) (o := .cells #[.slice Ao12 t170.length co12, .slice Ao14 t173.length co14, .int .i64 t176, .int .i64 t177] 25 (0, 0)) (by (with_reducible repeat (first | refine blk_drewN ?_ _ | refine blk_drew ?_ | refine blk_alloc ?_ _)); have h_ := BK180.out; exact pK 3 (pK 2 (pK 1 (pK 0 (h_))))) hb); have n3_ := aA (below_step (mD1 GE180.out) hb); clear HO172 HO175 BK180 HB; have HO172 := n0_; have HO175 := n1_; have BK180 := n2_; have HB := n3_; clear n0_ n1_ n2_ n3_; (try clear hb); (try clear hb2); (try clear hk); (try clear hi); obtain ⟨hcz16_0, hcz16_1, hcz16_2, hcz16_3⟩ := bC4 BK180.out; obtain ⟨hfz16_0, hfz16_1, hfz16_2, hfz16_3⟩ := bF4 BK180.out) | ((with_reducible refine gate_callee (f := 9) rfl ?_); refine goesL_ (some 22) rfl rfl Tryz.func9 (by kernel_rfl) rfl #[.agg #[.slice Ao12 t170.length co12, .slice Ao14 t173.length co14, .int .i64 t176, .int .i64 t177], .int .i64 0, .int .i64 4] rfl mS ?_; (with_reducible refine (bound_Many.calls _ _ t170 _ _ t173 t176 t177 0 4 t183 t184 _ ?side1 ?side2 ?side3 ?side4 A3.out).mono ?_); (case side1 => exact mC ((Kd.R_reads' HO172.out).2.2)); (case side2 => exact (Kd.R_reads' HO172.out).2.1); (case side3 => exact mC ((Kd.S_reads' HO175.out).2.2)); (case side4 => exact (Kd.S_reads' HO175.out).2.1); rintro e w17 ⟨rfl, hb⟩; refine ⟨_, rfl, ?_⟩; have n0_ := aA (Kd.R_below (mR HO172.out) hb); have n1_ := aA (Kd.S_below (by (with_reducible repeat (first | apply Kd.S_alloc | apply Kd.S_drewN | apply Kd.S_drew)); exact HO175.out) hb); have n2_ := aA (bB BK180.out hb); have n3_ := aA (below_step (mD1 GE180.out) hb); clear HO172 HO175 BK180 HB; have HO172 := n0_; have HO175 := n1_; have BK180 := n2_; have HB := n3_; clear n0_ n1_ n2_ n3_; (try clear hb); (try clear hb2); (try clear hk); (try clear hi); obtain ⟨hcz18_0, hcz18_1, hcz18_2, hcz18_3⟩ := bC4 BK180.out; obtain ⟨hfz18_0, hfz18_1, hfz18_2, hfz18_3⟩ := bF4 BK180.out) | ((with_reducible refine gate_callee (f := 10) rfl ?_); refine goesL_ (some 27) rfl rfl Tryz.func10 (by kernel_rfl) rfl #[.agg #[.slice Ao12 t170.length co12, .slice Ao14 t173.length co14, .int .i64 t176, .int .i64 t177], .int .i64 7] rfl mS ?_; (with_reducible refine (bound_Life.calls _ _ t170 _ _ t173 t176 t177 7 t185 t186 _ ?side1 ?side2 ?side3 ?side4 A4.out).mono ?_); (case side1 => exact mC ((Kd.R_reads' HO172.out).2.2)); (case side2 => exact (Kd.R_reads' HO172.out).2.1); (case side3 => exact mC ((Kd.S_reads' HO175.out).2.2)); (case side4 => exact (Kd.S_reads' HO175.out).2.1); rintro e w19 ⟨rfl, hb⟩; refine ⟨_, rfl, ?_⟩; have n0_ := aA (Kd.R_below (mR HO172.out) hb); have n1_ := aA (Kd.S_below (by (with_reducible repeat (first | apply Kd.S_alloc | apply Kd.S_drewN | apply Kd.S_drew)); exact HO175.out) hb); have n2_ := aA (bB BK180.out hb); have n3_ := aA (below_step (mD1 GE180.out) hb); clear HO172 HO175 BK180 HB; have HO172 := n0_; have HO175 := n1_; have BK180 := n2_; have HB := n3_; clear n0_ n1_ n2_ n3_; (try clear hb); (try clear hb2); (try clear hk); (try clear hi)))
      go_ret
      exact ⟨by first | rfl | (simp [errW_none, errW_some] <;> rfl) | (simp [*, errW_none, errW_some] <;> rfl), by repeat (first | (with_reducible first | exact HB.out | apply below_alloc | apply pw_below_drewN | apply below_drew1 | refine below_set ?_ GE180.out) | exact HB.out)⟩
     ·rw [if_neg c9] at H
      have c9b0 : (t183 == 13) = false := beq_eq_false_iff_ne.mpr c9
      have c9b1 : (t183 != 13) = true := bne_iff_ne.mpr c9
      exact absurd (Option.some.inj H) (by rw [hrt_]; decide)
    ·rw [if_neg c8] at H
     have c8b0 : (t181 == 21) = false := beq_eq_false_iff_ne.mpr c8
     have c8b1 : (t181 != 21) = true := bne_iff_ne.mpr c8
     exact absurd (Option.some.inj H) (by rw [hrt_]; decide)
   ·rw [if_neg c7] at H
    have c7b0 : (t186 == 0) = false := beq_eq_false_iff_ne.mpr c7
    have c7b1 : (t186 != 0) = true := bne_iff_ne.mpr c7
    exact absurd (Option.some.inj H) (by rw [hrt_]; decide)
  ·rw [if_neg c6] at H
   have c6b0 : (t184 == 0) = false := beq_eq_false_iff_ne.mpr c6
   have c6b1 : (t184 != 0) = true := bne_iff_ne.mpr c6
   exact absurd (Option.some.inj H) (by rw [hrt_]; decide)
 ·rw [if_neg c5] at H
  have c5b0 : (t182 == 0) = false := beq_eq_false_iff_ne.mpr c5
  have c5b1 : (t182 != 0) = true := bne_iff_ne.mpr c5
  exact absurd (Option.some.inj H) (by rw [hrt_]; decide)
end Go.Proofs.YtejdpjmfnpbadaaGreatDoorQ.P
namespace Go.Proofs.YtejdpjmfnpbadaaGreatDoor
open Go.RowKit
structure CfgI (c : Cfg) (a : List UInt8) : Prop where
  rs : rcvsB [] c.rs = true
  rl : c.rs.length ≤ 4
  ts : ∀ t ∈ c.ts, rteB t c.rs.length = true
  tl : c.ts.length ≤ 4
  none_ : a = [] → c.rs = [] ∧ c.ts = []
  rcv : a = rcvT → 1 ≤ c.rs.length ∧ c.ts = []
  rte : a = rteT → 1 ≤ c.rs.length ∧ 1 ≤ c.ts.length
  rep : a = repT → 1 ≤ c.rs.length ∧ 1 ≤ c.ts.length ∧ oftenB c.rep = true
  beat : a = beatT → 1 ≤ c.rs.length ∧ 1 ≤ c.ts.length ∧ oftenB c.rep = true ∧ oftenB c.beat = true
theorem CfgI.zero : CfgI Cfg.zero [] := ⟨rfl, Nat.zero_le _, fun t h => (by cases h), Nat.zero_le _, fun _ => ⟨rfl, rfl⟩, fun h => (by cases h), fun h => (by cases h), fun h => (by cases h), fun h => (by cases h)⟩
theorem CfgI.okB {c : Cfg} (h : CfgI c beatT) : c.okB = true := by
  obtain ⟨h1, h2, h3, h4⟩ := h.beat rfl
  unfold Cfg.okB
  rw [h.rs, h3, h4, decide_eq_true h1, decide_eq_true h.rl, decide_eq_true h2, decide_eq_true h.tl]
  simp only [Bool.true_and, Bool.and_true, Bool.not_eq_true', List.any_eq_false]
  intro t ht
  rw [h.ts t ht]
  decide
end Go.Proofs.YtejdpjmfnpbadaaGreatDoor
namespace Go.Proofs.YtejdpjmfnpbadaaGreatDoor
open Go.RowKit
def numW (n : Int) : List UInt8 := Lib.itoa n
def rcvW (x : Rcv) : List (List UInt8) := [rcvT, x.name.data.toList, numW x.base, numW x.top, numW x.jit, numW x.tries, numW x.fails, numW x.opn, numW x.burst, numW x.every]
def nameW (rs : List Rcv) (k : Int) : List UInt8 := ((rs.map Rcv.name).getD k.toNat (⟨#[]⟩ : ByteArray)).data.toList
def rteW (rs : List Rcv) (t : Rte) : List (List UInt8) := rteT :: (t.chain.map (nameW rs) ++ ifT :: t.asked.map askW)
def lineW (ws : List (List UInt8)) : List UInt8 := joinW 32 ws ++ [10]
def Cfg.lines (c : Cfg) : List (List (List UInt8)) := c.rs.map rcvW ++ (c.ts.map (rteW c.rs) ++ [[repT, numW c.rep], [beatT, numW c.beat]])
def Cfg.text (c : Cfg) : List UInt8 := c.lines.flatMap lineW
def NoB (w : List UInt8) : Prop := ∀ c ∈ w, c ≠ 32 ∧ c ≠ 10
theorem lines_join : ∀ {L : List (List (List UInt8))}, L ≠ [] → L.flatMap lineW = joinW 10 (L.map (joinW 32)) ++ [10]
  | [x], _ => by simp [lineW, joinW]
  | x :: y :: r, _ => by
    rw [List.flatMap_cons, lines_join (L := y :: r) (by simp)]
    have e : joinW 10 ((x :: y :: r).map (joinW 32)) = joinW 32 x ++ 10 :: joinW 10 ((y :: r).map (joinW 32)) := joinW_cons 10 (joinW 32 x) (r := (y :: r).map (joinW 32)) (by simp)
    rw [e]
    simp [lineW]
theorem joinW_no {c : UInt8} (h : c ≠ 32) : ∀ {ws : List (List UInt8)}, (∀ w ∈ ws, c ∉ w) → c ∉ joinW 32 ws
  | [], _ => by simp [joinW]
  | [x], h2 => by simpa [joinW] using h2 x (by simp)
  | x :: y :: r, h2 => by
    rw [joinW_cons _ _ (by simp)]
    intro hc
    rcases List.mem_append.1 hc with hc | hc
    · exact h2 x (by simp) hc
    · rcases List.mem_cons.1 hc with hc | hc
      · exact h hc
      · exact joinW_no h (ws := y :: r) (fun w hw => h2 w (List.mem_cons_of_mem _ hw)) hc
theorem linesT_text {L : List (List (List UInt8))} (hL : L ≠ []) (h : ∀ ws ∈ L, ∀ w ∈ ws, NoB w) : linesT (L.flatMap lineW) = L.map fun ws => tx (joinW 32 ws) := by
  rw [lines_join hL, linesT_nl, split_join 10 (by simpa using hL), List.map_map]
  · rfl
  · intro x hx
    obtain ⟨ws, hw, rfl⟩ := List.mem_map.1 hx
    exact joinW_no (by decide) fun w hww hc => (h ws hw w hww 10 hc).2 rfl
theorem words_text {ws : List (List UInt8)} (h0 : ws ≠ []) (h : ∀ w ∈ ws, NoB w) : (splitL 32 (tx (joinW 32 ws)).data.toList).map tx = ws.map tx := by
  have : (tx (joinW 32 ws)).data.toList = joinW 32 ws := by simp [tx]
  rw [this, split_join 32 h0 fun x hx hc => (h x hx 32 hc).1 rfl]
theorem linesS_step {c c' : Cfg} {a a' : List UInt8} {i : Int} {ws : List (List UInt8)} (r : List ByteArray) (h0 : ws ≠ []) (h : ∀ w ∈ ws, NoB w) (hl : lineS c a (ws.map tx) = (c', a', 0)) :
    linesS c a i (tx (joinW 32 ws) :: r) = linesS c' a' (i + 1) r := by
  conv => lhs; unfold linesS
  rw [words_text h0 h, hl]
  exact if_pos rfl
theorem num_ok {n : Int} (h0 : 0 ≤ n) (h1 : n ≤ 1099511627776) : atoiB (tx (numW n)).data.toList = true ∧ atoiV (tx (numW n)).data.toList = n := by
  rw [tx_data]
  unfold numW
  rw [itoa_nat h0]
  have hb : numB (Lib.decDigits n.toNat) = true := numB_dec (by omega)
  rw [atoiB_eq, atoiV_num hb, numV_dec]
  exact ⟨hb, by omega⟩
theorem num_no {n : Int} (h0 : 0 ≤ n) : NoB (numW n) := by
  unfold numW
  rw [itoa_nat h0]
  exact no_blank_dec _
theorem rng_of {n a b : Int} (h : rngB n a b = true) : a ≤ n ∧ n ≤ b := by
  unfold rngB at h
  simpa using h
theorem rcvB_parts {x : Rcv} (h : rcvB x = true) : nameB x.name = true ∧ x.name.data.toList ≠ ifT ∧ (1 ≤ x.base ∧ x.base ≤ 1048576) ∧ (x.base ≤ x.top ∧ x.top ≤ 1073741824) ∧ (0 ≤ x.jit ∧ x.jit ≤ 1048576) ∧ (1 ≤ x.tries ∧ x.tries ≤ 100) ∧
    (1 ≤ x.fails ∧ x.fails ≤ 100) ∧ (1 ≤ x.opn ∧ x.opn ≤ 1048576) ∧ (1 ≤ x.burst ∧ x.burst ≤ 100) ∧ (1 ≤ x.every ∧ x.every ≤ 1048576) := by
  unfold rcvB at h
  simp only [Bool.and_eq_true, decide_eq_true_eq] at h
  obtain ⟨⟨⟨⟨⟨h1, h2⟩, ⟨⟨h3, h4⟩, h5⟩⟩, h6⟩, ⟨h7, h8⟩⟩, ⟨h9, h10⟩⟩ := h
  exact ⟨h1, h2, rng_of h3, rng_of h4, rng_of h5, rng_of h6, rng_of h7, rng_of h8, rng_of h9, rng_of h10⟩
theorem name_blank {n : ByteArray} (h : nameB n = true) : NoB n.data.toList := by
  intro c hc
  have h1 := (nameB_all h).1
  rw [List.all_eq_true] at h1
  exact ⟨(az_sign c (h1 c hc)).2.2.1, (az_sign c (h1 c hc)).2.2.2⟩
theorem const_no : NoB rcvT ∧ NoB rteT ∧ NoB repT ∧ NoB beatT ∧ NoB ifT := by
  unfold NoB
  decide
theorem rcvW_no {x : Rcv} (h : rcvB x = true) : ∀ w ∈ rcvW x, NoB w := by
  obtain ⟨h1, h2, h3, h4, h5, h6, h7, h8, h9, h10⟩ := rcvB_parts h
  intro w hw
  simp only [rcvW, List.mem_cons, List.not_mem_nil, or_false] at hw
  rcases hw with rfl | rfl | rfl | rfl | rfl | rfl | rfl | rfl | rfl | rfl
  · exact const_no.1
  · exact name_blank h1
  · exact num_no (by omega)
  · exact num_no (by omega)
  · exact num_no (by omega)
  · exact num_no (by omega)
  · exact num_no (by omega)
  · exact num_no (by omega)
  · exact num_no (by omega)
  · exact num_no (by omega)
theorem rcvS_text {rs : List Rcv} {x : Rcv} (h : rcvB x = true) (hp : placeL rs x.name < 0) (hl : rs.length ≠ 4) : rcvS rs ((rcvW x).map tx) = (rs ++ [x], 0) := by
  obtain ⟨h1, h2, h3, h4, h5, h6, h7, h8, h9, h10⟩ := rcvB_parts h
  unfold rcvS
  rw [if_neg hl, if_neg (by simp [rcvW])]
  have hn : ((rcvW x).map tx).getD 1 ⟨#[]⟩ = x.name := tx_of x.name
  rw [hn, if_neg (by omega)]
  have hd : numsP (((rcvW x).map tx).drop 2) = some [x.base, x.top, x.jit, x.tries, x.fails, x.opn, x.burst, x.every] := by
    have g := fun {n : Int} (h0 : 0 ≤ n) (h1 : n ≤ 1099511627776) => num_ok h0 h1
    simp only [rcvW, List.map_cons, List.map_nil, List.drop_succ_cons, List.drop_zero, numsP]
    rw [if_pos (g (by omega) (by omega)).1, if_pos (g (by omega) (by omega)).1, if_pos (g (by omega) (by omega)).1, if_pos (g (by omega) (by omega)).1, if_pos (g (by omega) (by omega)).1, if_pos (g (by omega) (by omega)).1, if_pos (g (by omega) (by omega)).1, if_pos (g (by omega) (by omega)).1]
    rw [(g (n := x.base) (by omega) (by omega)).2, (g (n := x.top) (by omega) (by omega)).2, (g (n := x.jit) (by omega) (by omega)).2, (g (n := x.tries) (by omega) (by omega)).2, (g (n := x.fails) (by omega) (by omega)).2, (g (n := x.opn) (by omega) (by omega)).2, (g (n := x.burst) (by omega) (by omega)).2, (g (n := x.every) (by omega) (by omega)).2]
    rfl
  rw [hd]
  unfold rcvN rcvOf
  exact if_pos h
theorem timeS_text {old n : Int} {w : ByteArray} (h : oftenB n = true) : timeS old [w, tx (numW n)] = (n, 0) := by
  have h1 := rng_of h
  obtain ⟨g1, g2⟩ := num_ok (n := n) (by omega) (by omega)
  unfold timeS
  rw [if_neg (by simp)]
  show (if atoiB (tx (numW n)).data.toList = false then _ else _) = _
  rw [if_neg (by rw [g1]; decide)]
  show (if oftenB (atoiV (tx (numW n)).data.toList) = true then _ else _) = _
  rw [g2, if_pos h]
  show (atoiV (tx (numW n)).data.toList, (0 : Int)) = _
  rw [g2]
theorem rcvsB_get : ∀ {l seen : List Rcv}, rcvsB seen l = true → ∀ k (h : k < l.length), rcvB l[k] = true ∧ placeL (seen ++ l.take k) l[k].name < 0 := by
  intro l
  induction l with
  | nil => intro seen _ k h; simp at h
  | cons x l ih =>
    intro seen h k hk
    unfold rcvsB at h
    simp only [Bool.and_eq_true, decide_eq_true_eq] at h
    cases k with
    | zero => exact ⟨h.1.1, by simpa using h.1.2⟩
    | succ k =>
      have := ih h.2 k (by simpa using hk)
      simpa using this
theorem lines_rcvs {rs : List Rcv} (hB : rcvsB [] rs = true) (hl : rs.length ≤ 4) : ∀ (k : Nat) (i : Int) (r : List ByteArray), k ≤ rs.length →
    linesS ⟨rs.take k, [], 0, 0⟩ (if k = 0 then [] else rcvT) i (((rs.drop k).map rcvW).map (fun ws => tx (joinW 32 ws)) ++ r) = linesS ⟨rs, [], 0, 0⟩ (if rs.length = 0 then [] else rcvT) (i + (rs.length - k : Nat)) r := by
  intro k
  induction hn : rs.length - k generalizing k with
  | zero =>
    intro i r hk
    have : k = rs.length := by omega
    subst this
    rw [List.take_length, List.drop_length]
    show linesS _ _ i r = linesS _ _ (i + ((0 : Nat) : Int)) r
    congr 1
    omega
  | succ n ih =>
    intro i r hk
    have hk' : k < rs.length := by omega
    obtain ⟨hx, hp⟩ := rcvsB_get hB k hk'
    rw [List.nil_append] at hp
    rw [List.drop_eq_getElem_cons hk', List.map_cons, List.map_cons, List.cons_append,
      linesS_step (c' := ⟨rs.take (k + 1), [], 0, 0⟩) (a' := rcvT) _ (by simp [rcvW]) (rcvW_no hx)]
    · have := ih (k + 1) (by omega) (i + 1) r (by omega)
      rw [if_neg (by omega)] at this
      rw [this]
      congr 1
      omega
    · unfold lineS
      have h0 : (((rcvW rs[k]).map tx).getD 0 ⟨#[]⟩).data.toList = rcvT := tx_data rcvT
      rw [h0, if_neg (by unfold mayB; rw [if_pos rfl]; by_cases hk0 : k = 0 <;> simp [hk0]), if_pos rfl]
      have hS := rcvS_text (rs := rs.take k) hx hp (by rw [List.length_take]; omega)
      show ((⟨(rcvS (rs.take k) ((rcvW rs[k]).map tx)).1, [], 0, 0⟩ : Cfg), rcvT, (rcvS (rs.take k) ((rcvW rs[k]).map tx)).2) = _
      rw [hS, ← List.take_succ_eq_append_getElem hk']
end Go.Proofs.YtejdpjmfnpbadaaGreatDoor
namespace Go.Proofs.YtejdpjmfnpbadaaGreatDoor
open Go.RowKit
theorem idxOf_neg {α : Type} {p : α → Bool} {xs : List α} (h : idxOf p xs < 0) : ∀ x ∈ xs, p x = false := by
  have := idxOf_any p xs
  rw [decide_eq_false (by omega)] at this
  have := this.symm
  rw [List.any_eq_false] at this
  intro x hx
  simpa using this x hx
theorem place_at {rs : List Rcv} (hB : rcvsB [] rs = true) {k : Nat} (hk : k < rs.length) : placeL rs rs[k].name = k := by
  refine idxOf_found hk (by unfold namedB; exact beq_self_eq_true _) fun j hj => ?_
  have h2 := (rcvsB_get hB k hk).2
  rw [List.nil_append] at h2
  exact idxOf_neg h2 _ (List.mem_iff_getElem.2 ⟨j, by rw [List.length_take]; omega, by rw [List.getElem_take]⟩)
theorem chain_in {n : Int} : ∀ {l seen : List Int}, chainB n seen l = true → ∀ k ∈ l, 0 ≤ k ∧ k < n := by
  intro l
  induction l with
  | nil => intro seen _ k hk; cases hk
  | cons x l ih =>
    intro seen h k hk
    unfold chainB at h
    simp only [Bool.and_eq_true, decide_eq_true_eq] at h
    rcases List.mem_cons.1 hk with rfl | hk
    · exact ⟨h.1.1.2, h.1.2⟩
    · exact ih h.2 k hk
theorem rteB_parts {t : Rte} {n : Nat} (h : rteB t n = true) : (∀ k ∈ t.chain, 0 ≤ k ∧ k < n) ∧ 1 ≤ t.chain.length ∧ t.chain.length ≤ 4 ∧ t.asked.length ≤ 4 ∧ ∀ m ∈ t.asked, matB m = true := by
  unfold rteB at h
  simp only [Bool.and_eq_true, decide_eq_true_eq, Bool.not_eq_true', List.any_eq_false] at h
  obtain ⟨⟨⟨⟨h1, h2⟩, h3⟩, h4⟩, h5⟩ := h
  exact ⟨chain_in h1, h2, h3, h4, fun m hm => by simpa using h5 m hm⟩
theorem nameW_at {rs : List Rcv} {k : Int} (h0 : 0 ≤ k) (h1 : k < rs.length) : nameW rs k = (rs[k.toNat]'(by omega)).name.data.toList := by
  unfold nameW
  rw [List.getD_eq_getElem?_getD, List.getElem?_map, List.getElem?_eq_getElem (by omega)]
  rfl
theorem places_text {rs : List Rcv} (hB : rcvsB [] rs = true) : ∀ {l : List Int}, (∀ k ∈ l, 0 ≤ k ∧ k < rs.length) → placesP rs (l.map fun k => tx (nameW rs k)) = some l := by
  intro l
  induction l with
  | nil => intro _; rfl
  | cons k l ih =>
    intro h
    obtain ⟨h0, h1⟩ := h k (by simp)
    have hp : placeL rs (tx (nameW rs k)) = k := by
      rw [nameW_at h0 h1, tx_of, place_at hB (by omega)]
      omega
    rw [List.map_cons]
    unfold placesP
    rw [hp, if_pos h0, ih fun j hj => h j (List.mem_cons_of_mem _ hj)]
    rfl
theorem asks_text : ∀ {l : List Mat}, (∀ m ∈ l, matB m = true) → asksP (l.map fun m => tx (askW m)) = some l := by
  intro l
  induction l with
  | nil => intro _; rfl
  | cons m l ih =>
    intro h
    rw [List.map_cons]
    unfold asksP
    rw [tx_data, askP_askW (h m (by simp)), ih fun j hj => h j (List.mem_cons_of_mem _ hj)]
    rfl
theorem rteW_no {rs : List Rcv} {t : Rte} (hB : rcvsB [] rs = true) (h : rteB t rs.length = true) : ∀ w ∈ rteW rs t, NoB w := by
  obtain ⟨h1, h2, h3, h4, h5⟩ := rteB_parts h
  intro w hw
  unfold rteW at hw
  rcases List.mem_cons.1 hw with rfl | hw
  · exact const_no.2.1
  rcases List.mem_append.1 hw with hw | hw
  · obtain ⟨k, hk, rfl⟩ := List.mem_map.1 hw
    rw [nameW_at (h1 k hk).1 (h1 k hk).2]
    exact name_blank (rcvB_parts (rcvsB_get hB _ _).1).1
  rcases List.mem_cons.1 hw with rfl | hw
  · exact const_no.2.2.2.2
  · obtain ⟨m, hm, rfl⟩ := List.mem_map.1 hw
    exact no_blank_ask (h5 m hm)
theorem rteS_text {rs : List Rcv} {ts : List Rte} {t : Rte} (hB : rcvsB [] rs = true) (h : rteB t rs.length = true) (hl : ts.length ≠ 4) : rteS rs ts ((rteW rs t).map tx) = (ts ++ [t], 0) := by
  obtain ⟨h1, h2, h3, h4, h5⟩ := rteB_parts h
  have e1 : ((rteW rs t).map tx).drop 1 = (t.chain.map fun k => tx (nameW rs k)) ++ tx ifT :: t.asked.map fun m => tx (askW m) := by
    simp [rteW, Function.comp_def]
  have hix : idxOf isIf (((rteW rs t).map tx).drop 1) = (t.chain.length : Int) := by
    rw [e1]
    refine (idxOf_found (i := t.chain.length) (by simp) ?_ fun j hj => ?_).trans rfl
    · rw [List.getElem_append_right (by simp)]
      simp only [List.length_map, Nat.sub_self, List.getElem_cons_zero]
      unfold isIf
      rw [tx_data]
      exact beq_self_eq_true _
    · rw [List.getElem_append_left (by simpa using hj), List.getElem_map]
      unfold isIf
      have hk := h1 t.chain[j] (List.getElem_mem _)
      rw [tx_data, nameW_at hk.1 hk.2]
      exact beq_eq_false_iff_ne.2 (rcvB_parts (rcvsB_get hB _ _).1).2.1
  have e2 : ((rteW rs t).map tx).drop (2 + t.chain.length) = t.asked.map fun m => tx (askW m) := by
    have : 2 + t.chain.length = 1 + (t.chain.length + 1) := by omega
    rw [this, ← List.drop_drop, e1, List.drop_append, List.drop_of_length_le (by simp)]
    simp
  unfold rteS
  rw [if_neg hl, hix, if_neg (by omega), Int.toNat_natCast, e2, e1, List.take_left' (by simp), places_text hB h1, asks_text h5]
  unfold rteC rteA
  exact if_pos h
theorem lines_rtes {rs : List Rcv} {ts : List Rte} (hB : rcvsB [] rs = true) (ht : ∀ t ∈ ts, rteB t rs.length = true) (hl : ts.length ≤ 4) : ∀ (k : Nat) (i : Int) (r : List ByteArray), k ≤ ts.length →
    linesS ⟨rs, ts.take k, 0, 0⟩ (if k = 0 then rcvT else rteT) i (((ts.drop k).map (rteW rs)).map (fun ws => tx (joinW 32 ws)) ++ r) = linesS ⟨rs, ts, 0, 0⟩ (if ts.length = 0 then rcvT else rteT) (i + (ts.length - k : Nat)) r := by
  intro k
  induction hn : ts.length - k generalizing k with
  | zero =>
    intro i r hk
    have : k = ts.length := by omega
    subst this
    rw [List.take_length, List.drop_length]
    show linesS _ _ i r = linesS _ _ (i + ((0 : Nat) : Int)) r
    congr 1
    omega
  | succ n ih =>
    intro i r hk
    have hk' : k < ts.length := by omega
    have hx := ht ts[k] (List.getElem_mem hk')
    rw [List.drop_eq_getElem_cons hk', List.map_cons, List.map_cons, List.cons_append,
      linesS_step (c' := ⟨rs, ts.take (k + 1), 0, 0⟩) (a' := rteT) _ (by simp [rteW]) (rteW_no hB hx)]
    · have := ih (k + 1) (by omega) (i + 1) r (by omega)
      rw [if_neg (by omega)] at this
      rw [this]
      congr 1
      omega
    · unfold lineS
      have h0 : (((rteW rs ts[k]).map tx).getD 0 ⟨#[]⟩).data.toList = rteT := tx_data rteT
      rw [h0, if_neg (by unfold mayB; rw [if_neg (by decide), if_pos rfl]; by_cases hk0 : k = 0 <;> simp [hk0]), if_neg (by decide), if_pos rfl]
      have hS := rteS_text (ts := ts.take k) hB hx (by rw [List.length_take]; omega)
      show ((⟨rs, (rteS rs (ts.take k) ((rteW rs ts[k]).map tx)).1, 0, 0⟩ : Cfg), rteT, (rteS rs (ts.take k) ((rteW rs ts[k]).map tx)).2) = _
      rw [hS, ← List.take_succ_eq_append_getElem hk']
theorem okB_parts {c : Cfg} (h : c.okB = true) : rcvsB [] c.rs = true ∧ (∀ t ∈ c.ts, rteB t c.rs.length = true) ∧ 1 ≤ c.rs.length ∧ c.rs.length ≤ 4 ∧ 1 ≤ c.ts.length ∧ c.ts.length ≤ 4 ∧ oftenB c.rep = true ∧ oftenB c.beat = true := by
  unfold Cfg.okB at h
  simp only [Bool.and_eq_true, decide_eq_true_eq, Bool.not_eq_true', List.any_eq_false] at h
  obtain ⟨⟨⟨⟨h1, h2⟩, ⟨⟨⟨h3, h4⟩, h5⟩, h6⟩⟩, h7⟩, h8⟩ := h
  exact ⟨h1, fun t ht => by simpa using h2 t ht, h3, h4, h5, h6, h7, h8⟩
theorem time_no {n : Int} {w : List UInt8} (h : oftenB n = true) (hw : NoB w) : ∀ x ∈ [w, numW n], NoB x := by
  have := rng_of h
  intro x hx
  simp only [List.mem_cons, List.not_mem_nil, or_false] at hx
  rcases hx with rfl | rfl
  · exact hw
  · exact num_no (by omega)
theorem cfg_text {c : Cfg} (h : c.okB = true) : cfgP c.text = (c, 0, 0) := by
  obtain ⟨h1, h2, h3, h4, h5, h6, h7, h8⟩ := okB_parts h
  unfold cfgP Cfg.text
  rw [linesT_text (by unfold Cfg.lines; simp) ?no]
  case no =>
    intro ws hw w hww
    unfold Cfg.lines at hw
    rcases List.mem_append.1 hw with hw | hw
    · obtain ⟨x, hx, rfl⟩ := List.mem_map.1 hw
      obtain ⟨k, hk, rfl⟩ := List.mem_iff_getElem.1 hx
      exact rcvW_no (rcvsB_get h1 k hk).1 w hww
    rcases List.mem_append.1 hw with hw | hw
    · obtain ⟨x, hx, rfl⟩ := List.mem_map.1 hw
      exact rteW_no h1 (h2 x hx) w hww
    · simp only [List.mem_cons, List.not_mem_nil, or_false] at hw
      rcases hw with rfl | rfl
      · exact time_no h7 const_no.2.2.1 w hww
      · exact time_no h8 const_no.2.2.2.1 w hww
  unfold Cfg.lines
  rw [List.map_append, List.map_append]
  have g1 := lines_rcvs h1 h4 0 0 (List.map (fun ws => tx (joinW 32 ws)) (List.map (rteW c.rs) c.ts) ++ List.map (fun ws => tx (joinW 32 ws)) [[repT, numW c.rep], [beatT, numW c.beat]]) (Nat.zero_le _)
  rw [if_neg (show ¬ c.rs.length = 0 by omega), if_pos rfl, List.drop_zero, List.take_zero] at g1
  refine Eq.trans g1 ?_
  have g2 := lines_rtes h1 h2 h6 0 (0 + (c.rs.length - 0 : Nat)) (List.map (fun ws => tx (joinW 32 ws)) [[repT, numW c.rep], [beatT, numW c.beat]]) (Nat.zero_le _)
  rw [if_neg (show ¬ c.ts.length = 0 by omega), if_pos rfl, List.drop_zero, List.take_zero] at g2
  refine Eq.trans g2 ?_
  rw [List.map_cons, List.map_cons, List.map_nil, linesS_step (c' := ⟨c.rs, c.ts, c.rep, 0⟩) (a' := repT) _ (by simp) (time_no h7 const_no.2.2.1), linesS_step (c' := c) (a' := beatT) _ (by simp) (time_no h8 const_no.2.2.2.1)]
  · rfl
  · unfold lineS
    have h0 : (([beatT, numW c.beat].map tx).getD 0 ⟨#[]⟩).data.toList = beatT := tx_data beatT
    rw [h0, if_neg (by decide), if_neg (by decide), if_neg (by decide), if_neg (by decide)]
    have := timeS_text (old := 0) (w := tx beatT) h8
    show ((⟨c.rs, c.ts, c.rep, (timeS 0 [tx beatT, tx (numW c.beat)]).1⟩ : Cfg), beatT, (timeS 0 [tx beatT, tx (numW c.beat)]).2) = _
    rw [this]
  · unfold lineS
    have h0 : (([repT, numW c.rep].map tx).getD 0 ⟨#[]⟩).data.toList = repT := tx_data repT
    rw [h0, if_neg (by decide), if_neg (by decide), if_neg (by decide), if_pos rfl]
    have := timeS_text (old := 0) (w := tx repT) h7
    show ((⟨c.rs, c.ts, (timeS 0 [tx repT, tx (numW c.rep)]).1, 0⟩ : Cfg), repT, (timeS 0 [tx repT, tx (numW c.rep)]).2) = _
    rw [this]
end Go.Proofs.YtejdpjmfnpbadaaGreatDoor
namespace Go.Proofs.YtejdpjmfnpbadaaGreatDoorQ.P
open Go.RowKit Go.Proofs.YtejdpjmfnpbadaaGreatDoorW.PrintWords Go.Proofs.YtejdpjmfnpbadaaGreatDoorW.PrintLast Go.Proofs.YtejdpjmfnpbadaaGreatDoorW.PrintMore Go.Proofs.YtejdpjmfnpbadaaGreatDoor
theorem timeB_of {t : Int} (h0 : 0 ≤ t) (h1 : t ≤ 1099511627776) : timeB t = true := by unfold timeB; simp [h0, h1]
theorem all2_f {a b : Int} (ha : 0 ≤ a) (ha' : a ≤ 1099511627776) (hb : 0 ≤ b) (hb' : b ≤ 1099511627776) : tick_all.f [a, b] = some true := by
  unfold tick_all.f
  rw [List.all_cons, List.all_cons, timeB_of ha ha', timeB_of hb hb']
  rfl
theorem add_f {a b : Int} (ha : 0 ≤ a) (ha' : a ≤ 1099511627776) (hb : 0 ≤ b) (hb' : b ≤ 1099511627776) : tick_Add.f a b = some (min (a + b) 1099511627776, 0) := by
  unfold tick_Add.f
  rw [all2_f ha ha' hb hb', Option.bind_some, if_pos rfl, w64 (by omega) (by omega), mn_eq]
theorem times_f {a b : Int} (ha : 0 ≤ a) (ha' : a ≤ 1099511627776) (hb : 0 ≤ b) (hb' : b ≤ 1099511627776) (h : a * b ≤ 1099511627776) : tick_Times.f a b = some (a * b, 0) := by
  have h0 : 0 ≤ a * b := Int.mul_nonneg ha hb
  unfold tick_Times.f
  rw [all2_f ha ha' hb hb', Option.bind_some, if_pos rfl]
  by_cases hp : a > 0
  · have d0 : 0 ≤ (1099511627776 : Int) / a := Int.ediv_nonneg (by omega) ha
    have d1 : (1099511627776 : Int) / a ≤ 1099511627776 := Int.ediv_le_self _ (by omega)
    have d2 : b ≤ (1099511627776 : Int) / a := Int.le_ediv_of_mul_le hp (by rw [Int.mul_comm]; exact h)
    rw [if_pos hp, if_neg (by omega), w64 (by omega) (by omega), if_neg (by omega), w64 (by omega) (by omega)]
  · rw [if_neg hp, w64 (by omega) (by omega)]
theorem after_f {n s : Int} (h0 : 0 ≤ n) (h1 : n ≤ 100) (s0 : 0 ≤ s) (s1 : s ≤ 2000000000) : bound_after.f n s = some (1 + n * s, 0) := by
  have q0 : 0 ≤ n * s := Int.mul_nonneg h0 s0
  have q1 : n * s ≤ 100 * 2000000000 := Int.mul_le_mul h1 s1 s0 (by omega)
  unfold bound_after.f
  rw [mn_eq, show min n 1099511627776 = n by omega, times_f h0 (by omega) s0 (by omega) (by omega), Option.bind_some]
  dsimp only
  rw [add_f (by omega) (by omega) q0 (by omega), Option.bind_some]
  dsimp only
  rw [show min (1 + n * s) 1099511627776 = 1 + n * s by omega]
theorem fold_most : ∀ (l : List Rcv) (acc : Int), acc ≤ l.foldl (fun o x => mx o (allR x)) acc ∧ (∀ x ∈ l, allR x ≤ l.foldl (fun o x => mx o (allR x)) acc) ∧ ∀ B, acc ≤ B → (∀ x ∈ l, allR x ≤ B) → l.foldl (fun o x => mx o (allR x)) acc ≤ B := by
  intro l
  induction l with
  | nil => intro acc; exact ⟨Int.le_refl _, by simp, fun B h _ => h⟩
  | cons x l ih =>
    intro acc
    have e := mx_eq acc (allR x)
    obtain ⟨h1, h2, h3⟩ := ih (mx acc (allR x))
    rw [List.foldl_cons]
    refine ⟨by omega, fun y hy => ?_, fun B hB hl => h3 B ?_ fun y hy => hl y (List.mem_cons_of_mem _ hy)⟩
    · rcases List.mem_cons.1 hy with rfl | hy
      · omega
      · exact h2 y hy
    · have := hl x (by simp)
      omega
theorem rcv_bounds {x : Rcv} (h : rcvB x = true) : waitV x = x.top + x.jit ∧ x.top + x.jit ≤ allR x ∧ x.every ≤ allR x ∧ x.opn ≤ allR x ∧ allR x ≤ 2000000000 ∧ 0 ≤ x.every ∧ x.every ≤ 1048576 := by
  obtain ⟨_, _, h3, h4, h5, _, _, h8, _, h10⟩ := rcvB_parts h
  have e1 : waitV x = x.top + x.jit := by unfold waitV; rw [w64 (by omega) (by omega)]
  have e2 := mx_eq (waitV x) x.every
  have e3 := mx_eq (mx (waitV x) x.every) x.opn
  have e4 : allR x = mx (mx (waitV x) x.every) x.opn := rfl
  refine ⟨e1, ?_, ?_, ?_, ?_, ?_, ?_⟩ <;> omega
theorem most_bounds {l : List Rcv} (h : ∀ x ∈ l, rcvB x = true) : 0 ≤ mostL l ∧ mostL l ≤ 2000000000 ∧ ∀ x ∈ l, allR x ≤ mostL l := by
  obtain ⟨h1, h2, h3⟩ := fold_most l 0
  exact ⟨h1, h3 _ (by omega) fun x hx => (rcv_bounds (h x hx)).2.2.2.2.1, h2⟩
section
variable {l0 : List S41} {l1 : List S46} {a2 a3 : Int}
theorem right_f (hz : cfgSzB l0 l1 = true) : config_Right.f l0 l1 a2 a3 = some (Cfg.okB ⟨l0.map toRcv, l1.map toRte, a2, a3⟩) := if_pos hz
theorem ok_rcvs (hok : Cfg.okB ⟨l0.map toRcv, l1.map toRte, a2, a3⟩ = true) : ∀ x ∈ l0.map toRcv, rcvB x = true := by
  intro x hx
  obtain ⟨k, hk, rfl⟩ := List.mem_iff_getElem.1 hx
  exact (rcvsB_get (okB_parts hok).1 k hk).1
theorem step_f (hz : cfgSzB l0 l1 = true) : bound_Step.f l0 l1 a2 a3 = some (stepF (Cfg.okB ⟨l0.map toRcv, l1.map toRte, a2, a3⟩) (l0.map toRcv)) := by
  unfold bound_Step.f
  rw [right_f hz]
  rfl
theorem alone_f (hz : cfgSzB l0 l1 = true) (hok : Cfg.okB ⟨l0.map toRcv, l1.map toRte, a2, a3⟩ = true) {K : Int} (h1 : 1 ≤ K) (h2 : K ≤ 101) : bound_Alone.f l0 l1 a2 a3 K = some (1 + (K - 1) * mostL (l0.map toRcv), 0) := by
  obtain ⟨m0, m1, _⟩ := most_bounds (ok_rcvs hok)
  unfold bound_Alone.f
  rw [step_f hz, Option.bind_some, hok]
  show (if (0 : Int) = 0 then (if K < 1 then some ((0 : Int), (3 : Int)) else (bound_after.f (wrap64 (K - 1)) (mostL (l0.map toRcv))).bind fun bt => some (bt.1, bt.2)) else _) = _
  rw [if_pos rfl, if_neg (by omega), w64 (by omega) (by omega), after_f (by omega) (by omega) m0 m1]
  rfl
theorem life_f (hz : cfgSzB l0 l1 = true) (hok : Cfg.okB ⟨l0.map toRcv, l1.map toRte, a2, a3⟩ = true) {off : Int} (h1 : 0 ≤ off) (h2 : off ≤ 1000) : bound_Life.f l0 l1 a2 a3 off = some (a3 + off, 0) := by
  have hb := rng_of (okB_parts hok).2.2.2.2.2.2.2
  dsimp only at hb
  unfold bound_Life.f
  rw [right_f hz, Option.bind_some, hok, if_pos rfl, if_neg (by omega), mn_eq, show min off 1099511627776 = off by omega, add_f (by omega) (by omega) h1 (by omega), Option.bind_some]
  dsimp only
  rw [show min (a3 + off) 1099511627776 = a3 + off by omega]
theorem rd_rcv {i : Nat} (h : i < l0.length) : rd_T41 l0 (i : Int) = l0[i] := getD_cast h
theorem many_f (hz : cfgSzB l0 l1 = true) (hok : Cfg.okB ⟨l0.map toRcv, l1.map toRte, a2, a3⟩ = true) {who : Nat} (hw : who < l0.length) {n : Int} (h1 : 1 ≤ n) (h2 : n ≤ 101) : bound_Many.f l0 l1 a2 a3 who n = some (1 + (n - 1) * l0[who].f6, 0) := by
  have hb := rcv_bounds (ok_rcvs hok (toRcv l0[who]) (List.mem_map_of_mem (List.getElem_mem hw)))
  have e : (toRcv l0[who]).every = l0[who].f6 := rfl
  unfold bound_Many.f
  rw [right_f hz, Option.bind_some, hok, if_pos rfl, if_neg (by omega), if_neg (by omega), if_neg (by omega), if_pos (by omega), if_pos (by omega), rd_rcv hw, w64 (by omega) (by omega), after_f (by omega) (by omega) (by omega) (by omega)]
  rfl
theorem many_no (hz : cfgSzB l0 l1 = true) (hok : Cfg.okB ⟨l0.map toRcv, l1.map toRte, a2, a3⟩ = true) {who n : Int} (hw : who < 0 ∨ (l0.length : Int) ≤ who) : bound_Many.f l0 l1 a2 a3 who n = some (0, 3) := by
  unfold bound_Many.f
  rw [right_f hz, Option.bind_some, hok, if_pos rfl]
  rcases hw with hw | hw
  · rw [if_pos hw]
  · by_cases h0 : who < 0
    · rw [if_pos h0]
    · rw [if_neg h0, if_pos hw]
end
end Go.Proofs.YtejdpjmfnpbadaaGreatDoorQ.P
namespace Go.Proofs.YtejdpjmfnpbadaaGreatDoorQ.P
open Go.RowKit Go.Proofs.YtejdpjmfnpbadaaGreatDoorW.PrintWords Go.Proofs.YtejdpjmfnpbadaaGreatDoor
def cfg0 : Cfg := ⟨[⟨⟨#[97]⟩, 1, 8, 0, 3, 5, 10, 2, 4⟩], [⟨[0], []⟩], 60, 30⟩
theorem cfg0_ok : cfg0.okB = true := by decide
theorem dig1 {n : Nat} (h : n < 10) : Lib.decDigits n = [UInt8.ofNat (48 + n)] := by rw [Lib.decDigits, dif_pos h]
theorem dig2 {n : Nat} (h : 10 ≤ n) (h2 : n < 100) : Lib.decDigits n = [UInt8.ofNat (48 + n / 10), UInt8.ofNat (48 + n % 10)] := by
  rw [Lib.decDigits, dif_neg (by omega), dig1 (by omega)]
  rfl
theorem cfg0_text : cfg0.text = [114, 101, 99, 101, 105, 118, 101, 114, 32, 97, 32, 49, 32, 56, 32, 48, 32, 51, 32, 53, 32, 49, 48, 32, 50, 32, 52, 10, 114, 111, 117, 116, 101, 32, 97, 32, 105, 102, 10, 114, 101, 112, 101, 97, 116, 32, 54, 48, 10, 98, 101, 97, 116, 32, 51, 48, 10] := by
  have a1 : numW 1 = [49] := dig1 (n := 1) (by omega)
  have a8 : numW 8 = [56] := dig1 (n := 8) (by omega)
  have a0 : numW 0 = [48] := dig1 (n := 0) (by omega)
  have a3 : numW 3 = [51] := dig1 (n := 3) (by omega)
  have a5 : numW 5 = [53] := dig1 (n := 5) (by omega)
  have a10 : numW 10 = [49, 48] := dig2 (n := 10) (by omega) (by omega)
  have a2 : numW 2 = [50] := dig1 (n := 2) (by omega)
  have a4 : numW 4 = [52] := dig1 (n := 4) (by omega)
  have a60 : numW 60 = [54, 48] := dig2 (n := 60) (by omega) (by omega)
  have a30 : numW 30 = [51, 48] := dig2 (n := 30) (by omega) (by omega)
  unfold Cfg.text Cfg.lines cfg0 rcvW
  simp only [List.map_cons, List.map_nil, a1, a8, a0, a3, a5, a10, a2, a4, a60, a30]
  rfl
theorem parse0 {b : ByteArray} {c : Cfg} (hs : b.size ≤ 100000) (hok : c.okB = true) (h : c.text = b.data.toList) : config_Parse.f b = some (c.rs.map ofRcv, c.ts.map ofRte, c.rep, c.beat, 0, 0) := by
  unfold config_Parse.f
  rw [if_pos hs, ← h, cfg_text hok]
theorem cfg0_sz : cfgSzB (cfg0.rs.map ofRcv) (cfg0.ts.map ofRte) = true := by decide
theorem alive24_f : foghornlaw24_alive.f = some true := by
  unfold foghornlaw24_alive.f
  refine (congrArg (fun o => Option.bind o _) (parse0 (c := cfg0) ?_ cfg0_ok ?_)).trans ?_
  · show 57 ≤ 100000
    omega
  · exact cfg0_text
  rw [Option.bind_some]
  dsimp only
  have g1 := alone_f (a2 := cfg0.rep) (a3 := cfg0.beat) (K := 3) cfg0_sz cfg0_ok (by omega) (by omega)
  have g2 := many_f (a2 := cfg0.rep) (a3 := cfg0.beat) (who := 0) (n := 4) cfg0_sz cfg0_ok (by decide) (by omega) (by omega)
  have g3 := life_f (a2 := cfg0.rep) (a3 := cfg0.beat) (off := 7) cfg0_sz cfg0_ok (by omega) (by omega)
  rw [g1, Option.bind_some, show (0 : Int) = ((0 : Nat) : Int) from rfl, g2, Option.bind_some, g3, Option.bind_some]
  have hm : mostL ((cfg0.rs.map ofRcv).map toRcv) = 10 := by
    show mx 0 (mx (mx (wrap64 (8 + 0)) 4) 10) = 10
    rw [w64 (by omega) (by omega)]
    have e1 := mx_eq (8 + 0) 4
    have e2 := mx_eq (mx (8 + 0) 4) 10
    have e3 := mx_eq 0 (mx (mx (8 + 0) 4) 10)
    omega
  rw [hm]
  show (if (0 : Int) = 0 then (if (0 : Int) = 0 then (if (0 : Int) = 0 then (if (1 + (3 - 1) * 10 : Int) = 21 then (if (1 + (4 - 1) * 4 : Int) = 13 then some ((30 + 7 : Int) == 37) else some false) else some false) else some false) else some false) else some false) = some true
  rw [if_pos rfl, if_pos rfl, if_pos rfl, if_pos (by omega), if_pos (by omega)]
  rfl
theorem alive24_only {r : Bool} (h : foghornlaw24_alive.f = some r) : r = true := by
  rw [alive24_f] at h
  exact (Option.some.inj h).symm
theorem foghornlaw24_alive.calls (r : Bool) (w : World) (hG : GOK w) (h : foghornlaw24_alive.f = some r) :
    Calls Tryz.prog 12 #[] w fun e w' => e = .returned (.bool r) ∧ Below w.heap.size w w' := foghornlaw24_alive.callsT r w hG h (alive24_only h)
end Go.Proofs.YtejdpjmfnpbadaaGreatDoorQ.P
namespace Go.Proofs.YtejdpjmfnpbadaaGreatDoorQ.P
open Go.RowKit Go.Proofs.YtejdpjmfnpbadaaGreatDoorW.PrintWords Go.Proofs.YtejdpjmfnpbadaaGreatDoorW.PrintLast Go.Proofs.YtejdpjmfnpbadaaGreatDoorW.PrintMore
attribute [local go_sem] max2_int min2_int max_two min_two max_three min_three max_four min_four
def foghornlaw24_few.f (l0_0 : List (S41)) (l0_1 : List (S46)) (a0_2 : Int) (a0_3 : Int) : Option ((List (S41)) × (List (S46)) × Int × Int) := if 0 ≤ (mn (l0_0.length : Int) 6) then (if (mn (l0_0.length : Int) 6) ≤ (l0_0.length : Int) then (if 0 ≤ (mn (l0_1.length : Int) 6) then (if (mn (l0_1.length : Int) 6) ≤ (l0_1.length : Int) then (some ((l0_0.take ((mn (l0_0.length : Int) 6) : Int).toNat), (l0_1.take ((mn (l0_1.length : Int) 6) : Int).toNat), a0_2, a0_3)) else (none)) else (none)) else (none)) else (none)
set_option maxHeartbeats 8000000 in
set_option maxRecDepth 100000 in
theorem foghornlaw24_few.calls (P0_0_ : Nat → Prop) (A0_0 : Option Addr) (c0_0 : Nat) (l0_0 : List (S41)) (P0_1_ : Nat → Prop) (A0_1 : Option Addr) (c0_1 : Nat) (l0_1 : List (S46)) (a0_2 : Int) (a0_3 : Int) (r1 : List (S41)) (r2 : List (S46)) (r3 : Int) (r4 : Int) (w : World) (hs0_0 : Kd.V k41 41 w w.heap.size (fun k_ => P0_0_ k_) (.slice A0_0 l0_0.length c0_0) l0_0) (hs0_1 : Kd.V k46 46 w w.heap.size (fun k_ => P0_1_ k_) (.slice A0_1 l0_1.length c0_1) l0_1) (h : foghornlaw24_few.f l0_0 l0_1 a0_2 a0_3 = some (r1, r2, r3, r4)) :
  Calls Tryz.prog 6 #[.agg #[.slice A0_0 l0_0.length c0_0, .slice A0_1 l0_1.length c0_1, .int .i64 a0_2, .int .i64 a0_3]] w fun e w' => ∃ v0_ v1_ : Value, e = .returned (.agg #[v0_, v1_, .int .i64 r3, .int .i64 r4]) ∧ Kd.V k41 41 w' w.heap.size (fun k_ => ((P0_0_ k_ ∨ P0_1_ k_) ∨ w.heap.size ≤ k_)) v0_ r1 ∧ Kd.V k46 46 w' w.heap.size (fun k_ => ((P0_0_ k_ ∨ P0_1_ k_) ∨ w.heap.size ≤ k_)) v1_ r2 ∧ Below w.heap.size w w' := by
 have hu25 := Tryz.underlying25
 have HO0_0 := aA (show Kd.V k41 41 w w.heap.size (fun k_ => ((P0_0_ k_ ∨ P0_1_ k_) ∨ w.heap.size ≤ k_)) (.slice A0_0 l0_0.length c0_0) l0_0 from Kd.V_mono hs0_0 (fun k_ hk => .inl (.inl hk)))
 have HO0_1 := aA (show Kd.V k46 46 w w.heap.size (fun k_ => ((P0_0_ k_ ∨ P0_1_ k_) ∨ w.heap.size ≤ k_)) (.slice A0_1 l0_1.length c0_1) l0_1 from Kd.V_mono hs0_1 (fun k_ hk => .inl (.inr hk)))
 have HB := aA (Below.refl w.heap.size w)
 have H : (if 0 ≤ (mn (l0_0.length : Int) 6) then (if (mn (l0_0.length : Int) 6) ≤ (l0_0.length : Int) then (if 0 ≤ (mn (l0_1.length : Int) 6) then (if (mn (l0_1.length : Int) 6) ≤ (l0_1.length : Int) then (some ((l0_0.take ((mn (l0_0.length : Int) 6) : Int).toNat), (l0_1.take ((mn (l0_1.length : Int) 6) : Int).toNat), a0_2, a0_3)) else (none)) else (none)) else (none)) else (none)) = some (r1, r2, r3, r4) := h
 clear h
 obtain ⟨ji2, hji2⟩ : ∃ j_ : Int, (mn (l0_0.length : Int) 6) = j_ := ⟨_, rfl⟩
 replace H : (if 0 ≤ (ji2) then (if (ji2) ≤ (l0_0.length : Int) then (if 0 ≤ (mn (l0_1.length : Int) 6) then (if (mn (l0_1.length : Int) 6) ≤ (l0_1.length : Int) then (some ((l0_0.take ((ji2) : Int).toNat), (l0_1.take ((mn (l0_1.length : Int) 6) : Int).toNat), a0_2, a0_3)) else (none)) else (none)) else (none)) else (none)) = some (r1, r2, r3, r4) := by first | (rw [hji2] at H; exact H) | (simp only [hji2] at H ⊢; exact H)
 (try (have hji2h : ji2 ≤ 6 := by (rw [← hji2]; unfold mn; (repeat' split) <;> omega)))
 (try (have hji2g : ji2 ≤ 64 := by omega))
 (try (have hji2l : 0 ≤ ji2 := by (rw [← hji2]; unfold mn; (repeat' split) <;> omega)))
 (try (have hji2m : 0 ≤ ji2 := by omega))
 have hji2_ : (if 6 < (l0_0.length : Int) then 6 else (l0_0.length : Int)) = ji2 := hji2
 by_cases c3 : 0 ≤ (ji2)
 ·rw [if_pos c3] at H
  have c3b0 := eq_true c3
  have c3b1 := decide_eq_true c3
  clear c3
  by_cases c4 : (ji2) ≤ (l0_0.length : Int)
  ·rw [if_pos c4] at H
   have c4b0 := eq_true c4
   have c4b1 := decide_eq_true c4
   clear c4
   obtain ⟨y103, hy103⟩ : ∃ y_ : List (S41), y_ = (l0_0.take ((ji2) : Int).toNat) := ⟨_, rfl⟩
   replace H : (if 0 ≤ (mn (l0_1.length : Int) 6) then (if (mn (l0_1.length : Int) 6) ≤ (l0_1.length : Int) then (some (y103, (l0_1.take ((mn (l0_1.length : Int) 6) : Int).toNat), a0_2, a0_3)) else (none)) else (none)) = some (r1, r2, r3, r4) := by first | (rw [hy103]; with_reducible exact H) | (have H2_ := (Option.bind_some _ _).symm.trans H; rw [hy103]; with_reducible exact H2_) | (have H2_ := (Option.bind_some _ _).symm.trans H; with_reducible exact H2_) | with_reducible exact H | (rw [hy103]; exact H) | exact H
   have Ny103 := aA hy103
   clear hy103
   obtain ⟨ji5, hji5⟩ : ∃ j_ : Int, (mn (l0_1.length : Int) 6) = j_ := ⟨_, rfl⟩
   replace H : (if 0 ≤ (ji5) then (if (ji5) ≤ (l0_1.length : Int) then (some (y103, (l0_1.take ((ji5) : Int).toNat), a0_2, a0_3)) else (none)) else (none)) = some (r1, r2, r3, r4) := by first | (rw [hji5] at H; exact H) | (simp only [hji5] at H ⊢; exact H)
   (try (have hji5h : ji5 ≤ 6 := by (rw [← hji5]; unfold mn; (repeat' split) <;> omega)))
   (try (have hji5g : ji5 ≤ 64 := by omega))
   (try (have hji5l : 0 ≤ ji5 := by (rw [← hji5]; unfold mn; (repeat' split) <;> omega)))
   (try (have hji5m : 0 ≤ ji5 := by omega))
   have hji5_ : (if 6 < (l0_1.length : Int) then 6 else (l0_1.length : Int)) = ji5 := hji5
   by_cases c6 : 0 ≤ (ji5)
   ·rw [if_pos c6] at H
    have c6b0 := eq_true c6
    have c6b1 := decide_eq_true c6
    clear c6
    by_cases c7 : (ji5) ≤ (l0_1.length : Int)
    ·rw [if_pos c7] at H
     have c7b0 := eq_true c7
     have c7b1 := decide_eq_true c7
     clear c7
     obtain ⟨y108, hy108⟩ : ∃ y_ : List (S46), y_ = (l0_1.take ((ji5) : Int).toNat) := ⟨_, rfl⟩
     replace H : (some (y103, y108, a0_2, a0_3)) = some (r1, r2, r3, r4) := by first | (rw [hy108]; with_reducible exact H) | (have H2_ := (Option.bind_some _ _).symm.trans H; rw [hy108]; with_reducible exact H2_) | (have H2_ := (Option.bind_some _ _).symm.trans H; with_reducible exact H2_) | with_reducible exact H | (rw [hy108]; exact H) | exact H
     have Ny108 := aA hy108
     clear hy108
     simp only [Option.some.injEq, Prod.mk.injEq] at H
     obtain ⟨rfl, rfl, rfl, rfl⟩ := H
     go_enter Tryz.func6, Tryz.ntmps6
     go_wp2_with (first | ((with_reducible refine gate_dst (N := 1) rfl ?_); refine box_event ?hg (N := 1) ?hd (cs := #[.slice A0_0 l0_0.length c0_0, .slice A0_1 l0_1.length c0_1, .int .i64 a0_2, .int .i64 a0_3]) (t := 25) ?hr ?_; (case hd => rfl); (case hg => rfl); (case hr => first | (go_simp; done) | (go_simp; rfl)); intro gb101 hg w8 hbox hb; have n0_ := aA (Kd.V_below (Kd.V_elderB (by (with_reducible repeat (first | apply Kd.V_alloc | apply Kd.V_drewN | apply Kd.V_drew)); exact HO0_0.out) gb101 (Nat.le_of_eq hg.symm)) hb); have n1_ := aA (Kd.V_below (Kd.V_elderB (by (with_reducible repeat (first | apply Kd.V_alloc | apply Kd.V_drewN | apply Kd.V_drew)); exact HO0_1.out) gb101 (Nat.le_of_eq hg.symm)) hb); have n2_ := aA (below_step mB hb); have n3_ := aA (hbox); have n4_ := aA ((bZ hg mB)); have n5_ := aA ((bZ hg mB)); clear HO0_0 HO0_1 HB; have HO0_0 := n0_; have HO0_1 := n1_; have HB := n2_; have BK101 := n3_; have GW101 := n4_; have GE101 := n5_; clear n0_ n1_ n2_ n3_ n4_ n5_ hb hbox hg) | ((with_reducible refine gate_dst (N := 2) rfl ?_); refine box_event ?hg (N := 2) ?hd (cs := #[.slice none 0 0, .slice none 0 0, .int .i64 0, .int .i64 0]) (t := 25) ?hr ?_; (case hd => rfl); (case hg => rfl); (case hr => first | (go_simp; done) | (go_simp; rfl)); intro gb102 hg w9 hbox hb; have n0_ := aA (Kd.V_below (Kd.V_elderB (by (with_reducible repeat (first | apply Kd.V_alloc | apply Kd.V_drewN | apply Kd.V_drew)); exact HO0_0.out) gb102 (Nat.le_of_eq hg.symm)) hb); have n1_ := aA (Kd.V_below (Kd.V_elderB (by (with_reducible repeat (first | apply Kd.V_alloc | apply Kd.V_drewN | apply Kd.V_drew)); exact HO0_1.out) gb102 (Nat.le_of_eq hg.symm)) hb); have n2_ := aA (bB BK101.out hb); have n3_ := aA (below_step (mD1 GE101.out) hb); have n4_ := aA (hbox); have n5_ := aA ((bZ hg (mD1 GE101.out))); have n6_ := aA ((bZ hg (mD1 GE101.out))); have n7_ := aA ((bL hg BK101.out)); have n8_ := aA ((bG hg BK101.out)); clear HO0_0 HO0_1 BK101 HB; have HO0_0 := n0_; have HO0_1 := n1_; have BK101 := n2_; have HB := n3_; have BK102 := n4_; have GW102 := n5_; have GE102 := n6_; have NB101_102 := n7_; have NB102_101 := n8_; clear n0_ n1_ n2_ n3_ n4_ n5_ n6_ n7_ n8_ hb hbox hg; have hnb10 := NB101_102.out; have hnc10 := NB102_101.out; obtain ⟨hcz11_0, hcz11_1, hcz11_2, hcz11_3⟩ := bC4 BK101.out; obtain ⟨hfz11_0, hfz11_1, hfz11_2, hfz11_3⟩ := bF4 BK101.out; have q12 : ((ji2) : Int) ≤ ((l0_0.length : Int) : Int) := of_decide_eq_true (by first | (with_reducible assumption) | assumption); obtain ⟨i012, hi012, _, hsz12, _⟩ := info_parts info41; have hroom12 : l0_0.length ≤ c0_0 := (Kd.V_reads' HO0_0.out).2.1; have hC12 : Kd.F k41 _ _ A0_0 l0_0.length l0_0 := (Kd.V_at (base := w.heap.size) HO0_0.out).2.2; have hcut12 := cut_to (P := Tryz.prog) 22 41 .i64 Tryz.underlying22 hi012 A0_0 l0_0.length c0_0 (ji2) (of_decide_eq_true (by first | (with_reducible assumption) | assumption)) q12 hroom12; have hr12 := Kd.F_take (m := ((ji2) : Int).toNat) hC12 (by omega); have hy12 : y103.length = ((ji2) : Int).toNat := (by rw [Ny103.out, List.length_take]; omega); rw [← Ny103.out] at hr12; rw [← hy12] at hcut12; have HO107 := aA (show Kd.V k41 41 _ w.heap.size _ (.slice A0_0 y103.length c0_0) y103 from Kd.V_mk (by omega) hr12); have HC107 := aA (show y103.length ≤ c0_0 from by omega); clear hr12 hC12 hroom12 hi012 hsz12; have KY12 := aA hy12; clear hy12; replace q12 := eq_true q12) | ((with_reducible refine gate_store (t := 22) (p := 10) rfl ?_); refine store_event (t := 22) (p := 10) (v := ?vo_w13) (w1 := (w9.setCell ⟨gb101, 0, none⟩ (.slice A0_0 y103.length c0_0))) ?hg ?ho ?hn ?hr ?_; (case ho => rfl); (case hg => rfl); (case hn => rfl); (case hr => first | (go_simp; done) | (go_simp; rfl)); intro w13 hw; have n0_ : Aside0 (Kd.V k41 41 w13 w.heap.size (fun k_ => ((P0_0_ k_ ∨ P0_1_ k_) ∨ w.heap.size ≤ k_) ∧ k_ ≠ gb101 ∧ k_ ≠ gb102) (.slice A0_0 l0_0.length c0_0) l0_0) := ⟨(by rw [hw]; exact (by (with_reducible repeat (first | apply Kd.V_alloc | apply Kd.V_drewN | apply Kd.V_drew)); exact Kd.V_mono (Kd.V_far (p := ⟨gb101, 0, none⟩) (Kd.V_mono HO0_0.out (fun k_ hk => (⟨hk, hk.1.2⟩ : _ ∧ k_ ≠ gb101))) (fun _ hk => hk.2) (.slice A0_0 y103.length c0_0)) (fun _ hk => ⟨hk.1.1.1, ⟨hk.1.1.2, hk.1.2⟩⟩)))⟩; have n1_ : Aside0 (Kd.V k46 46 w13 w.heap.size (fun k_ => ((P0_0_ k_ ∨ P0_1_ k_) ∨ w.heap.size ≤ k_) ∧ k_ ≠ gb101 ∧ k_ ≠ gb102) (.slice A0_1 l0_1.length c0_1) l0_1) := ⟨(by rw [hw]; exact (by (with_reducible repeat (first | apply Kd.V_alloc | apply Kd.V_drewN | apply Kd.V_drew)); exact Kd.V_mono (Kd.V_far (p := ⟨gb101, 0, none⟩) (Kd.V_mono HO0_1.out (fun k_ hk => (⟨hk, hk.1.2⟩ : _ ∧ k_ ≠ gb101))) (fun _ hk => hk.2) (.slice A0_0 y103.length c0_0)) (fun _ hk => ⟨hk.1.1.1, ⟨hk.1.1.2, hk.1.2⟩⟩)))⟩; have n2_ : Aside0 (Kd.V k41 41 w13 w.heap.size (fun k_ => ((P0_0_ k_ ∨ P0_1_ k_) ∨ w.heap.size ≤ k_) ∧ k_ ≠ gb101 ∧ k_ ≠ gb102) (.slice A0_0 y103.length c0_0) y103) := ⟨(by rw [hw]; exact (by (with_reducible repeat (first | apply Kd.V_alloc | apply Kd.V_drewN | apply Kd.V_drew)); exact Kd.V_mono (Kd.V_far (p := ⟨gb101, 0, none⟩) (Kd.V_mono HO107.out (fun k_ hk => (⟨hk, hk.1.2⟩ : _ ∧ k_ ≠ gb101))) (fun _ hk => hk.2) (.slice A0_0 y103.length c0_0)) (fun _ hk => ⟨hk.1.1.1, ⟨hk.1.1.2, hk.1.2⟩⟩)))⟩; have n3_ : Aside0 (w13.heap[gb101]? = some (.cells #[.slice A0_0 y103.length c0_0, .slice A0_1 l0_1.length c0_1, .int .i64 a0_2, .int .i64 a0_3] 25 (0, 0))) := ⟨(by rw [hw]; exact (by (with_reducible repeat (first | refine blk_drewN ?_ _ | refine blk_drew ?_ | refine blk_alloc ?_ _)); have h_ := BK101.out; exact pK 0 (h_)))⟩; have n4_ : Aside0 (w13.heap[gb102]? = some (.cells #[.slice none 0 0, .slice none 0 0, .int .i64 0, .int .i64 0] 25 (0, 0))) := ⟨(by rw [hw]; exact (by (with_reducible repeat (first | refine blk_drewN ?_ _ | refine blk_drew ?_ | refine blk_alloc ?_ _)); refine blk_far ?_ NB102_101.out _; (with_reducible repeat (first | refine blk_drewN ?_ _ | refine blk_drew ?_ | refine blk_alloc ?_ _)); exact BK102.out))⟩; have n5_ : Aside0 (Below w.heap.size w w13) := ⟨(by rw [hw]; exact (mD2 GE101.out GE102.out))⟩; clear hw HO0_0 HO0_1 HO107 BK101 BK102 HB; have HO0_0 := n0_; have HO0_1 := n1_; have HO107 := n2_; have BK101 := n3_; have BK102 := n4_; have HB := n5_; clear n0_ n1_ n2_ n3_ n4_ n5_; obtain ⟨hcz14_0, hcz14_1, hcz14_2, hcz14_3⟩ := bC4 BK101.out; obtain ⟨hfz14_0, hfz14_1, hfz14_2, hfz14_3⟩ := bF4 BK101.out; have q15 : ((ji5) : Int) ≤ ((l0_1.length : Int) : Int) := of_decide_eq_true (by first | (with_reducible assumption) | assumption); obtain ⟨i015, hi015, _, hsz15, _⟩ := info_parts info46; have hroom15 : l0_1.length ≤ c0_1 := (Kd.V_reads' HO0_1.out).2.1; have hC15 : Kd.F k46 _ _ A0_1 l0_1.length l0_1 := (Kd.V_at (base := w.heap.size) HO0_1.out).2.2; have hcut15 := cut_to (P := Tryz.prog) 23 46 .i64 Tryz.underlying23 hi015 A0_1 l0_1.length c0_1 (ji5) (of_decide_eq_true (by first | (with_reducible assumption) | assumption)) q15 hroom15; have hr15 := Kd.F_take (m := ((ji5) : Int).toNat) hC15 (by omega); have hy15 : y108.length = ((ji5) : Int).toNat := (by rw [Ny108.out, List.length_take]; omega); rw [← Ny108.out] at hr15; rw [← hy15] at hcut15; have HO112 := aA (show Kd.V k46 46 _ w.heap.size _ (.slice A0_1 y108.length c0_1) y108 from Kd.V_mk (by omega) hr15); have HC112 := aA (show y108.length ≤ c0_1 from by omega); clear hr15 hC15 hroom15 hi015 hsz15; have KY15 := aA hy15; clear hy15; replace q15 := eq_true q15; obtain ⟨hcz16_0, hcz16_1, hcz16_2, hcz16_3⟩ := bC4 BK102.out; obtain ⟨hfz16_0, hfz16_1, hfz16_2, hfz16_3⟩ := bF4 BK102.out))
     refine bodyPost_ret (results_cell_row rfl _ _ gb102 25 #[.slice A0_0 y103.length c0_0, .slice A0_1 y108.length c0_1, .int .i64 a0_2, .int .i64 a0_3] (0, 0) _ rfl (by (with_reducible repeat (first | refine blk_drewN ?_ _ | refine blk_drew ?_ | refine blk_alloc ?_ _)); refine blk_put (cs := #[.slice A0_0 y103.length c0_0, .slice A0_1 y108.length c0_1, .int .i64 a0_2, .int .i64 0]) ?_ 3 _ rfl; (with_reducible repeat (first | refine blk_drewN ?_ _ | refine blk_drew ?_ | refine blk_alloc ?_ _)); refine blk_put (cs := #[.slice A0_0 y103.length c0_0, .slice A0_1 y108.length c0_1, .int .i64 0, .int .i64 0]) ?_ 2 _ rfl; (with_reducible repeat (first | refine blk_drewN ?_ _ | refine blk_drew ?_ | refine blk_alloc ?_ _)); refine blk_put (cs := #[.slice A0_0 y103.length c0_0, .slice none 0 0, .int .i64 0, .int .i64 0]) ?_ 1 _ rfl; (with_reducible repeat (first | refine blk_drewN ?_ _ | refine blk_drew ?_ | refine blk_alloc ?_ _)); refine blk_put (cs := #[.slice none 0 0, .slice none 0 0, .int .i64 0, .int .i64 0]) ?_ 0 _ rfl; (with_reducible repeat (first | refine blk_drewN ?_ _ | refine blk_drew ?_ | refine blk_alloc ?_ _)); refine blk_far ?_ NB102_101.out _; (with_reducible repeat (first | refine blk_drewN ?_ _ | refine blk_drew ?_ | refine blk_alloc ?_ _)); exact BK102.out) Tryz.underlying25 rfl (by kernel_rfl)) rfl ?_
     exact ⟨_, _, by first | rfl | (simp [errW_none, errW_some] <;> rfl) | (simp only [← hji2, ← hji5]; first | rfl | (simp [errW_none, errW_some] <;> rfl)) | (simp [*, errW_none, errW_some] <;> rfl), by (with_reducible repeat (first | apply Kd.V_alloc | apply Kd.V_drewN | apply Kd.V_drew)); exact Kd.V_mono (Kd.V_far (p := ⟨gb102, 3, none⟩) (Kd.V_far (p := ⟨gb102, 2, none⟩) (Kd.V_far (p := ⟨gb102, 1, none⟩) (Kd.V_far (p := ⟨gb102, 0, none⟩) (Kd.V_far (p := ⟨gb101, 1, none⟩) (Kd.V_mono (Kd.V_mono HO107.out (fun k_ hk => (⟨hk, hk.2.1⟩ : _ ∧ k_ ≠ gb101))) (fun k_ hk => (⟨hk, hk.1.2.2⟩ : _ ∧ k_ ≠ gb102))) (fun _ hk => hk.1.2) (.slice A0_1 y108.length c0_1)) (fun _ hk => hk.2) (.slice A0_0 y103.length c0_0)) (fun _ hk => hk.2) (.slice A0_1 y108.length c0_1)) (fun _ hk => hk.2) (.int .i64 a0_2)) (fun _ hk => hk.2) (.int .i64 a0_3)) (fun _ hk => hk.1.1.1), by (with_reducible repeat (first | apply Kd.V_alloc | apply Kd.V_drewN | apply Kd.V_drew)); exact Kd.V_mono (Kd.V_far (p := ⟨gb102, 3, none⟩) (Kd.V_far (p := ⟨gb102, 2, none⟩) (Kd.V_far (p := ⟨gb102, 1, none⟩) (Kd.V_far (p := ⟨gb102, 0, none⟩) (Kd.V_far (p := ⟨gb101, 1, none⟩) (Kd.V_mono (Kd.V_mono HO112.out (fun k_ hk => (⟨hk, hk.2.1⟩ : _ ∧ k_ ≠ gb101))) (fun k_ hk => (⟨hk, hk.1.2.2⟩ : _ ∧ k_ ≠ gb102))) (fun _ hk => hk.1.2) (.slice A0_1 y108.length c0_1)) (fun _ hk => hk.2) (.slice A0_0 y103.length c0_0)) (fun _ hk => hk.2) (.slice A0_1 y108.length c0_1)) (fun _ hk => hk.2) (.int .i64 a0_2)) (fun _ hk => hk.2) (.int .i64 a0_3)) (fun _ hk => hk.1.1.1), by repeat (first | (with_reducible first | exact HB.out | apply below_alloc | apply pw_below_drewN | apply below_drew1 | refine below_set ?_ GE101.out | refine below_set ?_ GE102.out) | exact HB.out)⟩
    ·rw [if_neg c7] at H
     exact absurd H (by simp)
   ·rw [if_neg c6] at H
    exact absurd H (by simp)
  ·rw [if_neg c4] at H
   exact absurd H (by simp)
 ·rw [if_neg c3] at H
  exact absurd H (by simp)
end Go.Proofs.YtejdpjmfnpbadaaGreatDoorQ.P
namespace Go.Proofs.YtejdpjmfnpbadaaGreatDoorQ.P
open Go.RowKit Go.Proofs.YtejdpjmfnpbadaaGreatDoorW.PrintWords Go.Proofs.YtejdpjmfnpbadaaGreatDoorW.PrintLast Go.Proofs.YtejdpjmfnpbadaaGreatDoorW.PrintMore
attribute [local go_sem] max2_int min2_int max_two min_two max_three min_three max_four min_four
mutual
def foghornlaw24_BoundRises.j0 : Nat → Int → Int → Int → Bool → List (S41) → List (S46) → Int → Int → Option (Bool)
 | 0, _, _, _, _, _, _, _, _ => none
 | k + 1, x2, x3, x11, x111, x226000, x226001, x226002, x226003 => if x111 = true then (some false) else (foghornlaw24_BoundRises.l0 k x2 x3 x11 x226000 (x226000.length : Int) 0 x226000 x226001 x226002 x226003)
def foghornlaw24_BoundRises.l0 : Nat → Int → Int → Int → List (S41) → Int → Int → List (S41) → List (S46) → Int → Int → Option (Bool)
 | 0, _, _, _, _, _, _, _, _, _, _ => none
 | k + 1, x2, x3, x11, x113, x114, x115, x226000, x226001, x226002, x226003 => if x115 < x114 then (if 0 ≤ x115 then (if x115 < (x113.length : Int) then (if (wrap64 (((rd_T41 x113 x115).f1.f1) + ((rd_T41 x113 x115).f1.f2))) > x11 then (some false) else (if ((rd_T41 x113 x115).f4) > x11 then (some false) else (if ((rd_T41 x113 x115).f6) > x11 then (some false) else (foghornlaw24_BoundRises.l0 k x2 x3 x11 x113 x114 (wrap64 (x115 + 1)) x226000 x226001 x226002 x226003)))) else (none)) else (none)) else ((bound_Many.f x226000 x226001 x226002 x226003 x2 x3).bind fun bt248 => ((bound_Many.f x226000 x226001 x226002 x226003 x2 (wrap64 (x3 + 1))).bind fun bt250 => (if x2 < 0 then (if bt248.2 = 3 then (if bt250.2 = 3 then (if bt248.1 = 0 then (some (bt250.1 == 0)) else (some false)) else (some false)) else (some false)) else (if x2 ≥ (x226000.length : Int) then (if bt248.2 = 3 then (if bt250.2 = 3 then (if bt248.1 = 0 then (some (bt250.1 == 0)) else (some false)) else (some false)) else (some false)) else (if bt248.2 = 0 then (if bt250.2 = 0 then (if 0 ≤ x2 then (if x2 < (x226000.length : Int) then (some ((wrap64 (bt250.1 - bt248.1)) == ((rd_T41 x226000 x2).f6))) else (none)) else (none)) else (some false)) else (some false))))))
end
def foghornlaw24_BoundRises.f (k : Nat) (l0_0 : List (S41)) (l0_1 : List (S46)) (a0_2 : Int) (a0_3 : Int) (a1 : Int) (a2 : Int) (a3 : Int) (a4 : Int) : Option (Bool) := (foghornlaw24_few.f l0_0 l0_1 a0_2 a0_3).bind fun bt226 => ((bound_Step.f bt226.1 bt226.2.1 bt226.2.2.1 bt226.2.2.2).bind fun bt234 => (if bt234.2 = 0 then ((bound_Alone.f bt226.1 bt226.2.1 bt226.2.2.1 bt226.2.2.2 (wrap64 (1 + (Int.tmod (wrap64 ((Int.tmod a1 100) + 100)) 100)))).bind fun bt237 => ((bound_Alone.f bt226.1 bt226.2.1 bt226.2.2.1 bt226.2.2.2 (wrap64 ((wrap64 (1 + (Int.tmod (wrap64 ((Int.tmod a1 100) + 100)) 100))) + 1))).bind fun bt239 => ((bound_Life.f bt226.1 bt226.2.1 bt226.2.2.1 bt226.2.2.2 (Int.tmod (wrap64 ((Int.tmod a4 1000) + 1000)) 1000)).bind fun bt241 => ((bound_Life.f bt226.1 bt226.2.1 bt226.2.2.1 bt226.2.2.2 (wrap64 ((Int.tmod (wrap64 ((Int.tmod a4 1000) + 1000)) 1000) + 1))).bind fun bt243 => (if bt237.2 = 0 then (if bt239.2 = 0 then (if bt241.2 = 0 then (if bt243.2 = 0 then (if (wrap64 (bt239.1 - bt237.1)) = bt234.1 then (if (wrap64 (bt243.1 - bt241.1)) = 1 then ((foghornlaw24_alive.f).bind fun t245 => (foghornlaw24_BoundRises.j0 k a2 (wrap64 (1 + (Int.tmod (wrap64 ((Int.tmod a3 100) + 100)) 100))) bt234.1 (!t245) bt226.1 bt226.2.1 bt226.2.2.1 bt226.2.2.2)) else (foghornlaw24_BoundRises.j0 k a2 (wrap64 (1 + (Int.tmod (wrap64 ((Int.tmod a3 100) + 100)) 100))) bt234.1 true bt226.1 bt226.2.1 bt226.2.2.1 bt226.2.2.2)) else (foghornlaw24_BoundRises.j0 k a2 (wrap64 (1 + (Int.tmod (wrap64 ((Int.tmod a3 100) + 100)) 100))) bt234.1 true bt226.1 bt226.2.1 bt226.2.2.1 bt226.2.2.2)) else (foghornlaw24_BoundRises.j0 k a2 (wrap64 (1 + (Int.tmod (wrap64 ((Int.tmod a3 100) + 100)) 100))) bt234.1 true bt226.1 bt226.2.1 bt226.2.2.1 bt226.2.2.2)) else (foghornlaw24_BoundRises.j0 k a2 (wrap64 (1 + (Int.tmod (wrap64 ((Int.tmod a3 100) + 100)) 100))) bt234.1 true bt226.1 bt226.2.1 bt226.2.2.1 bt226.2.2.2)) else (foghornlaw24_BoundRises.j0 k a2 (wrap64 (1 + (Int.tmod (wrap64 ((Int.tmod a3 100) + 100)) 100))) bt234.1 true bt226.1 bt226.2.1 bt226.2.2.1 bt226.2.2.2)) else (foghornlaw24_BoundRises.j0 k a2 (wrap64 (1 + (Int.tmod (wrap64 ((Int.tmod a3 100) + 100)) 100))) bt234.1 true bt226.1 bt226.2.1 bt226.2.2.1 bt226.2.2.2)))))) else ((foghornlaw24_alive.f).bind fun t236 => (if t236 = true then (some (bt234.1 == 0)) else (some false)))))
set_option maxHeartbeats 8000000 in
set_option maxRecDepth 100000 in
theorem foghornlaw24_BoundRises.calls (k : Nat) (A0_0 : Option Addr) (c0_0 : Nat) (l0_0 : List (S41)) (A0_1 : Option Addr) (c0_1 : Nat) (l0_1 : List (S46)) (a0_2 : Int) (a0_3 : Int) (a1 : Int) (a2 : Int) (a3 : Int) (a4 : Int) (r : Bool) (w : World) (hG : GOK w) (hr0_0 : Kd.C k41 w A0_0 l0_0.length l0_0) (hc0_0 : l0_0.length ≤ c0_0) (hr0_1 : Kd.C k46 w A0_1 l0_1.length l0_1) (hc0_1 : l0_1.length ≤ c0_1) (h : foghornlaw24_BoundRises.f k l0_0 l0_1 a0_2 a0_3 a1 a2 a3 a4 = some r) (hrt_ : r = true := by rfl) :
  Calls Tryz.prog 4 #[.agg #[.slice A0_0 l0_0.length c0_0, .slice A0_1 l0_1.length c0_1, .int .i64 a0_2, .int .i64 a0_3], .int .i64 a1, .int .i64 a2, .int .i64 a3, .int .i64 a4] w fun e w' => e = .returned (.bool r) ∧ Below w.heap.size w w' := by
 have hu25 := Tryz.underlying25
 have hu41 := Tryz.underlying41
 have HR0_0 := aA hr0_0
 have HC0_0 := aA hc0_0
 clear hr0_0 hc0_0
 have HR0_1 := aA hr0_1
 have HC0_1 := aA hc0_1
 clear hr0_1 hc0_1
 have HG := aA hG
 clear hG
 have HB := aA (Below.refl w.heap.size w)
 have H : ((foghornlaw24_few.f l0_0 l0_1 a0_2 a0_3).bind fun bt226 => ((bound_Step.f bt226.1 bt226.2.1 bt226.2.2.1 bt226.2.2.2).bind fun bt234 => (if bt234.2 = 0 then ((bound_Alone.f bt226.1 bt226.2.1 bt226.2.2.1 bt226.2.2.2 (wrap64 (1 + (Int.tmod (wrap64 ((Int.tmod a1 100) + 100)) 100)))).bind fun bt237 => ((bound_Alone.f bt226.1 bt226.2.1 bt226.2.2.1 bt226.2.2.2 (wrap64 ((wrap64 (1 + (Int.tmod (wrap64 ((Int.tmod a1 100) + 100)) 100))) + 1))).bind fun bt239 => ((bound_Life.f bt226.1 bt226.2.1 bt226.2.2.1 bt226.2.2.2 (Int.tmod (wrap64 ((Int.tmod a4 1000) + 1000)) 1000)).bind fun bt241 => ((bound_Life.f bt226.1 bt226.2.1 bt226.2.2.1 bt226.2.2.2 (wrap64 ((Int.tmod (wrap64 ((Int.tmod a4 1000) + 1000)) 1000) + 1))).bind fun bt243 => (if bt237.2 = 0 then (if bt239.2 = 0 then (if bt241.2 = 0 then (if bt243.2 = 0 then (if (wrap64 (bt239.1 - bt237.1)) = bt234.1 then (if (wrap64 (bt243.1 - bt241.1)) = 1 then ((foghornlaw24_alive.f).bind fun t245 => (foghornlaw24_BoundRises.j0 k a2 (wrap64 (1 + (Int.tmod (wrap64 ((Int.tmod a3 100) + 100)) 100))) bt234.1 (!t245) bt226.1 bt226.2.1 bt226.2.2.1 bt226.2.2.2)) else (foghornlaw24_BoundRises.j0 k a2 (wrap64 (1 + (Int.tmod (wrap64 ((Int.tmod a3 100) + 100)) 100))) bt234.1 true bt226.1 bt226.2.1 bt226.2.2.1 bt226.2.2.2)) else (foghornlaw24_BoundRises.j0 k a2 (wrap64 (1 + (Int.tmod (wrap64 ((Int.tmod a3 100) + 100)) 100))) bt234.1 true bt226.1 bt226.2.1 bt226.2.2.1 bt226.2.2.2)) else (foghornlaw24_BoundRises.j0 k a2 (wrap64 (1 + (Int.tmod (wrap64 ((Int.tmod a3 100) + 100)) 100))) bt234.1 true bt226.1 bt226.2.1 bt226.2.2.1 bt226.2.2.2)) else (foghornlaw24_BoundRises.j0 k a2 (wrap64 (1 + (Int.tmod (wrap64 ((Int.tmod a3 100) + 100)) 100))) bt234.1 true bt226.1 bt226.2.1 bt226.2.2.1 bt226.2.2.2)) else (foghornlaw24_BoundRises.j0 k a2 (wrap64 (1 + (Int.tmod (wrap64 ((Int.tmod a3 100) + 100)) 100))) bt234.1 true bt226.1 bt226.2.1 bt226.2.2.1 bt226.2.2.2)) else (foghornlaw24_BoundRises.j0 k a2 (wrap64 (1 + (Int.tmod (wrap64 ((Int.tmod a3 100) + 100)) 100))) bt234.1 true bt226.1 bt226.2.1 bt226.2.2.1 bt226.2.2.2)))))) else ((foghornlaw24_alive.f).bind fun t236 => (if t236 = true then (some (bt234.1 == 0)) else (some false)))))) = some r := h
 clear h
 replace H := Option.bind_eq_some_iff.mp H
 obtain ⟨⟨t226, t229, t232, t233⟩, A60, H⟩ := H
 have A6 := aA A60
 clear A60
 replace H := Option.bind_eq_some_iff.mp H
 obtain ⟨⟨t234, t235⟩, A70, H⟩ := H
 have A7 := aA A70
 clear A70
 by_cases c8 : t235 = 0
 ·rw [if_pos c8] at H
  have c8b0 : (t235 == 0) = true := beq_iff_eq.mpr c8
  have c8b1 : (t235 != 0) = false := bne_eq_false_iff_eq.mpr c8
  clear c8
  replace H := Option.bind_eq_some_iff.mp H
  obtain ⟨⟨t237, t238⟩, A90, H⟩ := H
  have A9 := aA A90
  clear A90
  replace H := Option.bind_eq_some_iff.mp H
  obtain ⟨⟨t239, t240⟩, A100, H⟩ := H
  have A10 := aA A100
  clear A100
  replace H := Option.bind_eq_some_iff.mp H
  obtain ⟨⟨t241, t242⟩, A110, H⟩ := H
  have A11 := aA A110
  clear A110
  replace H := Option.bind_eq_some_iff.mp H
  obtain ⟨⟨t243, t244⟩, A120, H⟩ := H
  have A12 := aA A120
  clear A120
  have HC13 := aA H
  clear H
  go_enter Tryz.func4, Tryz.ntmps4
  go_upto_region 10 with (first | ((with_reducible refine gate_dst (N := 5) rfl ?_); (try (refine gate_guard (by rfl) ?_; dsimp only)); refine box_event ?hg (N := 5) ?hd (cs := #[.slice A0_0 l0_0.length c0_0, .slice A0_1 l0_1.length c0_1, .int .i64 a0_2, .int .i64 a0_3]) (t := 25) ?hr ?_; (case hd => rfl); (case hg => rfl); (case hr => first | (go_simp; done) | (go_simp; rfl)); intro gb225 hg w14 hbox hb; have n0_ := aA (below_step mB hb); have n1_ := aA (hbox); have n2_ := aA ((bZ hg mB)); have n3_ := aA ((bZ hg mB)); clear HB; have HB := n0_; have BK225 := n1_; have GW225 := n2_; have GE225 := n3_; clear n0_ n1_ n2_ n3_ hb hbox hg; obtain ⟨hcz15_0, hcz15_1, hcz15_2, hcz15_3⟩ := bC4 BK225.out; obtain ⟨hfz15_0, hfz15_1, hfz15_2, hfz15_3⟩ := bF4 BK225.out) | ((with_reducible refine gate_callee (f := 6) rfl ?_); refine goesL_ (some 28) rfl rfl Tryz.func6 (by kernel_rfl) rfl #[.agg #[.slice A0_0 l0_0.length c0_0, .slice A0_1 l0_1.length c0_1, .int .i64 a0_2, .int .i64 a0_3]] rfl mS ?_; (with_reducible refine (foghornlaw24_few.calls (fun k_ => k_ < w.heap.size) _ _ l0_0 (fun k_ => k_ < w.heap.size) _ _ l0_1 a0_2 a0_3 t226 t229 t232 t233 _ ?side1 ?side2 A6.out).mono ?_); (case side1 => exact Kd.V_mk HC0_0.out (Kd.F_below (Kd.C_F k41_heap HR0_0.out) (mD1 GE225.out))); (case side2 => exact Kd.V_mk HC0_1.out (Kd.F_below (Kd.C_F k46_heap HR0_1.out) (mD1 GE225.out))); rintro e w16 ⟨v227, v230, rfl, ho0, ho1, hb⟩; refine ⟨_, rfl, ?_⟩; have n0_ := aA (Kd.V_lower (Kd.V_mono (ok' := fun k_ => k_ ≠ gb225) ho0 (fun k_ hk_ => Or.elim hk_ (fun hs_ => Or.elim hs_ (fun hs_ => fun e_ => Nat.not_le.2 hs_ (by rw [e_]; exact GW225.out)) (fun hs_ => fun e_ => Nat.not_le.2 hs_ (by rw [e_]; exact GW225.out))) (fun hn_ => (Kd.freshB (g := gb225) (o := .cells #[.slice A0_0 l0_0.length c0_0, .slice A0_1 l0_1.length c0_1, .int .i64 a0_2, .int .i64 a0_3] 25 (0, 0)) (mK BK225.out) k_ hn_)))) (below_size (mD1 GE225.out))); have n1_ := aA (Kd.V_lower (Kd.V_mono (ok' := fun k_ => k_ ≠ gb225) ho1 (fun k_ hk_ => Or.elim hk_ (fun hs_ => Or.elim hs_ (fun hs_ => fun e_ => Nat.not_le.2 hs_ (by rw [e_]; exact GW225.out)) (fun hs_ => fun e_ => Nat.not_le.2 hs_ (by rw [e_]; exact GW225.out))) (fun hn_ => (Kd.freshB (g := gb225) (o := .cells #[.slice A0_0 l0_0.length c0_0, .slice A0_1 l0_1.length c0_1, .int .i64 a0_2, .int .i64 a0_3] 25 (0, 0)) (mK BK225.out) k_ hn_)))) (below_size (mD1 GE225.out))); have n2_ := aA (bB BK225.out hb); have n3_ := aA (below_step (mD1 GE225.out) hb); clear BK225 HB; have HO228 := n0_; have HO231 := n1_; have BK225 := n2_; have HB := n3_; clear n0_ n1_ n2_ n3_; (try clear hb); (try clear hb2); (try clear hk); (try clear hi); (try clear ho0); (try clear ho1); obtain ⟨Ao17, co17, eo17⟩ := Kd.V_slice HO228.out; subst eo17; obtain ⟨hcz18_0, hcz18_1, hcz18_2, hcz18_3⟩ := bC4 BK225.out; obtain ⟨hfz18_0, hfz18_1, hfz18_2, hfz18_3⟩ := bF4 BK225.out; obtain ⟨Ao19, co19, eo19⟩ := Kd.V_slice HO231.out; subst eo19) | ((with_reducible refine gate_callee (f := 7) rfl ?_); refine goesL_ (some 45) rfl rfl Tryz.func7 (by kernel_rfl) rfl #[.agg #[.slice Ao17 t226.length co17, .slice Ao19 t229.length co19, .int .i64 t232, .int .i64 t233]] rfl mS ?_; (with_reducible refine (bound_Step.calls _ _ t226 _ _ t229 t232 t233 t234 t235 _ ?side1 ?side2 ?side3 ?side4 A7.out).mono ?_); (case side1 => refine (Kd.V_reads' (e := 41) (base := w.heap.size) (ok := fun k_ => k_ ≠ gb225) (n := t226.length) (c := co17) ?_).2.2; exact (by (with_reducible repeat (first | apply Kd.V_alloc | apply Kd.V_drewN | apply Kd.V_drew)); exact (Kd.V_mono (Kd.V_far (p := ⟨gb225, 3, none⟩) (Kd.V_far (p := ⟨gb225, 2, none⟩) (Kd.V_far (p := ⟨gb225, 1, none⟩) (Kd.V_far (p := ⟨gb225, 0, none⟩) (Kd.V_mono HO228.out (fun k_ hk => (⟨hk, hk⟩ : _ ∧ k_ ≠ gb225))) (fun _ hk => hk.2) (.slice Ao17 t226.length co17)) (fun _ hk => hk.2) (.slice Ao19 t229.length co19)) (fun _ hk => hk.2) (.int .i64 t232)) (fun _ hk => hk.2) (.int .i64 t233)) (fun _ h_ => h_.1)))); (case side2 => exact (Kd.V_reads' HO228.out).2.1); (case side3 => refine (Kd.V_reads' (e := 46) (base := w.heap.size) (ok := fun k_ => k_ ≠ gb225) (n := t229.length) (c := co19) ?_).2.2; exact (by (with_reducible repeat (first | apply Kd.V_alloc | apply Kd.V_drewN | apply Kd.V_drew)); exact (Kd.V_mono (Kd.V_far (p := ⟨gb225, 3, none⟩) (Kd.V_far (p := ⟨gb225, 2, none⟩) (Kd.V_far (p := ⟨gb225, 1, none⟩) (Kd.V_far (p := ⟨gb225, 0, none⟩) (Kd.V_mono HO231.out (fun k_ hk => (⟨hk, hk⟩ : _ ∧ k_ ≠ gb225))) (fun _ hk => hk.2) (.slice Ao17 t226.length co17)) (fun _ hk => hk.2) (.slice Ao19 t229.length co19)) (fun _ hk => hk.2) (.int .i64 t232)) (fun _ hk => hk.2) (.int .i64 t233)) (fun _ h_ => h_.1)))); (case side4 => exact (Kd.V_reads' HO231.out).2.1); rintro e w20 ⟨rfl, hb⟩; refine ⟨_, rfl, ?_⟩; have n0_ := aA (Kd.V_below (by (with_reducible repeat (first | apply Kd.V_alloc | apply Kd.V_drewN | apply Kd.V_drew)); exact (Kd.V_mono (Kd.V_far (p := ⟨gb225, 3, none⟩) (Kd.V_far (p := ⟨gb225, 2, none⟩) (Kd.V_far (p := ⟨gb225, 1, none⟩) (Kd.V_far (p := ⟨gb225, 0, none⟩) (Kd.V_mono HO228.out (fun k_ hk => (⟨hk, hk⟩ : _ ∧ k_ ≠ gb225))) (fun _ hk => hk.2) (.slice Ao17 t226.length co17)) (fun _ hk => hk.2) (.slice Ao19 t229.length co19)) (fun _ hk => hk.2) (.int .i64 t232)) (fun _ hk => hk.2) (.int .i64 t233)) (fun _ h_ => h_.1))) hb); have n1_ := aA (Kd.V_below (by (with_reducible repeat (first | apply Kd.V_alloc | apply Kd.V_drewN | apply Kd.V_drew)); exact (Kd.V_mono (Kd.V_far (p := ⟨gb225, 3, none⟩) (Kd.V_far (p := ⟨gb225, 2, none⟩) (Kd.V_far (p := ⟨gb225, 1, none⟩) (Kd.V_far (p := ⟨gb225, 0, none⟩) (Kd.V_mono HO231.out (fun k_ hk => (⟨hk, hk⟩ : _ ∧ k_ ≠ gb225))) (fun _ hk => hk.2) (.slice Ao17 t226.length co17)) (fun _ hk => hk.2) (.slice Ao19 t229.length co19)) (fun _ hk => hk.2) (.int .i64 t232)) (fun _ hk => hk.2) (.int .i64 t233)) (fun _ h_ => h_.1))) hb); have n2_ := aA (blk_below (g := gb225) (o := .cells #[.slice Ao17 t226.length co17, .slice Ao19 t229.length co19, .int .i64 t232, .int .i64 t233] 25 (0, 0)) (by (with_reducible repeat (first | refine blk_drewN ?_ _ | refine blk_drew ?_ | refine blk_alloc ?_ _)); have h_ := BK225.out; exact pK 3 (pK 2 (pK 1 (pK 0 (h_))))) hb); have n3_ := aA (below_step (mD1 GE225.out) hb); clear HO228 HO231 BK225 HB; have HO228 := n0_; have HO231 := n1_; have BK225 := n2_; have HB := n3_; clear n0_ n1_ n2_ n3_; (try clear hb); (try clear hb2); (try clear hk); (try clear hi); obtain ⟨hcz21_0, hcz21_1, hcz21_2, hcz21_3⟩ := bC4 BK225.out; obtain ⟨hfz21_0, hfz21_1, hfz21_2, hfz21_3⟩ := bF4 BK225.out) | ((with_reducible refine gate_callee (f := 8) rfl ?_); refine goesL_ (some 58) rfl rfl Tryz.func8 (by kernel_rfl) rfl #[.agg #[.slice Ao17 t226.length co17, .slice Ao19 t229.length co19, .int .i64 t232, .int .i64 t233], .int .i64 (wrap64 (1 + (Int.tmod (wrap64 ((Int.tmod a1 100) + 100)) 100)))] rfl mS ?_; (with_reducible refine (bound_Alone.calls _ _ t226 _ _ t229 t232 t233 (wrap64 (1 + (Int.tmod (wrap64 ((Int.tmod a1 100) + 100)) 100))) t237 t238 _ ?side1 ?side2 ?side3 ?side4 A9.out).mono ?_); (case side1 => exact mC ((Kd.V_reads' HO228.out).2.2)); (case side2 => exact (Kd.V_reads' HO228.out).2.1); (case side3 => exact mC ((Kd.V_reads' HO231.out).2.2)); (case side4 => exact (Kd.V_reads' HO231.out).2.1); rintro e w22 ⟨rfl, hb⟩; refine ⟨_, rfl, ?_⟩; have n0_ := aA (Kd.V_below (by (with_reducible repeat (first | apply Kd.V_alloc | apply Kd.V_drewN | apply Kd.V_drew)); exact HO228.out) hb); have n1_ := aA (Kd.V_below (by (with_reducible repeat (first | apply Kd.V_alloc | apply Kd.V_drewN | apply Kd.V_drew)); exact HO231.out) hb); have n2_ := aA (bB BK225.out hb); have n3_ := aA (below_step (mD1 GE225.out) hb); clear HO228 HO231 BK225 HB; have HO228 := n0_; have HO231 := n1_; have BK225 := n2_; have HB := n3_; clear n0_ n1_ n2_ n3_; (try clear hb); (try clear hb2); (try clear hk); (try clear hi); obtain ⟨hcz23_0, hcz23_1, hcz23_2, hcz23_3⟩ := bC4 BK225.out; obtain ⟨hfz23_0, hfz23_1, hfz23_2, hfz23_3⟩ := bF4 BK225.out) | ((with_reducible refine gate_callee (f := 8) rfl ?_); refine goesL_ (some 65) rfl rfl Tryz.func8 (by kernel_rfl) rfl #[.agg #[.slice Ao17 t226.length co17, .slice Ao19 t229.length co19, .int .i64 t232, .int .i64 t233], .int .i64 (wrap64 ((wrap64 (1 + (Int.tmod (wrap64 ((Int.tmod a1 100) + 100)) 100))) + 1))] rfl mS ?_; (with_reducible refine (bound_Alone.calls _ _ t226 _ _ t229 t232 t233 (wrap64 ((wrap64 (1 + (Int.tmod (wrap64 ((Int.tmod a1 100) + 100)) 100))) + 1)) t239 t240 _ ?side1 ?side2 ?side3 ?side4 A10.out).mono ?_); (case side1 => exact mC ((Kd.V_reads' HO228.out).2.2)); (case side2 => exact (Kd.V_reads' HO228.out).2.1); (case side3 => exact mC ((Kd.V_reads' HO231.out).2.2)); (case side4 => exact (Kd.V_reads' HO231.out).2.1); rintro e w24 ⟨rfl, hb⟩; refine ⟨_, rfl, ?_⟩; have n0_ := aA (Kd.V_below (by (with_reducible repeat (first | apply Kd.V_alloc | apply Kd.V_drewN | apply Kd.V_drew)); exact HO228.out) hb); have n1_ := aA (Kd.V_below (by (with_reducible repeat (first | apply Kd.V_alloc | apply Kd.V_drewN | apply Kd.V_drew)); exact HO231.out) hb); have n2_ := aA (bB BK225.out hb); have n3_ := aA (below_step (mD1 GE225.out) hb); clear HO228 HO231 BK225 HB; have HO228 := n0_; have HO231 := n1_; have BK225 := n2_; have HB := n3_; clear n0_ n1_ n2_ n3_; (try clear hb); (try clear hb2); (try clear hk); (try clear hi); obtain ⟨hcz25_0, hcz25_1, hcz25_2, hcz25_3⟩ := bC4 BK225.out; obtain ⟨hfz25_0, hfz25_1, hfz25_2, hfz25_3⟩ := bF4 BK225.out) | ((with_reducible refine gate_callee (f := 10) rfl ?_); refine goesL_ (some 71) rfl rfl Tryz.func10 (by kernel_rfl) rfl #[.agg #[.slice Ao17 t226.length co17, .slice Ao19 t229.length co19, .int .i64 t232, .int .i64 t233], .int .i64 (Int.tmod (wrap64 ((Int.tmod a4 1000) + 1000)) 1000)] rfl mS ?_; (with_reducible refine (bound_Life.calls _ _ t226 _ _ t229 t232 t233 (Int.tmod (wrap64 ((Int.tmod a4 1000) + 1000)) 1000) t241 t242 _ ?side1 ?side2 ?side3 ?side4 A11.out).mono ?_); (case side1 => exact mC ((Kd.V_reads' HO228.out).2.2)); (case side2 => exact (Kd.V_reads' HO228.out).2.1); (case side3 => exact mC ((Kd.V_reads' HO231.out).2.2)); (case side4 => exact (Kd.V_reads' HO231.out).2.1); rintro e w26 ⟨rfl, hb⟩; refine ⟨_, rfl, ?_⟩; have n0_ := aA (Kd.V_below (by (with_reducible repeat (first | apply Kd.V_alloc | apply Kd.V_drewN | apply Kd.V_drew)); exact HO228.out) hb); have n1_ := aA (Kd.V_below (by (with_reducible repeat (first | apply Kd.V_alloc | apply Kd.V_drewN | apply Kd.V_drew)); exact HO231.out) hb); have n2_ := aA (bB BK225.out hb); have n3_ := aA (below_step (mD1 GE225.out) hb); clear HO228 HO231 BK225 HB; have HO228 := n0_; have HO231 := n1_; have BK225 := n2_; have HB := n3_; clear n0_ n1_ n2_ n3_; (try clear hb); (try clear hb2); (try clear hk); (try clear hi); obtain ⟨hcz27_0, hcz27_1, hcz27_2, hcz27_3⟩ := bC4 BK225.out; obtain ⟨hfz27_0, hfz27_1, hfz27_2, hfz27_3⟩ := bF4 BK225.out) | ((with_reducible refine gate_callee (f := 10) rfl ?_); refine goesL_ (some 78) rfl rfl Tryz.func10 (by kernel_rfl) rfl #[.agg #[.slice Ao17 t226.length co17, .slice Ao19 t229.length co19, .int .i64 t232, .int .i64 t233], .int .i64 (wrap64 ((Int.tmod (wrap64 ((Int.tmod a4 1000) + 1000)) 1000) + 1))] rfl mS ?_; (with_reducible refine (bound_Life.calls _ _ t226 _ _ t229 t232 t233 (wrap64 ((Int.tmod (wrap64 ((Int.tmod a4 1000) + 1000)) 1000) + 1)) t243 t244 _ ?side1 ?side2 ?side3 ?side4 A12.out).mono ?_); (case side1 => exact mC ((Kd.V_reads' HO228.out).2.2)); (case side2 => exact (Kd.V_reads' HO228.out).2.1); (case side3 => exact mC ((Kd.V_reads' HO231.out).2.2)); (case side4 => exact (Kd.V_reads' HO231.out).2.1); rintro e w28 ⟨rfl, hb⟩; refine ⟨_, rfl, ?_⟩; have n0_ := aA (Kd.V_below (by (with_reducible repeat (first | apply Kd.V_alloc | apply Kd.V_drewN | apply Kd.V_drew)); exact HO228.out) hb); have n1_ := aA (Kd.V_below (by (with_reducible repeat (first | apply Kd.V_alloc | apply Kd.V_drewN | apply Kd.V_drew)); exact HO231.out) hb); have n2_ := aA (bB BK225.out hb); have n3_ := aA (below_step (mD1 GE225.out) hb); clear HO228 HO231 BK225 HB; have HO228 := n0_; have HO231 := n1_; have BK225 := n2_; have HB := n3_; clear n0_ n1_ n2_ n3_; (try clear hb); (try clear hb2); (try clear hk); (try clear hi)))
  (try simp only [Act.put, List.setIfInBounds_toArray, List.set_cons_zero, List.set_cons_succ])
  go_cut [111] (fun v111 wc => ∃ (kq : Nat) (x111_12 : Bool), v111 = .bool x111_12 ∧ Aside0 (foghornlaw24_BoundRises.j0 kq a2 (wrap64 (1 + (Int.tmod (wrap64 ((Int.tmod a3 100) + 100)) 100))) t234 x111_12 t226 t229 t232 t233 = some r) ∧ Aside0 (kq ≤ k) ∧ Aside0 (Kd.V k41 41 wc w.heap.size (fun k_ => k_ ≠ gb225) (.slice Ao17 t226.length co17) t226) ∧ Aside0 (Kd.V k46 46 wc w.heap.size (fun k_ => k_ ≠ gb225) (.slice Ao19 t229.length co19) t229) ∧ Aside0 (wc.heap[gb225]? = some (.cells #[(.slice Ao17 t226.length co17), (.slice Ao19 t229.length co19), .int .i64 t232, .int .i64 t233] 25 (0, 0))) ∧ Aside0 (Below w.heap.size w wc))
  case first =>
   have H := HC13.out
   clear HC13
   by_cases c29 : t238 = 0
   ·rw [if_pos c29] at H
    have c29b0 : (t238 == 0) = true := beq_iff_eq.mpr c29
    have c29b1 : (t238 != 0) = false := bne_eq_false_iff_eq.mpr c29
    clear c29
    (first | rw [c29b0] | (simp only [i64_w, i32_w]; rw [c29b0]) | skip)
    by_cases c30 : t240 = 0
    ·rw [if_pos c30] at H
     have c30b0 : (t240 == 0) = true := beq_iff_eq.mpr c30
     have c30b1 : (t240 != 0) = false := bne_eq_false_iff_eq.mpr c30
     clear c30
     by_cases c31 : t242 = 0
     ·rw [if_pos c31] at H
      have c31b0 : (t242 == 0) = true := beq_iff_eq.mpr c31
      have c31b1 : (t242 != 0) = false := bne_eq_false_iff_eq.mpr c31
      clear c31
      by_cases c32 : t244 = 0
      ·rw [if_pos c32] at H
       have c32b0 : (t244 == 0) = true := beq_iff_eq.mpr c32
       have c32b1 : (t244 != 0) = false := bne_eq_false_iff_eq.mpr c32
       clear c32
       by_cases c33 : (wrap64 (t239 - t237)) = t234
       ·rw [if_pos c33] at H
        have c33b0 : ((wrap64 (t239 - t237)) == t234) = true := beq_iff_eq.mpr c33
        have c33b1 : ((wrap64 (t239 - t237)) != t234) = false := bne_eq_false_iff_eq.mpr c33
        clear c33
        by_cases c34 : (wrap64 (t243 - t241)) = 1
        ·rw [if_pos c34] at H
         have c34b0 : ((wrap64 (t243 - t241)) == 1) = true := beq_iff_eq.mpr c34
         have c34b1 : ((wrap64 (t243 - t241)) != 1) = false := bne_eq_false_iff_eq.mpr c34
         clear c34
         replace H := Option.bind_eq_some_iff.mp H
         obtain ⟨t245, A350, H⟩ := H
         have A35 := aA A350
         clear A350
         have H' := aA H
         clear H
         go_wp2_with (first | (go_at_call 12; (with_reducible refine (foghornlaw24_alive.calls  t245 _ ?side1 A35.out).mono ?_); (case side1 => exact gok_below HG.out (mD1 GE225.out)); rintro e w36 ⟨rfl, hb⟩; have n0_ := aA (Kd.V_below (by (with_reducible repeat (first | apply Kd.V_alloc | apply Kd.V_drewN | apply Kd.V_drew)); exact HO228.out) hb); have n1_ := aA (Kd.V_below (by (with_reducible repeat (first | apply Kd.V_alloc | apply Kd.V_drewN | apply Kd.V_drew)); exact HO231.out) hb); have n2_ := aA (bB BK225.out hb); have n3_ := aA (below_step (mD1 GE225.out) hb); clear HO228 HO231 BK225 HB; have HO228 := n0_; have HO231 := n1_; have BK225 := n2_; have HB := n3_; clear n0_ n1_ n2_ n3_; (try clear hb); (try clear hb2); (try clear hk); (try clear hi)))
         go_meet
         case rel => exact ⟨_, (!t245), (by first | rfl | (simp; done) | (simp [*]; done)), H', ⟨by first | omega | exact Nat.le_refl _⟩, ⟨by (with_reducible repeat (first | apply Kd.V_alloc | apply Kd.V_drewN | apply Kd.V_drew)); exact HO228.out⟩, ⟨by (with_reducible repeat (first | apply Kd.V_alloc | apply Kd.V_drewN | apply Kd.V_drew)); exact HO231.out⟩, ⟨by (with_reducible repeat (first | refine blk_drewN ?_ _ | refine blk_drew ?_ | refine blk_alloc ?_ _)); exact BK225.out⟩, ⟨by repeat (first | (with_reducible first | exact HB.out | apply below_alloc | apply pw_below_drewN | apply below_drew1 | refine below_set ?_ GE225.out) | exact HB.out)⟩⟩
        ·rw [if_neg c34] at H
         have c34b0 : ((wrap64 (t243 - t241)) == 1) = false := beq_eq_false_iff_ne.mpr c34
         have c34b1 : ((wrap64 (t243 - t241)) != 1) = true := bne_iff_ne.mpr c34
         have H' := aA H
         clear H
         go_wp2
         go_meet
         case rel => exact ⟨_, (true), (by first | rfl | (simp; done) | (simp [*]; done)), H', ⟨by first | omega | exact Nat.le_refl _⟩, ⟨by (with_reducible repeat (first | apply Kd.V_alloc | apply Kd.V_drewN | apply Kd.V_drew)); exact HO228.out⟩, ⟨by (with_reducible repeat (first | apply Kd.V_alloc | apply Kd.V_drewN | apply Kd.V_drew)); exact HO231.out⟩, ⟨by (with_reducible repeat (first | refine blk_drewN ?_ _ | refine blk_drew ?_ | refine blk_alloc ?_ _)); exact BK225.out⟩, ⟨by repeat (first | (with_reducible first | exact HB.out | apply below_alloc | apply pw_below_drewN | apply below_drew1 | refine below_set ?_ GE225.out) | exact HB.out)⟩⟩
       ·rw [if_neg c33] at H
        have c33b0 : ((wrap64 (t239 - t237)) == t234) = false := beq_eq_false_iff_ne.mpr c33
        have c33b1 : ((wrap64 (t239 - t237)) != t234) = true := bne_iff_ne.mpr c33
        have H' := aA H
        clear H
        go_wp2
        go_meet
        case rel => exact ⟨_, (true), (by first | rfl | (simp; done) | (simp [*]; done)), H', ⟨by first | omega | exact Nat.le_refl _⟩, ⟨by (with_reducible repeat (first | apply Kd.V_alloc | apply Kd.V_drewN | apply Kd.V_drew)); exact HO228.out⟩, ⟨by (with_reducible repeat (first | apply Kd.V_alloc | apply Kd.V_drewN | apply Kd.V_drew)); exact HO231.out⟩, ⟨by (with_reducible repeat (first | refine blk_drewN ?_ _ | refine blk_drew ?_ | refine blk_alloc ?_ _)); exact BK225.out⟩, ⟨by repeat (first | (with_reducible first | exact HB.out | apply below_alloc | apply pw_below_drewN | apply below_drew1 | refine below_set ?_ GE225.out) | exact HB.out)⟩⟩
      ·rw [if_neg c32] at H
       have c32b0 : (t244 == 0) = false := beq_eq_false_iff_ne.mpr c32
       have c32b1 : (t244 != 0) = true := bne_iff_ne.mpr c32
       have H' := aA H
       clear H
       go_wp2
       go_meet
       case rel => exact ⟨_, (true), (by first | rfl | (simp; done) | (simp [*]; done)), H', ⟨by first | omega | exact Nat.le_refl _⟩, ⟨by (with_reducible repeat (first | apply Kd.V_alloc | apply Kd.V_drewN | apply Kd.V_drew)); exact HO228.out⟩, ⟨by (with_reducible repeat (first | apply Kd.V_alloc | apply Kd.V_drewN | apply Kd.V_drew)); exact HO231.out⟩, ⟨by (with_reducible repeat (first | refine blk_drewN ?_ _ | refine blk_drew ?_ | refine blk_alloc ?_ _)); exact BK225.out⟩, ⟨by repeat (first | (with_reducible first | exact HB.out | apply below_alloc | apply pw_below_drewN | apply below_drew1 | refine below_set ?_ GE225.out) | exact HB.out)⟩⟩
     ·rw [if_neg c31] at H
      have c31b0 : (t242 == 0) = false := beq_eq_false_iff_ne.mpr c31
      have c31b1 : (t242 != 0) = true := bne_iff_ne.mpr c31
      have H' := aA H
      clear H
      go_wp2
      go_meet
      case rel => exact ⟨_, (true), (by first | rfl | (simp; done) | (simp [*]; done)), H', ⟨by first | omega | exact Nat.le_refl _⟩, ⟨by (with_reducible repeat (first | apply Kd.V_alloc | apply Kd.V_drewN | apply Kd.V_drew)); exact HO228.out⟩, ⟨by (with_reducible repeat (first | apply Kd.V_alloc | apply Kd.V_drewN | apply Kd.V_drew)); exact HO231.out⟩, ⟨by (with_reducible repeat (first | refine blk_drewN ?_ _ | refine blk_drew ?_ | refine blk_alloc ?_ _)); exact BK225.out⟩, ⟨by repeat (first | (with_reducible first | exact HB.out | apply below_alloc | apply pw_below_drewN | apply below_drew1 | refine below_set ?_ GE225.out) | exact HB.out)⟩⟩
    ·rw [if_neg c30] at H
     have c30b0 : (t240 == 0) = false := beq_eq_false_iff_ne.mpr c30
     have c30b1 : (t240 != 0) = true := bne_iff_ne.mpr c30
     have H' := aA H
     clear H
     go_wp2
     go_meet
     case rel => exact ⟨_, (true), (by first | rfl | (simp; done) | (simp [*]; done)), H', ⟨by first | omega | exact Nat.le_refl _⟩, ⟨by (with_reducible repeat (first | apply Kd.V_alloc | apply Kd.V_drewN | apply Kd.V_drew)); exact HO228.out⟩, ⟨by (with_reducible repeat (first | apply Kd.V_alloc | apply Kd.V_drewN | apply Kd.V_drew)); exact HO231.out⟩, ⟨by (with_reducible repeat (first | refine blk_drewN ?_ _ | refine blk_drew ?_ | refine blk_alloc ?_ _)); exact BK225.out⟩, ⟨by repeat (first | (with_reducible first | exact HB.out | apply below_alloc | apply pw_below_drewN | apply below_drew1 | refine below_set ?_ GE225.out) | exact HB.out)⟩⟩
   ·rw [if_neg c29] at H
    have c29b0 : (t238 == 0) = false := beq_eq_false_iff_ne.mpr c29
    have c29b1 : (t238 != 0) = true := bne_iff_ne.mpr c29
    (first | rw [c29b0] | (simp only [i64_w, i32_w]; rw [c29b0]) | skip)
    have H' := aA H
    clear H
    go_wp2
    go_meet
    case rel => exact ⟨_, (true), (by first | rfl | (simp; done) | (simp [*]; done)), H', ⟨by first | omega | exact Nat.le_refl _⟩, ⟨by (with_reducible repeat (first | apply Kd.V_alloc | apply Kd.V_drewN | apply Kd.V_drew)); exact HO228.out⟩, ⟨by (with_reducible repeat (first | apply Kd.V_alloc | apply Kd.V_drewN | apply Kd.V_drew)); exact HO231.out⟩, ⟨by (with_reducible repeat (first | refine blk_drewN ?_ _ | refine blk_drew ?_ | refine blk_alloc ?_ _)); exact BK225.out⟩, ⟨by repeat (first | (with_reducible first | exact HB.out | apply below_alloc | apply pw_below_drewN | apply below_drew1 | refine below_set ?_ GE225.out) | exact HB.out)⟩⟩
  case rest =>
   clear HC13
   try clear c1
   try clear c2
   try clear p2
   try clear c3
   try clear c4
   try clear c6
   try clear p6
   try clear c7
   try clear c8
   try clear c8b0
   try clear c8b1
   try clear c10
   try clear c29
   try clear c29b0
   try clear c29b1
   try clear c30
   try clear c30b0
   try clear c30b1
   try clear c31
   try clear c31b0
   try clear c31b1
   try clear c32
   try clear c32b0
   try clear c32b1
   try clear c33
   try clear c33b0
   try clear c33b1
   try clear c34
   try clear c34b0
   try clear c34b1
   try clear hcz15_0 hcz15_1 hcz15_2 hcz15_3
   try clear hcz18_0 hcz18_1 hcz18_2 hcz18_3
   try clear hcz21_0 hcz21_1 hcz21_2 hcz21_3
   try clear hcz23_0 hcz23_1 hcz23_2 hcz23_3
   try clear hcz25_0 hcz25_1 hcz25_2 hcz25_3
   try clear hcz27_0 hcz27_1 hcz27_2 hcz27_3
   try clear hfz15_0 hfz15_1 hfz15_2 hfz15_3
   try clear hfz18_0 hfz18_1 hfz18_2 hfz18_3
   try clear hfz21_0 hfz21_1 hfz21_2 hfz21_3
   try clear hfz23_0 hfz23_1 hfz23_2 hfz23_3
   try clear hfz25_0 hfz25_1 hfz25_2 hfz25_3
   try clear hfz27_0 hfz27_1 hfz27_2 hfz27_3
   obtain ⟨kq, x111_12, rfl, HA, HJ12, HO_226000, HO_226001, BK225, HB⟩ := hcut
   cases kq with
   | zero => exact absurd HA.out (by simp [foghornlaw24_BoundRises.j0])
   | succ kj12 =>
    have H := HA.out
    clear HA
    simp only [foghornlaw24_BoundRises.j0] at H
    by_cases c37 : x111_12 = true
    ·subst c37
     have H1 : (some false) = some r := by rw [if_pos rfl] at H; exact H
     clear H
     have H := H1
     clear H1
     exact absurd (Option.some.inj H) (by rw [hrt_]; decide)
    ·replace c37 := Bool.eq_false_iff.mpr c37
     subst c37
     have H1 : (foghornlaw24_BoundRises.l0 kj12 a2 (wrap64 (1 + (Int.tmod (wrap64 ((Int.tmod a3 100) + 100)) 100))) t234 t226 (t226.length : Int) 0 t226 t229 t232 t233) = some r := by rw [if_neg (show ¬ (false = true) by decide)] at H; exact H
     clear H
     have H := H1
     clear H1
     have H' := aA H
     clear H
     obtain ⟨hcz38_0, hcz38_1, hcz38_2, hcz38_3⟩ := bC4 BK225.out
     obtain ⟨hfz38_0, hfz38_1, hfz38_2, hfz38_3⟩ := bF4 BK225.out
     go_wp2
     go_loopg [115] kj12 (fun kq v115 w' => ∃ (x115_2 : Int), v115 = .int .i64 x115_2 ∧ Aside0 (foghornlaw24_BoundRises.l0 kq a2 (wrap64 (1 + (Int.tmod (wrap64 ((Int.tmod a3 100) + 100)) 100))) t234 t226 (t226.length : Int) x115_2 t226 t229 t232 t233 = some r) ∧ Aside0 (kq ≤ kj12) ∧ Aside0 (Kd.V k41 41 w' w.heap.size (fun k_ => k_ ≠ gb225) (.slice Ao17 t226.length co17) t226) ∧ Aside0 (Kd.V k41 41 w' w.heap.size (fun k_ => k_ ≠ gb225) (.slice Ao17 t226.length co17) t226) ∧ Aside0 (Kd.V k46 46 w' w.heap.size (fun k_ => k_ ≠ gb225) (.slice Ao19 t229.length co19) t229) ∧ Aside0 (w'.heap[gb225]? = some (.cells #[(.slice Ao17 t226.length co17), (.slice Ao19 t229.length co19), .int .i64 t232, .int .i64 t233] 25 (0, 0))) ∧ Aside0 (Below w.heap.size w w'))
     case atStart => exact ⟨(0), (by first | rfl | (simp; done) | (simp [*]; done)), H', ⟨Nat.le_refl _⟩, ⟨by (with_reducible repeat (first | apply Kd.V_alloc | apply Kd.V_drewN | apply Kd.V_drew)); exact HO_226000.out⟩, ⟨by (with_reducible repeat (first | apply Kd.V_alloc | apply Kd.V_drewN | apply Kd.V_drew)); exact HO_226000.out⟩, ⟨by (with_reducible repeat (first | apply Kd.V_alloc | apply Kd.V_drewN | apply Kd.V_drew)); exact HO_226001.out⟩, ⟨by (with_reducible repeat (first | refine blk_drewN ?_ _ | refine blk_drew ?_ | refine blk_alloc ?_ _)); exact BK225.out⟩, ⟨by repeat (first | (with_reducible first | exact HB.out | apply below_alloc | apply pw_below_drewN | apply below_drew1 | refine below_set ?_ GE225.out) | exact HB.out)⟩⟩
     case round =>
      clear H'
      try clear c1
      try clear c2
      try clear p2
      try clear c3
      try clear c4
      try clear c6
      try clear p6
      try clear c7
      try clear c8
      try clear c8b0
      try clear c8b1
      try clear c10
      try clear c29
      try clear c29b0
      try clear c29b1
      try clear c30
      try clear c30b0
      try clear c30b1
      try clear c31
      try clear c31b0
      try clear c31b1
      try clear c32
      try clear c32b0
      try clear c32b1
      try clear c33
      try clear c33b0
      try clear c33b1
      try clear c34
      try clear c34b0
      try clear c34b1
      try clear c37
      try clear hcz15_0 hcz15_1 hcz15_2 hcz15_3
      try clear hcz18_0 hcz18_1 hcz18_2 hcz18_3
      try clear hcz21_0 hcz21_1 hcz21_2 hcz21_3
      try clear hcz23_0 hcz23_1 hcz23_2 hcz23_3
      try clear hcz25_0 hcz25_1 hcz25_2 hcz25_3
      try clear hcz27_0 hcz27_1 hcz27_2 hcz27_3
      try clear hcz38_0 hcz38_1 hcz38_2 hcz38_3
      try clear hfz15_0 hfz15_1 hfz15_2 hfz15_3
      try clear hfz18_0 hfz18_1 hfz18_2 hfz18_3
      try clear hfz21_0 hfz21_1 hfz21_2 hfz21_3
      try clear hfz23_0 hfz23_1 hfz23_2 hfz23_3
      try clear hfz25_0 hfz25_1 hfz25_2 hfz25_3
      try clear hfz27_0 hfz27_1 hfz27_2 hfz27_3
      try clear hfz38_0 hfz38_1 hfz38_2 hfz38_3
      try clear p2
      try clear p6
      obtain ⟨x115_2, rfl, HA, HK2, HO_113, HO_226000, HO_226001, BK225, HB⟩ := hrel
      cases gk with
      | zero => exact absurd HA.out (by simp [foghornlaw24_BoundRises.l0])
      | succ k2 =>
       have H := HA.out
       clear HA
       simp only [foghornlaw24_BoundRises.l0] at H
       by_cases c39 : x115_2 < (t226.length : Int)
       ·rw [if_pos c39] at H
        have c39b0 : decide (x115_2 < (t226.length : Int)) = true := decide_eq_true c39
        clear c39
        by_cases c40 : 0 ≤ x115_2
        ·rw [if_pos c40] at H
         have c40b0 : decide (0 ≤ x115_2) = true := decide_eq_true c40
         clear c40
         by_cases c41 : x115_2 < (t226.length : Int)
         ·rw [if_pos c41] at H
          have c41b0 : decide (x115_2 < (t226.length : Int)) = true := decide_eq_true c41
          clear c41
          by_cases c42 : (wrap64 (((rd_T41 t226 x115_2).f1.f1) + ((rd_T41 t226 x115_2).f1.f2))) > t234
          ·rw [if_pos c42] at H
           have c42b0 : decide (t234 < (wrap64 (((rd_T41 t226 x115_2).f1.f1) + ((rd_T41 t226 x115_2).f1.f2)))) = true := decide_eq_true c42
           clear c42
           try exact absurd (Option.some.inj H) (by rw [hrt_]; decide)
           all_goals
            obtain rfl := Option.some.inj H
            have p246 : 0 ≤ (x115_2 : Int) := of_decide_eq_true (by first | (with_reducible assumption) | assumption)
            have q246 : x115_2 < (t226.length : Int) := of_decide_eq_true (by first | (with_reducible assumption) | assumption)
            obtain ⟨ad246, e246, hx246_0, hx246_1, hx246_2, hx246_3, hx246_4, hx246_5, hx246_6, hx246_7, hx246_8⟩ := at_T41 (Kd.V_reads' HO_113.out).2.2 x115_2 p246 q246
            cases e246
            replace p246 := eq_true p246
            replace q246 := eq_true q246
            go_wp2_with (first | ((with_reducible refine gate_dst (N := 22) rfl ?_); (try (refine gate_guard (by rfl) ?_; dsimp only)); refine box_event ?hg (N := 22) ?hd (cs := #[.string (⟨#[]⟩ : ByteArray), .int .i64 0, .int .i64 0, .int .i64 0, .int .i64 0, .int .i64 0, .int .i64 0, .int .i64 0, .int .i64 0]) (t := 41) ?hr ?_; (case hd => rfl); (case hg => rfl); (case hr => first | (go_simp; done) | (go_simp; rfl)); intro gb247 hg w43 hbox hb; have n0_ := aA (Kd.V_below (Kd.V_elderB (by (with_reducible repeat (first | apply Kd.V_alloc | apply Kd.V_drewN | apply Kd.V_drew)); exact HO_113.out) gb247 (Nat.le_of_eq hg.symm)) hb); have n1_ := aA (Kd.V_below (Kd.V_elderB (by (with_reducible repeat (first | apply Kd.V_alloc | apply Kd.V_drewN | apply Kd.V_drew)); exact HO_226000.out) gb247 (Nat.le_of_eq hg.symm)) hb); have n2_ := aA (Kd.V_below (Kd.V_elderB (by (with_reducible repeat (first | apply Kd.V_alloc | apply Kd.V_drewN | apply Kd.V_drew)); exact HO_226001.out) gb247 (Nat.le_of_eq hg.symm)) hb); have n3_ := aA (bB BK225.out hb); have n4_ := aA (below_step (mD1 GE225.out) hb); have n5_ := aA (hbox); have n6_ := aA ((bZ hg (mD1 GE225.out))); have n7_ := aA ((bZ hg (mD1 GE225.out))); have n8_ := aA ((bL hg BK225.out)); have n9_ := aA ((bG hg BK225.out)); clear HO_113 HO_226000 HO_226001 BK225 HB; have HO_113 := n0_; have HO_226000 := n1_; have HO_226001 := n2_; have BK225 := n3_; have HB := n4_; have BK247 := n5_; have GW247 := n6_; have GE247 := n7_; have NB225_247 := n8_; have NB247_225 := n9_; clear n0_ n1_ n2_ n3_ n4_ n5_ n6_ n7_ n8_ n9_ hb hbox hg; have hnb44 := NB247_225.out; have hnc44 := NB225_247.out; obtain ⟨hcz45_0, hcz45_1, hcz45_2, hcz45_3, hcz45_4, hcz45_5, hcz45_6, hcz45_7, hcz45_8⟩ := bC9 BK247.out; obtain ⟨hfz45_0, hfz45_1, hfz45_2, hfz45_3, hfz45_4, hfz45_5, hfz45_6, hfz45_7, hfz45_8⟩ := bF9 BK247.out))
            go_ret
            exact ⟨by first | rfl | (simp [errW_none, errW_some] <;> rfl) | (simp [*, errW_none, errW_some] <;> rfl), by repeat (first | (with_reducible first | exact HB.out | apply below_alloc | apply pw_below_drewN | apply below_drew1 | refine below_set ?_ GE225.out | refine below_set ?_ GE247.out) | exact HB.out)⟩
          ·rw [if_neg c42] at H
           have c42b0 : decide (t234 < (wrap64 (((rd_T41 t226 x115_2).f1.f1) + ((rd_T41 t226 x115_2).f1.f2)))) = false := decide_eq_false c42
           clear c42
           by_cases c46 : ((rd_T41 t226 x115_2).f4) > t234
           ·rw [if_pos c46] at H
            have c46b0 : decide (t234 < ((rd_T41 t226 x115_2).f4)) = true := decide_eq_true c46
            clear c46
            try exact absurd (Option.some.inj H) (by rw [hrt_]; decide)
            all_goals
             obtain rfl := Option.some.inj H
             have p246 : 0 ≤ (x115_2 : Int) := of_decide_eq_true (by first | (with_reducible assumption) | assumption)
             have q246 : x115_2 < (t226.length : Int) := of_decide_eq_true (by first | (with_reducible assumption) | assumption)
             obtain ⟨ad246, e246, hx246_0, hx246_1, hx246_2, hx246_3, hx246_4, hx246_5, hx246_6, hx246_7, hx246_8⟩ := at_T41 (Kd.V_reads' HO_113.out).2.2 x115_2 p246 q246
             cases e246
             replace p246 := eq_true p246
             replace q246 := eq_true q246
             go_wp2_with (first | ((with_reducible refine gate_dst (N := 22) rfl ?_); (try (refine gate_guard (by rfl) ?_; dsimp only)); refine box_event ?hg (N := 22) ?hd (cs := #[.string (⟨#[]⟩ : ByteArray), .int .i64 0, .int .i64 0, .int .i64 0, .int .i64 0, .int .i64 0, .int .i64 0, .int .i64 0, .int .i64 0]) (t := 41) ?hr ?_; (case hd => rfl); (case hg => rfl); (case hr => first | (go_simp; done) | (go_simp; rfl)); intro gb247 hg w47 hbox hb; have n0_ := aA (Kd.V_below (Kd.V_elderB (by (with_reducible repeat (first | apply Kd.V_alloc | apply Kd.V_drewN | apply Kd.V_drew)); exact HO_113.out) gb247 (Nat.le_of_eq hg.symm)) hb); have n1_ := aA (Kd.V_below (Kd.V_elderB (by (with_reducible repeat (first | apply Kd.V_alloc | apply Kd.V_drewN | apply Kd.V_drew)); exact HO_226000.out) gb247 (Nat.le_of_eq hg.symm)) hb); have n2_ := aA (Kd.V_below (Kd.V_elderB (by (with_reducible repeat (first | apply Kd.V_alloc | apply Kd.V_drewN | apply Kd.V_drew)); exact HO_226001.out) gb247 (Nat.le_of_eq hg.symm)) hb); have n3_ := aA (bB BK225.out hb); have n4_ := aA (below_step (mD1 GE225.out) hb); have n5_ := aA (hbox); have n6_ := aA ((bZ hg (mD1 GE225.out))); have n7_ := aA ((bZ hg (mD1 GE225.out))); have n8_ := aA ((bL hg BK225.out)); have n9_ := aA ((bG hg BK225.out)); clear HO_113 HO_226000 HO_226001 BK225 HB; have HO_113 := n0_; have HO_226000 := n1_; have HO_226001 := n2_; have BK225 := n3_; have HB := n4_; have BK247 := n5_; have GW247 := n6_; have GE247 := n7_; have NB225_247 := n8_; have NB247_225 := n9_; clear n0_ n1_ n2_ n3_ n4_ n5_ n6_ n7_ n8_ n9_ hb hbox hg; have hnb48 := NB247_225.out; have hnc48 := NB225_247.out; obtain ⟨hcz49_0, hcz49_1, hcz49_2, hcz49_3, hcz49_4, hcz49_5, hcz49_6, hcz49_7, hcz49_8⟩ := bC9 BK247.out; obtain ⟨hfz49_0, hfz49_1, hfz49_2, hfz49_3, hfz49_4, hfz49_5, hfz49_6, hfz49_7, hfz49_8⟩ := bF9 BK247.out))
             go_ret
             exact ⟨by first | rfl | (simp [errW_none, errW_some] <;> rfl) | (simp [*, errW_none, errW_some] <;> rfl), by repeat (first | (with_reducible first | exact HB.out | apply below_alloc | apply pw_below_drewN | apply below_drew1 | refine below_set ?_ GE225.out | refine below_set ?_ GE247.out) | exact HB.out)⟩
           ·rw [if_neg c46] at H
            have c46b0 : decide (t234 < ((rd_T41 t226 x115_2).f4)) = false := decide_eq_false c46
            clear c46
            by_cases c50 : ((rd_T41 t226 x115_2).f6) > t234
            ·rw [if_pos c50] at H
             have c50b0 : decide (t234 < ((rd_T41 t226 x115_2).f6)) = true := decide_eq_true c50
             clear c50
             try exact absurd (Option.some.inj H) (by rw [hrt_]; decide)
             all_goals
              obtain rfl := Option.some.inj H
              have p246 : 0 ≤ (x115_2 : Int) := of_decide_eq_true (by first | (with_reducible assumption) | assumption)
              have q246 : x115_2 < (t226.length : Int) := of_decide_eq_true (by first | (with_reducible assumption) | assumption)
              obtain ⟨ad246, e246, hx246_0, hx246_1, hx246_2, hx246_3, hx246_4, hx246_5, hx246_6, hx246_7, hx246_8⟩ := at_T41 (Kd.V_reads' HO_113.out).2.2 x115_2 p246 q246
              cases e246
              replace p246 := eq_true p246
              replace q246 := eq_true q246
              go_wp2_with (first | ((with_reducible refine gate_dst (N := 22) rfl ?_); (try (refine gate_guard (by rfl) ?_; dsimp only)); refine box_event ?hg (N := 22) ?hd (cs := #[.string (⟨#[]⟩ : ByteArray), .int .i64 0, .int .i64 0, .int .i64 0, .int .i64 0, .int .i64 0, .int .i64 0, .int .i64 0, .int .i64 0]) (t := 41) ?hr ?_; (case hd => rfl); (case hg => rfl); (case hr => first | (go_simp; done) | (go_simp; rfl)); intro gb247 hg w51 hbox hb; have n0_ := aA (Kd.V_below (Kd.V_elderB (by (with_reducible repeat (first | apply Kd.V_alloc | apply Kd.V_drewN | apply Kd.V_drew)); exact HO_113.out) gb247 (Nat.le_of_eq hg.symm)) hb); have n1_ := aA (Kd.V_below (Kd.V_elderB (by (with_reducible repeat (first | apply Kd.V_alloc | apply Kd.V_drewN | apply Kd.V_drew)); exact HO_226000.out) gb247 (Nat.le_of_eq hg.symm)) hb); have n2_ := aA (Kd.V_below (Kd.V_elderB (by (with_reducible repeat (first | apply Kd.V_alloc | apply Kd.V_drewN | apply Kd.V_drew)); exact HO_226001.out) gb247 (Nat.le_of_eq hg.symm)) hb); have n3_ := aA (bB BK225.out hb); have n4_ := aA (below_step (mD1 GE225.out) hb); have n5_ := aA (hbox); have n6_ := aA ((bZ hg (mD1 GE225.out))); have n7_ := aA ((bZ hg (mD1 GE225.out))); have n8_ := aA ((bL hg BK225.out)); have n9_ := aA ((bG hg BK225.out)); clear HO_113 HO_226000 HO_226001 BK225 HB; have HO_113 := n0_; have HO_226000 := n1_; have HO_226001 := n2_; have BK225 := n3_; have HB := n4_; have BK247 := n5_; have GW247 := n6_; have GE247 := n7_; have NB225_247 := n8_; have NB247_225 := n9_; clear n0_ n1_ n2_ n3_ n4_ n5_ n6_ n7_ n8_ n9_ hb hbox hg; have hnb52 := NB247_225.out; have hnc52 := NB225_247.out; obtain ⟨hcz53_0, hcz53_1, hcz53_2, hcz53_3, hcz53_4, hcz53_5, hcz53_6, hcz53_7, hcz53_8⟩ := bC9 BK247.out; obtain ⟨hfz53_0, hfz53_1, hfz53_2, hfz53_3, hfz53_4, hfz53_5, hfz53_6, hfz53_7, hfz53_8⟩ := bF9 BK247.out))
              go_ret
              exact ⟨by first | rfl | (simp [errW_none, errW_some] <;> rfl) | (simp [*, errW_none, errW_some] <;> rfl), by repeat (first | (with_reducible first | exact HB.out | apply below_alloc | apply pw_below_drewN | apply below_drew1 | refine below_set ?_ GE225.out | refine below_set ?_ GE247.out) | exact HB.out)⟩
            ·rw [if_neg c50] at H
             have c50b0 : decide (t234 < ((rd_T41 t226 x115_2).f6)) = false := decide_eq_false c50
             clear c50
             have H' := aA H
             clear H
             have p246 : 0 ≤ (x115_2 : Int) := of_decide_eq_true (by first | (with_reducible assumption) | assumption)
             have q246 : x115_2 < (t226.length : Int) := of_decide_eq_true (by first | (with_reducible assumption) | assumption)
             obtain ⟨ad246, e246, hx246_0, hx246_1, hx246_2, hx246_3, hx246_4, hx246_5, hx246_6, hx246_7, hx246_8⟩ := at_T41 (Kd.V_reads' HO_113.out).2.2 x115_2 p246 q246
             cases e246
             replace p246 := eq_true p246
             replace q246 := eq_true q246
             go_wp2_with (first | ((with_reducible refine gate_dst (N := 22) rfl ?_); (try (refine gate_guard (by rfl) ?_; dsimp only)); refine box_event ?hg (N := 22) ?hd (cs := #[.string (⟨#[]⟩ : ByteArray), .int .i64 0, .int .i64 0, .int .i64 0, .int .i64 0, .int .i64 0, .int .i64 0, .int .i64 0, .int .i64 0]) (t := 41) ?hr ?_; (case hd => rfl); (case hg => rfl); (case hr => first | (go_simp; done) | (go_simp; rfl)); intro gb247 hg w54 hbox hb; have n0_ := aA (Kd.V_below (Kd.V_elderB (by (with_reducible repeat (first | apply Kd.V_alloc | apply Kd.V_drewN | apply Kd.V_drew)); exact HO_113.out) gb247 (Nat.le_of_eq hg.symm)) hb); have n1_ := aA (Kd.V_below (Kd.V_elderB (by (with_reducible repeat (first | apply Kd.V_alloc | apply Kd.V_drewN | apply Kd.V_drew)); exact HO_226000.out) gb247 (Nat.le_of_eq hg.symm)) hb); have n2_ := aA (Kd.V_below (Kd.V_elderB (by (with_reducible repeat (first | apply Kd.V_alloc | apply Kd.V_drewN | apply Kd.V_drew)); exact HO_226001.out) gb247 (Nat.le_of_eq hg.symm)) hb); have n3_ := aA (bB BK225.out hb); have n4_ := aA (below_step (mD1 GE225.out) hb); have n5_ := aA (hbox); have n6_ := aA ((bZ hg (mD1 GE225.out))); have n7_ := aA ((bZ hg (mD1 GE225.out))); have n8_ := aA ((bL hg BK225.out)); have n9_ := aA ((bG hg BK225.out)); clear HO_113 HO_226000 HO_226001 BK225 HB; have HO_113 := n0_; have HO_226000 := n1_; have HO_226001 := n2_; have BK225 := n3_; have HB := n4_; have BK247 := n5_; have GW247 := n6_; have GE247 := n7_; have NB225_247 := n8_; have NB247_225 := n9_; clear n0_ n1_ n2_ n3_ n4_ n5_ n6_ n7_ n8_ n9_ hb hbox hg; have hnb55 := NB247_225.out; have hnc55 := NB225_247.out; obtain ⟨hcz56_0, hcz56_1, hcz56_2, hcz56_3, hcz56_4, hcz56_5, hcz56_6, hcz56_7, hcz56_8⟩ := bC9 BK247.out; obtain ⟨hfz56_0, hfz56_1, hfz56_2, hfz56_3, hfz56_4, hfz56_5, hfz56_6, hfz56_7, hfz56_8⟩ := bF9 BK247.out))
             go_roundg k2
             case measure => have := HJ12.out; have := HK2.out; omega
             case rel => exact ⟨(wrap64 (x115_2 + 1)), (by first | rfl | (simp; done) | (simp [*]; done)), H', ⟨by have := HJ12.out; have := HK2.out; omega⟩, ⟨by (with_reducible repeat (first | apply Kd.V_alloc | apply Kd.V_drewN | apply Kd.V_drew)); exact Kd.V_mono (Kd.V_far (p := ⟨gb247, 8, none⟩) (Kd.V_far (p := ⟨gb247, 7, none⟩) (Kd.V_far (p := ⟨gb247, 6, none⟩) (Kd.V_far (p := ⟨gb247, 5, none⟩) (Kd.V_far (p := ⟨gb247, 4, none⟩) (Kd.V_far (p := ⟨gb247, 3, none⟩) (Kd.V_far (p := ⟨gb247, 2, none⟩) (Kd.V_far (p := ⟨gb247, 1, none⟩) (Kd.V_far (p := ⟨gb247, 0, none⟩) (Kd.V_mono HO_113.out (fun k_ hk => (⟨hk, hk.2⟩ : _ ∧ k_ ≠ gb247))) (fun _ hk => hk.2) (.string ((rd_T41 t226 x115_2).f0))) (fun _ hk => hk.2) (.int .i64 ((rd_T41 t226 x115_2).f1.f0))) (fun _ hk => hk.2) (.int .i64 ((rd_T41 t226 x115_2).f1.f1))) (fun _ hk => hk.2) (.int .i64 ((rd_T41 t226 x115_2).f1.f2))) (fun _ hk => hk.2) (.int .i64 ((rd_T41 t226 x115_2).f2))) (fun _ hk => hk.2) (.int .i64 ((rd_T41 t226 x115_2).f3))) (fun _ hk => hk.2) (.int .i64 ((rd_T41 t226 x115_2).f4))) (fun _ hk => hk.2) (.int .i64 ((rd_T41 t226 x115_2).f5))) (fun _ hk => hk.2) (.int .i64 ((rd_T41 t226 x115_2).f6))) (fun _ hk => hk.1.1)⟩, ⟨by (with_reducible repeat (first | apply Kd.V_alloc | apply Kd.V_drewN | apply Kd.V_drew)); exact Kd.V_mono (Kd.V_far (p := ⟨gb247, 8, none⟩) (Kd.V_far (p := ⟨gb247, 7, none⟩) (Kd.V_far (p := ⟨gb247, 6, none⟩) (Kd.V_far (p := ⟨gb247, 5, none⟩) (Kd.V_far (p := ⟨gb247, 4, none⟩) (Kd.V_far (p := ⟨gb247, 3, none⟩) (Kd.V_far (p := ⟨gb247, 2, none⟩) (Kd.V_far (p := ⟨gb247, 1, none⟩) (Kd.V_far (p := ⟨gb247, 0, none⟩) (Kd.V_mono HO_226000.out (fun k_ hk => (⟨hk, hk.2⟩ : _ ∧ k_ ≠ gb247))) (fun _ hk => hk.2) (.string ((rd_T41 t226 x115_2).f0))) (fun _ hk => hk.2) (.int .i64 ((rd_T41 t226 x115_2).f1.f0))) (fun _ hk => hk.2) (.int .i64 ((rd_T41 t226 x115_2).f1.f1))) (fun _ hk => hk.2) (.int .i64 ((rd_T41 t226 x115_2).f1.f2))) (fun _ hk => hk.2) (.int .i64 ((rd_T41 t226 x115_2).f2))) (fun _ hk => hk.2) (.int .i64 ((rd_T41 t226 x115_2).f3))) (fun _ hk => hk.2) (.int .i64 ((rd_T41 t226 x115_2).f4))) (fun _ hk => hk.2) (.int .i64 ((rd_T41 t226 x115_2).f5))) (fun _ hk => hk.2) (.int .i64 ((rd_T41 t226 x115_2).f6))) (fun _ hk => hk.1.1)⟩, ⟨by (with_reducible repeat (first | apply Kd.V_alloc | apply Kd.V_drewN | apply Kd.V_drew)); exact Kd.V_mono (Kd.V_far (p := ⟨gb247, 8, none⟩) (Kd.V_far (p := ⟨gb247, 7, none⟩) (Kd.V_far (p := ⟨gb247, 6, none⟩) (Kd.V_far (p := ⟨gb247, 5, none⟩) (Kd.V_far (p := ⟨gb247, 4, none⟩) (Kd.V_far (p := ⟨gb247, 3, none⟩) (Kd.V_far (p := ⟨gb247, 2, none⟩) (Kd.V_far (p := ⟨gb247, 1, none⟩) (Kd.V_far (p := ⟨gb247, 0, none⟩) (Kd.V_mono HO_226001.out (fun k_ hk => (⟨hk, hk.2⟩ : _ ∧ k_ ≠ gb247))) (fun _ hk => hk.2) (.string ((rd_T41 t226 x115_2).f0))) (fun _ hk => hk.2) (.int .i64 ((rd_T41 t226 x115_2).f1.f0))) (fun _ hk => hk.2) (.int .i64 ((rd_T41 t226 x115_2).f1.f1))) (fun _ hk => hk.2) (.int .i64 ((rd_T41 t226 x115_2).f1.f2))) (fun _ hk => hk.2) (.int .i64 ((rd_T41 t226 x115_2).f2))) (fun _ hk => hk.2) (.int .i64 ((rd_T41 t226 x115_2).f3))) (fun _ hk => hk.2) (.int .i64 ((rd_T41 t226 x115_2).f4))) (fun _ hk => hk.2) (.int .i64 ((rd_T41 t226 x115_2).f5))) (fun _ hk => hk.2) (.int .i64 ((rd_T41 t226 x115_2).f6))) (fun _ hk => hk.1.1)⟩, ⟨by (with_reducible repeat (first | refine blk_drewN ?_ _ | refine blk_drew ?_ | refine blk_alloc ?_ _)); refine blk_far ?_ NB225_247.out _; (with_reducible repeat (first | refine blk_drewN ?_ _ | refine blk_drew ?_ | refine blk_alloc ?_ _)); refine blk_far ?_ NB225_247.out _; (with_reducible repeat (first | refine blk_drewN ?_ _ | refine blk_drew ?_ | refine blk_alloc ?_ _)); refine blk_far ?_ NB225_247.out _; (with_reducible repeat (first | refine blk_drewN ?_ _ | refine blk_drew ?_ | refine blk_alloc ?_ _)); refine blk_far ?_ NB225_247.out _; (with_reducible repeat (first | refine blk_drewN ?_ _ | refine blk_drew ?_ | refine blk_alloc ?_ _)); refine blk_far ?_ NB225_247.out _; (with_reducible repeat (first | refine blk_drewN ?_ _ | refine blk_drew ?_ | refine blk_alloc ?_ _)); refine blk_far ?_ NB225_247.out _; (with_reducible repeat (first | refine blk_drewN ?_ _ | refine blk_drew ?_ | refine blk_alloc ?_ _)); refine blk_far ?_ NB225_247.out _; (with_reducible repeat (first | refine blk_drewN ?_ _ | refine blk_drew ?_ | refine blk_alloc ?_ _)); refine blk_far ?_ NB225_247.out _; (with_reducible repeat (first | refine blk_drewN ?_ _ | refine blk_drew ?_ | refine blk_alloc ?_ _)); refine blk_far ?_ NB225_247.out _; (with_reducible repeat (first | refine blk_drewN ?_ _ | refine blk_drew ?_ | refine blk_alloc ?_ _)); exact BK225.out⟩, ⟨by repeat (first | (with_reducible first | exact HB.out | apply below_alloc | apply pw_below_drewN | apply below_drew1 | refine below_set ?_ GE225.out | refine below_set ?_ GE247.out) | exact HB.out)⟩⟩
         ·rw [if_neg c41] at H
          exact absurd H (by simp)
        ·rw [if_neg c40] at H
         exact absurd H (by simp)
       ·rw [if_neg c39] at H
        have c39b0 : decide (x115_2 < (t226.length : Int)) = false := decide_eq_false c39
        clear c39
        replace H := Option.bind_eq_some_iff.mp H
        obtain ⟨⟨t248, t249⟩, A570, H⟩ := H
        have A57 := aA A570
        clear A570
        replace H := Option.bind_eq_some_iff.mp H
        obtain ⟨⟨t250, t251⟩, A580, H⟩ := H
        have A58 := aA A580
        clear A580
        by_cases c59 : a2 < 0
        ·rw [if_pos c59] at H
         have c59b0 : decide (a2 < 0) = true := decide_eq_true c59
         clear c59
         by_cases c60 : t249 = 3
         ·rw [if_pos c60] at H
          have c60b0 : (t249 == 3) = true := beq_iff_eq.mpr c60
          have c60b1 : (t249 != 3) = false := bne_eq_false_iff_eq.mpr c60
          clear c60
          by_cases c61 : t251 = 3
          ·rw [if_pos c61] at H
           have c61b0 : (t251 == 3) = true := beq_iff_eq.mpr c61
           have c61b1 : (t251 != 3) = false := bne_eq_false_iff_eq.mpr c61
           clear c61
           by_cases c62 : t248 = 0
           ·rw [if_pos c62] at H
            have c62b0 : (t248 == 0) = true := beq_iff_eq.mpr c62
            have c62b1 : (t248 != 0) = false := bne_eq_false_iff_eq.mpr c62
            clear c62
            obtain rfl := Option.some.inj H
            obtain ⟨hcz63_0, hcz63_1, hcz63_2, hcz63_3⟩ := bC4 BK225.out
            obtain ⟨hfz63_0, hfz63_1, hfz63_2, hfz63_3⟩ := bF4 BK225.out
            go_wp2_with (first | ((with_reducible refine gate_callee (f := 9) rfl ?_); refine goesL_ (some 145) rfl rfl Tryz.func9 (by kernel_rfl) rfl #[.agg #[.slice Ao17 t226.length co17, .slice Ao19 t229.length co19, .int .i64 t232, .int .i64 t233], .int .i64 a2, .int .i64 (wrap64 (1 + (Int.tmod (wrap64 ((Int.tmod a3 100) + 100)) 100)))] rfl mS ?_; (with_reducible refine (bound_Many.calls _ _ t226 _ _ t229 t232 t233 a2 (wrap64 (1 + (Int.tmod (wrap64 ((Int.tmod a3 100) + 100)) 100))) t248 t249 _ ?side1 ?side2 ?side3 ?side4 A57.out).mono ?_); (case side1 => exact mC ((Kd.V_reads' HO_226000.out).2.2)); (case side2 => exact (Kd.V_reads' HO_226000.out).2.1); (case side3 => exact mC ((Kd.V_reads' HO_226001.out).2.2)); (case side4 => exact (Kd.V_reads' HO_226001.out).2.1); rintro e w64 ⟨rfl, hb⟩; refine ⟨_, rfl, ?_⟩; have n0_ := aA (Kd.V_below (by (with_reducible repeat (first | apply Kd.V_alloc | apply Kd.V_drewN | apply Kd.V_drew)); exact HO_113.out) hb); have n1_ := aA (Kd.V_below (by (with_reducible repeat (first | apply Kd.V_alloc | apply Kd.V_drewN | apply Kd.V_drew)); exact HO_226000.out) hb); have n2_ := aA (Kd.V_below (by (with_reducible repeat (first | apply Kd.V_alloc | apply Kd.V_drewN | apply Kd.V_drew)); exact HO_226001.out) hb); have n3_ := aA (bB BK225.out hb); have n4_ := aA (below_step (mD1 GE225.out) hb); clear HO_113 HO_226000 HO_226001 BK225 HB; have HO_113 := n0_; have HO_226000 := n1_; have HO_226001 := n2_; have BK225 := n3_; have HB := n4_; clear n0_ n1_ n2_ n3_ n4_; (try clear hb); (try clear hb2); (try clear hk); (try clear hi); obtain ⟨hcz65_0, hcz65_1, hcz65_2, hcz65_3⟩ := bC4 BK225.out; obtain ⟨hfz65_0, hfz65_1, hfz65_2, hfz65_3⟩ := bF4 BK225.out) | ((with_reducible refine gate_callee (f := 9) rfl ?_); refine goesL_ (some 153) rfl rfl Tryz.func9 (by kernel_rfl) rfl #[.agg #[.slice Ao17 t226.length co17, .slice Ao19 t229.length co19, .int .i64 t232, .int .i64 t233], .int .i64 a2, .int .i64 (wrap64 ((wrap64 (1 + (Int.tmod (wrap64 ((Int.tmod a3 100) + 100)) 100))) + 1))] rfl mS ?_; (with_reducible refine (bound_Many.calls _ _ t226 _ _ t229 t232 t233 a2 (wrap64 ((wrap64 (1 + (Int.tmod (wrap64 ((Int.tmod a3 100) + 100)) 100))) + 1)) t250 t251 _ ?side1 ?side2 ?side3 ?side4 A58.out).mono ?_); (case side1 => exact mC ((Kd.V_reads' HO_226000.out).2.2)); (case side2 => exact (Kd.V_reads' HO_226000.out).2.1); (case side3 => exact mC ((Kd.V_reads' HO_226001.out).2.2)); (case side4 => exact (Kd.V_reads' HO_226001.out).2.1); rintro e w66 ⟨rfl, hb⟩; refine ⟨_, rfl, ?_⟩; have n0_ := aA (Kd.V_below (by (with_reducible repeat (first | apply Kd.V_alloc | apply Kd.V_drewN | apply Kd.V_drew)); exact HO_113.out) hb); have n1_ := aA (Kd.V_below (by (with_reducible repeat (first | apply Kd.V_alloc | apply Kd.V_drewN | apply Kd.V_drew)); exact HO_226000.out) hb); have n2_ := aA (Kd.V_below (by (with_reducible repeat (first | apply Kd.V_alloc | apply Kd.V_drewN | apply Kd.V_drew)); exact HO_226001.out) hb); have n3_ := aA (bB BK225.out hb); have n4_ := aA (below_step (mD1 GE225.out) hb); clear HO_113 HO_226000 HO_226001 BK225 HB; have HO_113 := n0_; have HO_226000 := n1_; have HO_226001 := n2_; have BK225 := n3_; have HB := n4_; clear n0_ n1_ n2_ n3_ n4_; (try clear hb); (try clear hb2); (try clear hk); (try clear hi)))
            go_ret
            exact ⟨by first | rfl | (simp [errW_none, errW_some] <;> rfl) | (simp [*, errW_none, errW_some] <;> rfl), by repeat (first | (with_reducible first | exact HB.out | apply below_alloc | apply pw_below_drewN | apply below_drew1 | refine below_set ?_ GE225.out) | exact HB.out)⟩
           ·rw [if_neg c62] at H
            have c62b0 : (t248 == 0) = false := beq_eq_false_iff_ne.mpr c62
            have c62b1 : (t248 != 0) = true := bne_iff_ne.mpr c62
            exact absurd (Option.some.inj H) (by rw [hrt_]; decide)
          ·rw [if_neg c61] at H
           have c61b0 : (t251 == 3) = false := beq_eq_false_iff_ne.mpr c61
           have c61b1 : (t251 != 3) = true := bne_iff_ne.mpr c61
           exact absurd (Option.some.inj H) (by rw [hrt_]; decide)
         ·rw [if_neg c60] at H
          have c60b0 : (t249 == 3) = false := beq_eq_false_iff_ne.mpr c60
          have c60b1 : (t249 != 3) = true := bne_iff_ne.mpr c60
          exact absurd (Option.some.inj H) (by rw [hrt_]; decide)
        ·rw [if_neg c59] at H
         have c59b0 : decide (a2 < 0) = false := decide_eq_false c59
         clear c59
         by_cases c79 : a2 ≥ (t226.length : Int)
         ·rw [if_pos c79] at H
          have c79b0 : decide ((t226.length : Int) ≤ a2) = true := decide_eq_true c79
          clear c79
          by_cases c80 : t249 = 3
          ·rw [if_pos c80] at H
           have c80b0 : (t249 == 3) = true := beq_iff_eq.mpr c80
           have c80b1 : (t249 != 3) = false := bne_eq_false_iff_eq.mpr c80
           clear c80
           by_cases c81 : t251 = 3
           ·rw [if_pos c81] at H
            have c81b0 : (t251 == 3) = true := beq_iff_eq.mpr c81
            have c81b1 : (t251 != 3) = false := bne_eq_false_iff_eq.mpr c81
            clear c81
            by_cases c82 : t248 = 0
            ·rw [if_pos c82] at H
             have c82b0 : (t248 == 0) = true := beq_iff_eq.mpr c82
             have c82b1 : (t248 != 0) = false := bne_eq_false_iff_eq.mpr c82
             clear c82
             obtain rfl := Option.some.inj H
             obtain ⟨hcz83_0, hcz83_1, hcz83_2, hcz83_3⟩ := bC4 BK225.out
             obtain ⟨hfz83_0, hfz83_1, hfz83_2, hfz83_3⟩ := bF4 BK225.out
             go_wp2_with (first | ((with_reducible refine gate_callee (f := 9) rfl ?_); refine goesL_ (some 145) rfl rfl Tryz.func9 (by kernel_rfl) rfl #[.agg #[.slice Ao17 t226.length co17, .slice Ao19 t229.length co19, .int .i64 t232, .int .i64 t233], .int .i64 a2, .int .i64 (wrap64 (1 + (Int.tmod (wrap64 ((Int.tmod a3 100) + 100)) 100)))] rfl mS ?_; (with_reducible refine (bound_Many.calls _ _ t226 _ _ t229 t232 t233 a2 (wrap64 (1 + (Int.tmod (wrap64 ((Int.tmod a3 100) + 100)) 100))) t248 t249 _ ?side1 ?side2 ?side3 ?side4 A57.out).mono ?_); (case side1 => exact mC ((Kd.V_reads' HO_226000.out).2.2)); (case side2 => exact (Kd.V_reads' HO_226000.out).2.1); (case side3 => exact mC ((Kd.V_reads' HO_226001.out).2.2)); (case side4 => exact (Kd.V_reads' HO_226001.out).2.1); rintro e w84 ⟨rfl, hb⟩; refine ⟨_, rfl, ?_⟩; have n0_ := aA (Kd.V_below (by (with_reducible repeat (first | apply Kd.V_alloc | apply Kd.V_drewN | apply Kd.V_drew)); exact HO_113.out) hb); have n1_ := aA (Kd.V_below (by (with_reducible repeat (first | apply Kd.V_alloc | apply Kd.V_drewN | apply Kd.V_drew)); exact HO_226000.out) hb); have n2_ := aA (Kd.V_below (by (with_reducible repeat (first | apply Kd.V_alloc | apply Kd.V_drewN | apply Kd.V_drew)); exact HO_226001.out) hb); have n3_ := aA (bB BK225.out hb); have n4_ := aA (below_step (mD1 GE225.out) hb); clear HO_113 HO_226000 HO_226001 BK225 HB; have HO_113 := n0_; have HO_226000 := n1_; have HO_226001 := n2_; have BK225 := n3_; have HB := n4_; clear n0_ n1_ n2_ n3_ n4_; (try clear hb); (try clear hb2); (try clear hk); (try clear hi); obtain ⟨hcz85_0, hcz85_1, hcz85_2, hcz85_3⟩ := bC4 BK225.out; obtain ⟨hfz85_0, hfz85_1, hfz85_2, hfz85_3⟩ := bF4 BK225.out) | ((with_reducible refine gate_callee (f := 9) rfl ?_); refine goesL_ (some 153) rfl rfl Tryz.func9 (by kernel_rfl) rfl #[.agg #[.slice Ao17 t226.length co17, .slice Ao19 t229.length co19, .int .i64 t232, .int .i64 t233], .int .i64 a2, .int .i64 (wrap64 ((wrap64 (1 + (Int.tmod (wrap64 ((Int.tmod a3 100) + 100)) 100))) + 1))] rfl mS ?_; (with_reducible refine (bound_Many.calls _ _ t226 _ _ t229 t232 t233 a2 (wrap64 ((wrap64 (1 + (Int.tmod (wrap64 ((Int.tmod a3 100) + 100)) 100))) + 1)) t250 t251 _ ?side1 ?side2 ?side3 ?side4 A58.out).mono ?_); (case side1 => exact mC ((Kd.V_reads' HO_226000.out).2.2)); (case side2 => exact (Kd.V_reads' HO_226000.out).2.1); (case side3 => exact mC ((Kd.V_reads' HO_226001.out).2.2)); (case side4 => exact (Kd.V_reads' HO_226001.out).2.1); rintro e w86 ⟨rfl, hb⟩; refine ⟨_, rfl, ?_⟩; have n0_ := aA (Kd.V_below (by (with_reducible repeat (first | apply Kd.V_alloc | apply Kd.V_drewN | apply Kd.V_drew)); exact HO_113.out) hb); have n1_ := aA (Kd.V_below (by (with_reducible repeat (first | apply Kd.V_alloc | apply Kd.V_drewN | apply Kd.V_drew)); exact HO_226000.out) hb); have n2_ := aA (Kd.V_below (by (with_reducible repeat (first | apply Kd.V_alloc | apply Kd.V_drewN | apply Kd.V_drew)); exact HO_226001.out) hb); have n3_ := aA (bB BK225.out hb); have n4_ := aA (below_step (mD1 GE225.out) hb); clear HO_113 HO_226000 HO_226001 BK225 HB; have HO_113 := n0_; have HO_226000 := n1_; have HO_226001 := n2_; have BK225 := n3_; have HB := n4_; clear n0_ n1_ n2_ n3_ n4_; (try clear hb); (try clear hb2); (try clear hk); (try clear hi); obtain ⟨hcz87_0, hcz87_1, hcz87_2, hcz87_3⟩ := bC4 BK225.out; obtain ⟨hfz87_0, hfz87_1, hfz87_2, hfz87_3⟩ := bF4 BK225.out))
             go_ret
             exact ⟨by first | rfl | (simp [errW_none, errW_some] <;> rfl) | (simp [*, errW_none, errW_some] <;> rfl), by repeat (first | (with_reducible first | exact HB.out | apply below_alloc | apply pw_below_drewN | apply below_drew1 | refine below_set ?_ GE225.out) | exact HB.out)⟩
            ·rw [if_neg c82] at H
             have c82b0 : (t248 == 0) = false := beq_eq_false_iff_ne.mpr c82
             have c82b1 : (t248 != 0) = true := bne_iff_ne.mpr c82
             exact absurd (Option.some.inj H) (by rw [hrt_]; decide)
           ·rw [if_neg c81] at H
            have c81b0 : (t251 == 3) = false := beq_eq_false_iff_ne.mpr c81
            have c81b1 : (t251 != 3) = true := bne_iff_ne.mpr c81
            exact absurd (Option.some.inj H) (by rw [hrt_]; decide)
          ·rw [if_neg c80] at H
           have c80b0 : (t249 == 3) = false := beq_eq_false_iff_ne.mpr c80
           have c80b1 : (t249 != 3) = true := bne_iff_ne.mpr c80
           exact absurd (Option.some.inj H) (by rw [hrt_]; decide)
         ·rw [if_neg c79] at H
          have c79b0 : decide ((t226.length : Int) ≤ a2) = false := decide_eq_false c79
          clear c79
          by_cases c103 : t249 = 0
          ·rw [if_pos c103] at H
           have c103b0 : (t249 == 0) = true := beq_iff_eq.mpr c103
           have c103b1 : (t249 != 0) = false := bne_eq_false_iff_eq.mpr c103
           clear c103
           by_cases c104 : t251 = 0
           ·rw [if_pos c104] at H
            have c104b0 : (t251 == 0) = true := beq_iff_eq.mpr c104
            have c104b1 : (t251 != 0) = false := bne_eq_false_iff_eq.mpr c104
            clear c104
            by_cases c105 : 0 ≤ a2
            ·rw [if_pos c105] at H
             have c105b0 : decide (0 ≤ a2) = true := decide_eq_true c105
             clear c105
             by_cases c106 : a2 < (t226.length : Int)
             ·rw [if_pos c106] at H
              have c106b0 : decide (a2 < (t226.length : Int)) = true := decide_eq_true c106
              clear c106
              obtain rfl := Option.some.inj H
              obtain ⟨hcz107_0, hcz107_1, hcz107_2, hcz107_3⟩ := bC4 BK225.out
              obtain ⟨hfz107_0, hfz107_1, hfz107_2, hfz107_3⟩ := bF4 BK225.out
              go_wp2_with (first | ((with_reducible refine gate_callee (f := 9) rfl ?_); refine goesL_ (some 145) rfl rfl Tryz.func9 (by kernel_rfl) rfl #[.agg #[.slice Ao17 t226.length co17, .slice Ao19 t229.length co19, .int .i64 t232, .int .i64 t233], .int .i64 a2, .int .i64 (wrap64 (1 + (Int.tmod (wrap64 ((Int.tmod a3 100) + 100)) 100)))] rfl mS ?_; (with_reducible refine (bound_Many.calls _ _ t226 _ _ t229 t232 t233 a2 (wrap64 (1 + (Int.tmod (wrap64 ((Int.tmod a3 100) + 100)) 100))) t248 t249 _ ?side1 ?side2 ?side3 ?side4 A57.out).mono ?_); (case side1 => exact mC ((Kd.V_reads' HO_226000.out).2.2)); (case side2 => exact (Kd.V_reads' HO_226000.out).2.1); (case side3 => exact mC ((Kd.V_reads' HO_226001.out).2.2)); (case side4 => exact (Kd.V_reads' HO_226001.out).2.1); rintro e w108 ⟨rfl, hb⟩; refine ⟨_, rfl, ?_⟩; have n0_ := aA (Kd.V_below (by (with_reducible repeat (first | apply Kd.V_alloc | apply Kd.V_drewN | apply Kd.V_drew)); exact HO_113.out) hb); have n1_ := aA (Kd.V_below (by (with_reducible repeat (first | apply Kd.V_alloc | apply Kd.V_drewN | apply Kd.V_drew)); exact HO_226000.out) hb); have n2_ := aA (Kd.V_below (by (with_reducible repeat (first | apply Kd.V_alloc | apply Kd.V_drewN | apply Kd.V_drew)); exact HO_226001.out) hb); have n3_ := aA (bB BK225.out hb); have n4_ := aA (below_step (mD1 GE225.out) hb); clear HO_113 HO_226000 HO_226001 BK225 HB; have HO_113 := n0_; have HO_226000 := n1_; have HO_226001 := n2_; have BK225 := n3_; have HB := n4_; clear n0_ n1_ n2_ n3_ n4_; (try clear hb); (try clear hb2); (try clear hk); (try clear hi); obtain ⟨hcz109_0, hcz109_1, hcz109_2, hcz109_3⟩ := bC4 BK225.out; obtain ⟨hfz109_0, hfz109_1, hfz109_2, hfz109_3⟩ := bF4 BK225.out) | ((with_reducible refine gate_callee (f := 9) rfl ?_); refine goesL_ (some 153) rfl rfl Tryz.func9 (by kernel_rfl) rfl #[.agg #[.slice Ao17 t226.length co17, .slice Ao19 t229.length co19, .int .i64 t232, .int .i64 t233], .int .i64 a2, .int .i64 (wrap64 ((wrap64 (1 + (Int.tmod (wrap64 ((Int.tmod a3 100) + 100)) 100))) + 1))] rfl mS ?_; (with_reducible refine (bound_Many.calls _ _ t226 _ _ t229 t232 t233 a2 (wrap64 ((wrap64 (1 + (Int.tmod (wrap64 ((Int.tmod a3 100) + 100)) 100))) + 1)) t250 t251 _ ?side1 ?side2 ?side3 ?side4 A58.out).mono ?_); (case side1 => exact mC ((Kd.V_reads' HO_226000.out).2.2)); (case side2 => exact (Kd.V_reads' HO_226000.out).2.1); (case side3 => exact mC ((Kd.V_reads' HO_226001.out).2.2)); (case side4 => exact (Kd.V_reads' HO_226001.out).2.1); rintro e w110 ⟨rfl, hb⟩; refine ⟨_, rfl, ?_⟩; have n0_ := aA (Kd.V_below (by (with_reducible repeat (first | apply Kd.V_alloc | apply Kd.V_drewN | apply Kd.V_drew)); exact HO_113.out) hb); have n1_ := aA (Kd.V_below (by (with_reducible repeat (first | apply Kd.V_alloc | apply Kd.V_drewN | apply Kd.V_drew)); exact HO_226000.out) hb); have n2_ := aA (Kd.V_below (by (with_reducible repeat (first | apply Kd.V_alloc | apply Kd.V_drewN | apply Kd.V_drew)); exact HO_226001.out) hb); have n3_ := aA (bB BK225.out hb); have n4_ := aA (below_step (mD1 GE225.out) hb); clear HO_113 HO_226000 HO_226001 BK225 HB; have HO_113 := n0_; have HO_226000 := n1_; have HO_226001 := n2_; have BK225 := n3_; have HB := n4_; clear n0_ n1_ n2_ n3_ n4_; (try clear hb); (try clear hb2); (try clear hk); (try clear hi); obtain ⟨hcz111_0, hcz111_1, hcz111_2, hcz111_3⟩ := bC4 BK225.out; obtain ⟨hfz111_0, hfz111_1, hfz111_2, hfz111_3⟩ := bF4 BK225.out; have p252 : 0 ≤ (a2 : Int) := of_decide_eq_true (by first | (with_reducible assumption) | assumption); have q252 : a2 < (t226.length : Int) := of_decide_eq_true (by first | (with_reducible assumption) | assumption); obtain ⟨ad252, e252, hx252_0, hx252_1, hx252_2, hx252_3, hx252_4, hx252_5, hx252_6, hx252_7, hx252_8⟩ := at_T41 (Kd.V_reads' HO_226000.out).2.2 a2 p252 q252; cases e252; replace p252 := eq_true p252; replace q252 := eq_true q252))
              go_ret
              exact ⟨by first | rfl | (simp [errW_none, errW_some] <;> rfl) | (simp [*, errW_none, errW_some] <;> rfl), by repeat (first | (with_reducible first | exact HB.out | apply below_alloc | apply pw_below_drewN | apply below_drew1 | refine below_set ?_ GE225.out) | exact HB.out)⟩
             ·rw [if_neg c106] at H
              exact absurd H (by simp)
            ·rw [if_neg c105] at H
             exact absurd H (by simp)
           ·rw [if_neg c104] at H
            have c104b0 : (t251 == 0) = false := beq_eq_false_iff_ne.mpr c104
            have c104b1 : (t251 != 0) = true := bne_iff_ne.mpr c104
            exact absurd (Option.some.inj H) (by rw [hrt_]; decide)
          ·rw [if_neg c103] at H
           have c103b0 : (t249 == 0) = false := beq_eq_false_iff_ne.mpr c103
           have c103b1 : (t249 != 0) = true := bne_iff_ne.mpr c103
           exact absurd (Option.some.inj H) (by rw [hrt_]; decide)
 ·rw [if_neg c8] at H
  have c8b0 : (t235 == 0) = false := beq_eq_false_iff_ne.mpr c8
  have c8b1 : (t235 != 0) = true := bne_iff_ne.mpr c8
  replace H := Option.bind_eq_some_iff.mp H
  obtain ⟨t236, A1220, H⟩ := H
  have A122 := aA A1220
  clear A1220
  by_cases c123 : t236 = true
  ·subst c123
   have H1 : (some (t234 == 0)) = some r := by rw [if_pos rfl] at H; exact H
   clear H
   have H := H1
   clear H1
   obtain rfl := Option.some.inj H
   go_enter Tryz.func4, Tryz.ntmps4
   go_wp2_with (first | ((with_reducible refine gate_dst (N := 5) rfl ?_); (try (refine gate_guard (by rfl) ?_; dsimp only)); refine box_event ?hg (N := 5) ?hd (cs := #[.slice A0_0 l0_0.length c0_0, .slice A0_1 l0_1.length c0_1, .int .i64 a0_2, .int .i64 a0_3]) (t := 25) ?hr ?_; (case hd => rfl); (case hg => rfl); (case hr => first | (go_simp; done) | (go_simp; rfl)); intro gb225 hg w124 hbox hb; have n0_ := aA (below_step mB hb); have n1_ := aA (hbox); have n2_ := aA ((bZ hg mB)); have n3_ := aA ((bZ hg mB)); clear HB; have HB := n0_; have BK225 := n1_; have GW225 := n2_; have GE225 := n3_; clear n0_ n1_ n2_ n3_ hb hbox hg; obtain ⟨hcz125_0, hcz125_1, hcz125_2, hcz125_3⟩ := bC4 BK225.out; obtain ⟨hfz125_0, hfz125_1, hfz125_2, hfz125_3⟩ := bF4 BK225.out) | ((with_reducible refine gate_callee (f := 6) rfl ?_); refine goesL_ (some 28) rfl rfl Tryz.func6 (by kernel_rfl) rfl #[.agg #[.slice A0_0 l0_0.length c0_0, .slice A0_1 l0_1.length c0_1, .int .i64 a0_2, .int .i64 a0_3]] rfl mS ?_; (with_reducible refine (foghornlaw24_few.calls (fun k_ => k_ < w.heap.size) _ _ l0_0 (fun k_ => k_ < w.heap.size) _ _ l0_1 a0_2 a0_3 t226 t229 t232 t233 _ ?side1 ?side2 A6.out).mono ?_); (case side1 => exact Kd.V_mk HC0_0.out (Kd.F_below (Kd.C_F k41_heap HR0_0.out) (mD1 GE225.out))); (case side2 => exact Kd.V_mk HC0_1.out (Kd.F_below (Kd.C_F k46_heap HR0_1.out) (mD1 GE225.out))); rintro e w126 ⟨v227, v230, rfl, ho0, ho1, hb⟩; refine ⟨_, rfl, ?_⟩; have n0_ := aA (Kd.V_lower (Kd.V_mono (ok' := fun k_ => k_ ≠ gb225) ho0 (fun k_ hk_ => Or.elim hk_ (fun hs_ => Or.elim hs_ (fun hs_ => fun e_ => Nat.not_le.2 hs_ (by rw [e_]; exact GW225.out)) (fun hs_ => fun e_ => Nat.not_le.2 hs_ (by rw [e_]; exact GW225.out))) (fun hn_ => (Kd.freshB (g := gb225) (o := .cells #[.slice A0_0 l0_0.length c0_0, .slice A0_1 l0_1.length c0_1, .int .i64 a0_2, .int .i64 a0_3] 25 (0, 0)) (mK BK225.out) k_ hn_)))) (below_size (mD1 GE225.out))); have n1_ := aA (Kd.V_lower (Kd.V_mono (ok' := fun k_ => k_ ≠ gb225) ho1 (fun k_ hk_ => Or.elim hk_ (fun hs_ => Or.elim hs_ (fun hs_ => fun e_ => Nat.not_le.2 hs_ (by rw [e_]; exact GW225.out)) (fun hs_ => fun e_ => Nat.not_le.2 hs_ (by rw [e_]; exact GW225.out))) (fun hn_ => (Kd.freshB (g := gb225) (o := .cells #[.slice A0_0 l0_0.length c0_0, .slice A0_1 l0_1.length c0_1, .int .i64 a0_2, .int .i64 a0_3] 25 (0, 0)) (mK BK225.out) k_ hn_)))) (below_size (mD1 GE225.out))); have n2_ := aA (bB BK225.out hb); have n3_ := aA (below_step (mD1 GE225.out) hb); clear BK225 HB; have HO228 := n0_; have HO231 := n1_; have BK225 := n2_; have HB := n3_; clear n0_ n1_ n2_ n3_; (try clear hb); (try clear hb2); (try clear hk); (try clear hi); (try clear ho0); (try clear ho1); obtain ⟨Ao127, co127, eo127⟩ := Kd.V_slice HO228.out; subst eo127; obtain ⟨hcz128_0, hcz128_1, hcz128_2, hcz128_3⟩ := bC4 BK225.out; obtain ⟨hfz128_0, hfz128_1, hfz128_2, hfz128_3⟩ := bF4 BK225.out; obtain ⟨Ao129, co129, eo129⟩ := Kd.V_slice HO231.out; subst eo129) | ((with_reducible refine gate_callee (f := 7) rfl ?_); refine goesL_ (some 45) rfl rfl Tryz.func7 (by kernel_rfl) rfl #[.agg #[.slice Ao127 t226.length co127, .slice Ao129 t229.length co129, .int .i64 t232, .int .i64 t233]] rfl mS ?_; (with_reducible refine (bound_Step.calls _ _ t226 _ _ t229 t232 t233 t234 t235 _ ?side1 ?side2 ?side3 ?side4 A7.out).mono ?_); (case side1 => refine (Kd.V_reads' (e := 41) (base := w.heap.size) (ok := fun k_ => k_ ≠ gb225) (n := t226.length) (c := co127) ?_).2.2; exact (by (with_reducible repeat (first | apply Kd.V_alloc | apply Kd.V_drewN | apply Kd.V_drew)); exact (Kd.V_mono (Kd.V_far (p := ⟨gb225, 3, none⟩) (Kd.V_far (p := ⟨gb225, 2, none⟩) (Kd.V_far (p := ⟨gb225, 1, none⟩) (Kd.V_far (p := ⟨gb225, 0, none⟩) (Kd.V_mono HO228.out (fun k_ hk => (⟨hk, hk⟩ : _ ∧ k_ ≠ gb225))) (fun _ hk => hk.2) (.slice Ao127 t226.length co127)) (fun _ hk => hk.2) (.slice Ao129 t229.length co129)) (fun _ hk => hk.2) (.int .i64 t232)) (fun _ hk => hk.2) (.int .i64 t233)) (fun _ h_ => h_.1)))); (case side2 => exact (Kd.V_reads' HO228.out).2.1); (case side3 => refine (Kd.V_reads' (e := 46) (base := w.heap.size) (ok := fun k_ => k_ ≠ gb225) (n := t229.length) (c := co129) ?_).2.2; exact (by (with_reducible repeat (first | apply Kd.V_alloc | apply Kd.V_drewN | apply Kd.V_drew)); exact (Kd.V_mono (Kd.V_far (p := ⟨gb225, 3, none⟩) (Kd.V_far (p := ⟨gb225, 2, none⟩) (Kd.V_far (p := ⟨gb225, 1, none⟩) (Kd.V_far (p := ⟨gb225, 0, none⟩) (Kd.V_mono HO231.out (fun k_ hk => (⟨hk, hk⟩ : _ ∧ k_ ≠ gb225))) (fun _ hk => hk.2) (.slice Ao127 t226.length co127)) (fun _ hk => hk.2) (.slice Ao129 t229.length co129)) (fun _ hk => hk.2) (.int .i64 t232)) (fun _ hk => hk.2) (.int .i64 t233)) (fun _ h_ => h_.1)))); (case side4 => exact (Kd.V_reads' HO231.out).2.1); rintro e w130 ⟨rfl, hb⟩; refine ⟨_, rfl, ?_⟩; have n0_ := aA (Kd.V_below (by (with_reducible repeat (first | apply Kd.V_alloc | apply Kd.V_drewN | apply Kd.V_drew)); exact (Kd.V_mono (Kd.V_far (p := ⟨gb225, 3, none⟩) (Kd.V_far (p := ⟨gb225, 2, none⟩) (Kd.V_far (p := ⟨gb225, 1, none⟩) (Kd.V_far (p := ⟨gb225, 0, none⟩) (Kd.V_mono HO228.out (fun k_ hk => (⟨hk, hk⟩ : _ ∧ k_ ≠ gb225))) (fun _ hk => hk.2) (.slice Ao127 t226.length co127)) (fun _ hk => hk.2) (.slice Ao129 t229.length co129)) (fun _ hk => hk.2) (.int .i64 t232)) (fun _ hk => hk.2) (.int .i64 t233)) (fun _ h_ => h_.1))) hb); have n1_ := aA (Kd.V_below (by (with_reducible repeat (first | apply Kd.V_alloc | apply Kd.V_drewN | apply Kd.V_drew)); exact (Kd.V_mono (Kd.V_far (p := ⟨gb225, 3, none⟩) (Kd.V_far (p := ⟨gb225, 2, none⟩) (Kd.V_far (p := ⟨gb225, 1, none⟩) (Kd.V_far (p := ⟨gb225, 0, none⟩) (Kd.V_mono HO231.out (fun k_ hk => (⟨hk, hk⟩ : _ ∧ k_ ≠ gb225))) (fun _ hk => hk.2) (.slice Ao127 t226.length co127)) (fun _ hk => hk.2) (.slice Ao129 t229.length co129)) (fun _ hk => hk.2) (.int .i64 t232)) (fun _ hk => hk.2) (.int .i64 t233)) (fun _ h_ => h_.1))) hb); have n2_ := aA (blk_below (g := gb225) (o := .cells #[.slice Ao127 t226.length co127, .slice Ao129 t229.length co129, .int .i64 t232, .int .i64 t233] 25 (0, 0)) (by (with_reducible repeat (first | refine blk_drewN ?_ _ | refine blk_drew ?_ | refine blk_alloc ?_ _)); have h_ := BK225.out; exact pK 3 (pK 2 (pK 1 (pK 0 (h_))))) hb); have n3_ := aA (below_step (mD1 GE225.out) hb); clear HO228 HO231 BK225 HB; have HO228 := n0_; have HO231 := n1_; have BK225 := n2_; have HB := n3_; clear n0_ n1_ n2_ n3_; (try clear hb); (try clear hb2); (try clear hk); (try clear hi)) | ((with_reducible refine gate_callee (f := 12) rfl ?_); refine goesL_ (some 50) rfl rfl Tryz.func12 (by kernel_rfl) rfl #[] rfl mS ?_; (with_reducible refine (foghornlaw24_alive.calls  true _ ?side1 A122.out).mono ?_); (case side1 => exact gok_below HG.out (mD1 GE225.out)); rintro e w131 ⟨rfl, hb⟩; refine ⟨_, rfl, ?_⟩; have n0_ := aA (Kd.V_below (by (with_reducible repeat (first | apply Kd.V_alloc | apply Kd.V_drewN | apply Kd.V_drew)); exact HO228.out) hb); have n1_ := aA (Kd.V_below (by (with_reducible repeat (first | apply Kd.V_alloc | apply Kd.V_drewN | apply Kd.V_drew)); exact HO231.out) hb); have n2_ := aA (bB BK225.out hb); have n3_ := aA (below_step (mD1 GE225.out) hb); clear HO228 HO231 BK225 HB; have HO228 := n0_; have HO231 := n1_; have BK225 := n2_; have HB := n3_; clear n0_ n1_ n2_ n3_; (try clear hb); (try clear hb2); (try clear hk); (try clear hi)))
   go_ret
   exact ⟨by first | rfl | (simp [errW_none, errW_some] <;> rfl) | (simp [*, errW_none, errW_some] <;> rfl), by repeat (first | (with_reducible first | exact HB.out | apply below_alloc | apply pw_below_drewN | apply below_drew1 | refine below_set ?_ GE225.out) | exact HB.out)⟩
  ·replace c123 := Bool.eq_false_iff.mpr c123
   subst c123
   have H1 : (some false) = some r := by rw [if_neg (show ¬ (false = true) by decide)] at H; exact H
   clear H
   have H := H1
   clear H1
   exact absurd (Option.some.inj H) (by rw [hrt_]; decide)
end Go.Proofs.YtejdpjmfnpbadaaGreatDoorQ.P
namespace Go.Proofs.YtejdpjmfnpbadaaGreatDoorQ.P
open Go.RowKit Go.Proofs.YtejdpjmfnpbadaaGreatDoorW.PrintWords Go.Proofs.YtejdpjmfnpbadaaGreatDoorW.PrintLast Go.Proofs.YtejdpjmfnpbadaaGreatDoorW.PrintMore Go.Proofs.YtejdpjmfnpbadaaGreatDoor
theorem cyc_f (a m : Int) (hm : 1 ≤ m) (hM : m ≤ 1000) : ∃ q : Int, Int.tmod (wrap64 (Int.tmod a m + m)) m = q ∧ 0 ≤ q ∧ q < m := by
  have h1 := Int.tmod_lt_of_pos a (show 0 < m by omega)
  have h2 := Int.lt_tmod_of_pos a (show 0 < m by omega)
  rw [w64 (by omega) (by omega)]
  exact ⟨_, rfl, Int.tmod_nonneg _ (by omega), Int.tmod_lt_of_pos _ (by omega)⟩
theorem sz_take {l0 : List S41} {l1 : List S46} (h : cfgSzB l0 l1 = true) (n m : Nat) : cfgSzB (l0.take n) (l1.take m) = true := by
  unfold cfgSzB at h ⊢
  rw [Bool.and_eq_true, List.all_eq_true, List.all_eq_true] at h ⊢
  exact ⟨fun x hx => h.1 x (List.mem_of_mem_take hx), fun x hx => h.2 x (List.mem_of_mem_take hx)⟩
theorem few_f (l0 : List S41) (l1 : List S46) (a2 a3 : Int) : foghornlaw24_few.f l0 l1 a2 a3 = some (l0.take 6, l1.take 6, a2, a3) := by
  have e1 := mn_eq (l0.length : Int) 6
  have e2 := mn_eq (l1.length : Int) 6
  unfold foghornlaw24_few.f
  rw [if_pos (by omega), if_pos (by omega), if_pos (by omega), if_pos (by omega), take_mn 6 6 _ rfl, take_mn 6 6 _ rfl]
section
variable {l0 : List S41} {l1 : List S46} {a2 a3 : Int}
theorem rises_end (hz : cfgSzB l0 l1 = true) (hok : Cfg.okB ⟨l0.map toRcv, l1.map toRte, a2, a3⟩ = true) (who : Int) {n : Int} (h1 : 1 ≤ n) (h2 : n ≤ 100) (k : Nat) (s : Int) (i : Int) (hi : ¬ i < (l0.length : Int)) :
    foghornlaw24_BoundRises.l0 (k + 1) who n s l0 (l0.length : Int) i l0 l1 a2 a3 = some true := by
  rw [foghornlaw24_BoundRises.l0, if_neg hi, w64 (by omega) (by omega)]
  by_cases hw : who < 0 ∨ (l0.length : Int) ≤ who
  · rw [many_no hz hok hw, many_no hz hok hw, Option.bind_some, Option.bind_some]
    dsimp only
    rcases hw with hw | hw
    · rw [if_pos hw]
      rfl
    · by_cases h0 : who < 0
      · rw [if_pos h0]
        rfl
      · rw [if_neg h0, if_pos hw]
        rfl
  · obtain ⟨q, rfl⟩ : ∃ q : Nat, who = q := ⟨who.toNat, by omega⟩
    have hq : q < l0.length := by omega
    have hb := rcv_bounds (ok_rcvs hok (toRcv l0[q]) (List.mem_map_of_mem (List.getElem_mem hq)))
    have e : (toRcv l0[q]).every = l0[q].f6 := rfl
    have q0 : 0 ≤ (n - 1) * l0[q].f6 := Int.mul_nonneg (by omega) (by omega)
    have q1 : (n - 1) * l0[q].f6 ≤ 100 * 1048576 := Int.mul_le_mul (by omega) (by omega) (by omega) (by omega)
    have q2 : (n + 1 - 1) * l0[q].f6 = (n - 1) * l0[q].f6 + l0[q].f6 := by
      rw [show n + 1 - 1 = (n - 1) + 1 by omega, Int.add_mul, Int.one_mul]
    rw [many_f hz hok hq (n := n) (by omega) (by omega), many_f hz hok hq (n := n + 1) (by omega) (by omega), Option.bind_some, Option.bind_some]
    dsimp only
    rw [if_neg (by omega), if_neg (by omega), if_pos rfl, if_pos rfl, if_pos (by omega), if_pos (by omega), q2, w64 (by omega) (by omega), rd_rcv hq]
    rw [show 1 + ((n - 1) * l0[q].f6 + l0[q].f6) - (1 + (n - 1) * l0[q].f6) = l0[q].f6 by omega]
    simp
theorem rises_l (hz : cfgSzB l0 l1 = true) (hok : Cfg.okB ⟨l0.map toRcv, l1.map toRte, a2, a3⟩ = true) (hl : l0.length ≤ 100) (who : Int) {n : Int} (h1 : 1 ≤ n) (h2 : n ≤ 100) (d : Nat) :
    ∀ (k i : Nat), i + d = l0.length → d < k → foghornlaw24_BoundRises.l0 k who n (mostL (l0.map toRcv)) l0 (l0.length : Int) i l0 l1 a2 a3 = some true := by
  induction d with
  | zero =>
    intro k i hi hk
    obtain ⟨k, rfl⟩ : ∃ q, k = q + 1 := ⟨k - 1, by omega⟩
    exact rises_end hz hok who h1 h2 k _ _ (by omega)
  | succ d ih =>
    intro k i hi hk
    obtain ⟨k, rfl⟩ : ∃ q, k = q + 1 := ⟨k - 1, by omega⟩
    have hlt : i < l0.length := by omega
    have hm : toRcv l0[i] ∈ l0.map toRcv := List.mem_map_of_mem (List.getElem_mem hlt)
    obtain ⟨b1, b2, b3, b4, b5, _⟩ := rcv_bounds (ok_rcvs hok _ hm)
    have b6 := (most_bounds (ok_rcvs hok)).2.2 _ hm
    have ew : wrap64 (l0[i].f1.f1 + l0[i].f1.f2) = (toRcv l0[i]).top + (toRcv l0[i]).jit := b1
    have eo : l0[i].f4 = (toRcv l0[i]).opn := rfl
    have ee : l0[i].f6 = (toRcv l0[i]).every := rfl
    rw [foghornlaw24_BoundRises.l0, if_pos (by omega), if_pos (by omega), if_pos (by omega), rd_rcv hlt, ew, if_neg (by omega), if_neg (by omega), if_neg (by omega), w64s (by omega)]
    exact ih k (i + 1) (by omega) (by omega)
end
theorem boundRises_pure (l0 : List S41) (l1 : List S46) (a2 a3 b1 b2 b3 b4 : Int) (hz0 : cfgSzB l0 l1 = true) : foghornlaw24_BoundRises.f 8002 l0 l1 a2 a3 b1 b2 b3 b4 = some true := by
  have hz := sz_take hz0 6 6
  have hl : (l0.take 6).length ≤ 100 := by rw [List.length_take]; omega
  obtain ⟨p1, e1, g1, g1'⟩ := cyc_f b1 100 (by omega) (by omega)
  obtain ⟨p3, e3, g3, g3'⟩ := cyc_f b3 100 (by omega) (by omega)
  obtain ⟨p4, e4, g4, g4'⟩ := cyc_f b4 1000 (by omega) (by omega)
  unfold foghornlaw24_BoundRises.f
  rw [few_f, Option.bind_some]
  dsimp only
  rw [e1, e3, e4]
  generalize l0.take 6 = m0 at hz hl ⊢
  generalize l1.take 6 = m1 at hz ⊢
  rw [step_f hz, Option.bind_some]
  cases hok : Cfg.okB ⟨m0.map toRcv, m1.map toRte, a2, a3⟩
  · rw [if_neg (by show ¬ ((1 : Int) = 0); omega), alive24_f, Option.bind_some, if_pos rfl]
    rfl
  · obtain ⟨m_0, m_1, _⟩ := most_bounds (ok_rcvs hok)
    have hb := rng_of (okB_parts hok).2.2.2.2.2.2.2
    dsimp only at hb
    rw [if_pos (by rfl), w64 (x := 1 + p1) (by omega) (by omega), w64 (x := 1 + p1 + 1) (by omega) (by omega), w64 (x := p4 + 1) (by omega) (by omega), w64 (x := 1 + p3) (by omega) (by omega)]
    have q0 : 0 ≤ p1 * mostL (m0.map toRcv) := Int.mul_nonneg g1 m_0
    have q1 : p1 * mostL (m0.map toRcv) ≤ 100 * 2000000000 := Int.mul_le_mul (by omega) m_1 m_0 (by omega)
    have q2 : (1 + p1 + 1 - 1) * mostL (m0.map toRcv) = p1 * mostL (m0.map toRcv) + mostL (m0.map toRcv) := by
      rw [show 1 + p1 + 1 - 1 = p1 + 1 by omega, Int.add_mul, Int.one_mul]
    rw [alone_f hz hok (K := 1 + p1) (by omega) (by omega), Option.bind_some, alone_f hz hok (K := 1 + p1 + 1) (by omega) (by omega), Option.bind_some, life_f hz hok g4 (by omega), Option.bind_some, life_f hz hok (off := p4 + 1) (by omega) (by omega), Option.bind_some]
    dsimp only
    rw [q2, show 1 + p1 - 1 = p1 by omega, if_pos rfl, if_pos rfl, if_pos rfl, if_pos rfl]
    rw [w64 (x := 1 + (p1 * mostL (m0.map toRcv) + mostL (m0.map toRcv)) - (1 + p1 * mostL (m0.map toRcv))) (by omega) (by omega), if_pos (by show _ = mostL (m0.map toRcv); omega), w64 (x := a3 + (p4 + 1) - (a3 + p4)) (by omega) (by omega), if_pos (by omega), alive24_f, Option.bind_some, foghornlaw24_BoundRises.j0, if_neg (by simp)]
    exact rises_l hz hok hl b2 (by omega) (by omega) m0.length 8001 0 (by omega) (by omega)
end Go.Proofs.YtejdpjmfnpbadaaGreatDoorQ.P
namespace Go.Proofs.YtejdpjmfnpbadaaGreatDoor
open Go.RowKit Go.ChangeShapes Go.WideShapes Go.ChangeAt Go.Proofs.YtejdpjmfnpbadaaGreatDoorW.PrintWords
def Opens (P : Program) (W : World) (t : TypeId) {α : Type} (d : Kd α) (Q : α → Prop) : Prop :=
  ∀ {H : Type} (enc : TypeId × Value → H) (base : Nat) (spare : Nat → Bool) (held : Bool) (fuel : Nat) (cs : List Value) (y : DataW H × List MemPlace), DataW.trod enc P W base spare held fuel t cs = some y → cs.length = d.sz → ∃ x, d.K W x cs ∧ Q x
def OpensL (P : Program) (W : World) (fs : List Field) (o : Nat) {α : Type} (d : Kd α) (Q : α → Prop) : Prop :=
  ∀ {H : Type} (enc : TypeId × Value → H) (base : Nat) (spare : Nat → Bool) (held : Bool) (cs : List Value), (∀ (j : Nat) (f : Field), fs[j]? = some f → ∃ fuel y, DataW.trod enc P W base spare held fuel f.type ((cs.drop (f.offset - o)).take (P.cellsOf f.type)) = some y) → cs.length = d.sz → ∃ x, d.K W x cs ∧ Q x
section
variable {P : Program} {W : World} {t e : TypeId} {α β : Type} {d : Kd α} {Q : α → Prop}
theorem opens_int {k : IntKind} (ht : P.underlying t = some (.int k)) : Opens P W t (Kd.int k) (fun n => (Lit.int k n).wf = true) := by
  intro H enc base spare held fuel cs y h _
  obtain ⟨n, rfl, _, hw⟩ := DataW.trod_int ht h
  exact ⟨n, rfl, hw⟩
theorem opens_string (ht : P.underlying t = some .string) : Opens P W t Kd.string (fun s => s.size ≤ maxLen) := by
  intro H enc base spare held fuel cs y h _
  obtain ⟨n, rfl, _, hw⟩ := DataW.trod_string ht h
  exact ⟨n, rfl, hw⟩
theorem opens_C (hc : P.cellsOf e = d.sz) (h0 : 0 < d.sz) (h : Opens P W e d Q) {H : Type} {enc : TypeId × Value → H} {base : Nat} {spare : Nat → Bool} {held : Bool} {p : List MemPlace} {dd : DataW H} (ht : P.underlying t = some (.slice e)) {v : Value} (ht2 : DataW.Trod enc P W base spare held t v dd p) (hv : ∃ a l c, v = .slice a l c) :
    ∃ (xs : List α) (A : Option Addr) (c : Nat), v = .slice A xs.length c ∧ xs.length ≤ c ∧ d.C W A xs.length xs ∧ ∀ x ∈ xs, Q x := by
  obtain ⟨n, cells, hS, hel⟩ := sl_of_trod ht hc h0 ht2 hv
  have hx : ∀ i, i < n → ∃ x, d.K W x ((cells.drop (i * d.sz)).take d.sz) ∧ Q x := by
    intro i hi
    obtain ⟨f, y, hy⟩ := hel i hi
    refine h enc base spare held f _ y hy ?_
    have hle : i * d.sz + d.sz ≤ n * d.sz := by rw [← Nat.succ_mul]; exact Nat.mul_le_mul_right _ hi
    rw [List.length_take, List.length_drop, hS.1]
    omega
  have hxs : ∀ m, m ≤ n → ∃ xs : List α, xs.length = m ∧ ∀ i x, xs[i]? = some x → d.K W x ((cells.drop (i * d.sz)).take d.sz) ∧ Q x := by
    intro m
    induction m with
    | zero => exact fun _ => ⟨[], rfl, fun i x hx => by simp at hx⟩
    | succ m ih =>
      intro hm
      obtain ⟨xs, hl, hq⟩ := ih (by omega)
      obtain ⟨x, hk, hqx⟩ := hx m (by omega)
      refine ⟨xs ++ [x], by simp [hl], fun i y hy => ?_⟩
      rcases Nat.lt_or_ge i xs.length with hi | hi
      · rw [List.getElem?_append_left hi] at hy
        exact hq i y hy
      · rw [List.getElem?_append_right hi] at hy
        obtain ⟨h1, h2⟩ := List.getElem?_eq_some_iff.1 hy
        have hi2 : i = m := by simp at h1; omega
        subst hi2
        simp at h2
        subst h2
        exact ⟨hk, hqx⟩
  obtain ⟨xs, hl, hq⟩ := hxs n (Nat.le_refl _)
  obtain ⟨a, c, hv2, hnc, hnm⟩ := hS.form
  subst hv2
  subst hl
  refine ⟨xs, a, c, rfl, hnc, ⟨rfl, by unfold maxLen at hnm; omega, fun hp => ?_⟩, fun x hx => ?_⟩
  · obtain ⟨b, o, rfl, _, hcell⟩ := hS.at hp
    refine ⟨_, rfl, fun j p hj => ⟨_, ?_, (hq j p hj).1, fun i u hu => ?_⟩⟩
    · exact d.K_len (hq j p hj).1
    · rw [List.getElem?_take] at hu
      split at hu
      · rw [List.getElem?_drop] at hu
        rw [add_off]
        exact hcell _ _ hu
      · cases hu
  · obtain ⟨i, hi, rfl⟩ := List.mem_iff_getElem.1 hx
    exact (hq i _ (List.getElem?_eq_getElem hi)).2
theorem opens_slice (ht : P.underlying t = some (.slice e)) (hc : P.cellsOf e = d.sz) (h0 : 0 < d.sz) (h : Opens P W e d Q) : Opens P W t (Kd.slice e d) (fun xs => ∀ x ∈ xs, Q x) := by
  intro H enc base spare held fuel cs y hy hl
  obtain ⟨u, rfl⟩ : ∃ u, cs = [u] := by
    match cs, hl with
    | [u], _ => exact ⟨u, rfl⟩
  obtain ⟨hv, h2⟩ := slice_of_trod ht hy
  obtain ⟨xs, A, c, rfl, h3, h4, h5⟩ := opens_C hc h0 h ht h2 hv
  exact ⟨xs, ⟨A, c, rfl, h3, h4⟩, h5⟩
theorem opensL_one {f : Field} (h : Opens P W f.type d Q) (hc : P.cellsOf f.type = d.sz) : OpensL P W [f] f.offset d Q := by
  intro H enc base spare held cs hf hl
  obtain ⟨fuel, y, hy⟩ := hf 0 f rfl
  rw [Nat.sub_self, List.drop_zero, hc, List.take_of_length_le (by omega)] at hy
  exact h enc base spare held fuel cs y hy hl
theorem opensL_cons {f : Field} {fs : List Field} {b : Kd β} {Qb : β → Prop} (h : Opens P W f.type d Q) (hc : P.cellsOf f.type = d.sz) (hs : OpensL P W fs (f.offset + d.sz) b Qb) (ho : (fs.all fun g => decide (f.offset + d.sz ≤ g.offset)) = true) :
    OpensL P W (f :: fs) f.offset (Kd.pair d b) (fun x => Q x.1 ∧ Qb x.2) := by
  intro H enc base spare held cs hf hl
  have hl' : cs.length = d.sz + b.sz := hl
  obtain ⟨fuel, y, hy⟩ := hf 0 f rfl
  rw [Nat.sub_self, List.drop_zero, hc] at hy
  obtain ⟨x, hk, hq⟩ := h enc base spare held fuel _ y hy (by rw [List.length_take]; omega)
  obtain ⟨z, hkz, hqz⟩ := hs enc base spare held (cs.drop d.sz) (fun j g hg => by
    obtain ⟨fuel, y, hy⟩ := hf (j + 1) g (by simpa using hg)
    have hog : f.offset + d.sz ≤ g.offset := by simpa using List.all_eq_true.1 ho g (List.mem_of_getElem? hg)
    refine ⟨fuel, y, ?_⟩
    rw [List.drop_drop, show d.sz + (g.offset - (f.offset + d.sz)) = g.offset - f.offset by omega]
    exact hy) (by rw [List.length_drop]; omega)
  exact ⟨(x, z), ⟨_, _, (List.take_append_drop d.sz cs).symm, hk, hkz⟩, hq, hqz⟩
theorem opens_struct {fs : Array Field} (ht : P.underlying t = some (.struct fs)) (h : OpensL P W fs.toList 0 d Q) : Opens P W t d Q := by
  intro H enc base spare held fuel cs y hy hl
  obtain ⟨xs, n, _, _, _, hlx, hx⟩ := DataW.trod_struct ht hy
  refine h enc base spare held cs (fun j f hf => ?_) hl
  have hf' : fs[j]? = some f := by simpa using hf
  have h1 := hx j f hf'
  have hj : j < xs.length := by rw [hlx]; exact (Array.getElem?_eq_some_iff.1 hf').1
  rw [List.getElem?_eq_getElem hj] at h1
  exact ⟨n, _, h1⟩
theorem opens_iso {f : β → α} {g : α → β} (hfg : ∀ x, f (g x) = x) (h : Opens P W t d Q) : Opens P W t (Kd.iso d f) (fun y => Q (f y)) := by
  intro H enc base spare held fuel cs y hy hl
  obtain ⟨x, hk, hq⟩ := h enc base spare held fuel cs y hy hl
  exact ⟨g x, (by show d.K W (f (g x)) cs; rw [hfg]; exact hk), (by show Q (f (g x)); rw [hfg]; exact hq)⟩
theorem Opens.imp {Q' : α → Prop} (h : Opens P W t d Q) (hq : ∀ x, Q x → Q' x) : Opens P W t d Q' := by
  intro H enc base spare held fuel cs y hy hl
  obtain ⟨x, hk, hx⟩ := h enc base spare held fuel cs y hy hl
  exact ⟨x, hk, hq x hx⟩
theorem arg_struct (h : Opens P W t d Q) {fs : Array Field} (hc : P.cellsOf t = d.sz) {H : Type} {enc : TypeId × Value → H} {r : Reach} {base bb : Nat} {spare : Nat → Bool} {held : Bool} {p : List MemPlace} {dd : DataW H} (ht : P.underlying t = some (.struct fs)) {v : Value} (hv : Value.okWide P W r bb t v) (h2 : DataW.Trod enc P W base spare held t v dd p) :
    ∃ x : α, (∃ cs : List Value, v = .agg cs.toArray ∧ d.K W x cs) ∧ Q x := by
  obtain ⟨cs, rfl, hsz⟩ := okWide_struct ht hv
  obtain ⟨fuel, hf⟩ := h2
  obtain ⟨x, hk, hq⟩ := h enc base spare held fuel cs.toList _ hf (by simpa [hc] using hsz)
  exact ⟨x, ⟨cs.toList, by simp, hk⟩, hq⟩
end
end Go.Proofs.YtejdpjmfnpbadaaGreatDoor
namespace Go.Proofs.YtejdpjmfnpbadaaGreatDoorQ.P
open Go.RowKit Go.ChangeShapes Go.WideShapes Go.ChangeAt Go.Proofs.YtejdpjmfnpbadaaGreatDoorW.PrintWords Go.Proofs.YtejdpjmfnpbadaaGreatDoor
section
variable {W : World} {H : Type} {enc : TypeId × Value → H} {r : Reach} {base bb : Nat} {spare : Nat → Bool} {held : Bool} {p : List MemPlace} {dd : DataW H} {v : Value}
structure CfgA where
  l : List S41
  t : List S46
  a : Int
  b : Int
def CfgV (v : Value) (w : World) (c : CfgA) : Prop :=
  (∃ (A0 : Option Addr) (c0 : Nat) (A1 : Option Addr) (c1 : Nat), v = .agg #[.slice A0 c.l.length c0, .slice A1 c.t.length c1, .int .i64 c.a, .int .i64 c.b] ∧ c.l.length ≤ c0 ∧ Kd.C k41 w A0 c.l.length c.l ∧ c.t.length ≤ c1 ∧ Kd.C k46 w A1 c.t.length c.t) ∧ cfgSzB c.l c.t = true
theorem c_len {α : Type} {d : Kd α} {e : Nat} {xs : List α} {cs : List Value} (h : (Kd.slice e d).K W xs cs) : xs.length ≤ maxLen := by
  obtain ⟨A, c, _, _, hC⟩ := h
  have := hC.2.1
  unfold maxLen
  omega
theorem opens_len {P : Program} {t : TypeId} {α : Type} {d : Kd α} {e : Nat} {Q : List α → Prop} (h : Opens P W t (Kd.slice e d) Q) : Opens P W t (Kd.slice e d) (fun xs => xs.length ≤ maxLen ∧ Q xs) := by
  intro H enc base spare held fuel cs y hy hl
  obtain ⟨x, hk, hq⟩ := h enc base spare held fuel cs y hy hl
  exact ⟨x, hk, c_len hk, hq⟩
theorem opensI (W : World) : Opens Tryz.prog W 3 (Kd.int .i64) (fun n => (Lit.int .i64 n).wf = true) := opens_int Tryz.underlying3
theorem anyO {P : Program} {W : World} {t : TypeId} {α : Type} {d : Kd α} {Q : α → Prop} (h : Opens P W t d Q) : Opens P W t d (fun _ => True) := h.imp fun _ _ => trivial
theorem opensIT (W : World) : Opens Tryz.prog W 3 (Kd.int .i64) (fun _ => True) := anyO (opensI W)
theorem opensS (W : World) : Opens Tryz.prog W 9 Kd.string (fun s => s.size ≤ maxLen) := opens_string Tryz.underlying9
theorem opensMatB (W : World) : Opens Tryz.prog W 173 k173 (fun x => (Lit.int .i64 x.f0).wf = true ∧ x.f1.size ≤ maxLen ∧ x.f2.size ≤ maxLen) :=
  opens_iso (g := fun x => ⟨x.1, x.2.1, x.2.2⟩) (fun _ => rfl) (opens_struct Tryz.underlying173 (opensL_cons (opens_int Tryz.underlying3) (by kernel_rfl) (opensL_cons (opens_string Tryz.underlying9) (by kernel_rfl) (opensL_one (opens_string Tryz.underlying9) (by kernel_rfl)) (by rfl)) (by rfl)))
theorem opensBack (W : World) : Opens Tryz.prog W 39 k39 (fun _ => True) :=
  anyO (opens_iso (g := fun x => ⟨x.1, x.2.1, x.2.2⟩) (fun _ => rfl) (opens_struct Tryz.underlying39 (opensL_cons (opensIT W) (by kernel_rfl) (opensL_cons (opensIT W) (by kernel_rfl) (opensL_one (opensIT W) (by kernel_rfl)) (by rfl)) (by rfl))))
set_option maxRecDepth 100000 in
theorem opensRcv (W : World) : Opens Tryz.prog W 41 k41 (fun x => x.f0.size ≤ maxLen) :=
  Opens.imp (opens_iso (g := fun x => ⟨x.1, x.2.1, x.2.2.1, x.2.2.2.1, x.2.2.2.2.1, x.2.2.2.2.2.1, x.2.2.2.2.2.2⟩) (fun _ => rfl) (opens_struct Tryz.underlying41 (opensL_cons (opensS W) (by kernel_rfl) (opensL_cons (opensBack W) (by kernel_rfl) (opensL_cons (opensIT W) (by kernel_rfl) (opensL_cons (opensIT W) (by kernel_rfl) (opensL_cons (opensIT W) (by kernel_rfl) (opensL_cons (opensIT W) (by kernel_rfl) (opensL_one (opensIT W) (by kernel_rfl)) (by rfl)) (by rfl)) (by rfl)) (by rfl)) (by rfl)) (by rfl)))) fun _ h => h.1
set_option maxRecDepth 100000 in
theorem opensRte (W : World) : Opens Tryz.prog W 46 k46 (fun x => (x.f0.length ≤ maxLen ∧ ∀ k ∈ x.f0, (Lit.int .i64 k).wf = true) ∧ ∀ m ∈ x.f1, (Lit.int .i64 m.f0).wf = true ∧ m.f1.size ≤ maxLen ∧ m.f2.size ≤ maxLen) :=
  opens_iso (g := fun x => ⟨x.1, x.2⟩) (fun _ => rfl) (opens_struct Tryz.underlying46 (opensL_cons (opens_len (opens_slice Tryz.underlying43 (by kernel_rfl) (by decide) (opensI W))) (by kernel_rfl) (opensL_one (opens_slice Tryz.underlying44 (by kernel_rfl) (by decide) (opensMatB W)) (by kernel_rfl)) (by rfl)))
set_option maxRecDepth 100000 in
theorem opensCfg (W : World) : Opens Tryz.prog W 25 (Kd.pair (Kd.slice 41 k41) (Kd.pair (Kd.slice 46 k46) (Kd.pair (Kd.int .i64) (Kd.int .i64))))
    (fun (x : List S41 × List S46 × Int × Int) => (∀ r ∈ x.1, r.f0.size ≤ maxLen) ∧ (∀ t ∈ x.2.1, (t.f0.length ≤ maxLen ∧ ∀ k ∈ t.f0, (Lit.int .i64 k).wf = true) ∧ ∀ m ∈ t.f1, (Lit.int .i64 m.f0).wf = true ∧ m.f1.size ≤ maxLen ∧ m.f2.size ≤ maxLen) ∧ True ∧ True) :=
  opens_struct Tryz.underlying25 (opensL_cons (opens_slice Tryz.underlying22 (by kernel_rfl) (by decide) (opensRcv W)) (by kernel_rfl) (opensL_cons (opens_slice Tryz.underlying23 (by kernel_rfl) (by decide) (opensRte W)) (by kernel_rfl) (opensL_cons (opensIT W) (by kernel_rfl) (opensL_one (opensIT W) (by kernel_rfl)) (by rfl)) (by rfl)) (by rfl))
set_option maxRecDepth 100000 in
theorem argCfg (hv : Value.okWide Tryz.prog W r bb 25 v) (h2 : DataW.Trod enc Tryz.prog W base spare held 25 v dd p) : ∃ c : CfgA, CfgV v W c := by
  obtain ⟨⟨l, t, a, b⟩, ⟨cs, rfl, hk⟩, hq⟩ := arg_struct (opensCfg W) (by kernel_rfl) Tryz.underlying25 hv h2
  obtain ⟨_, _, rfl, ⟨A0, c0, rfl, h0, k0⟩, _, _, rfl, ⟨A1, c1, rfl, h1, k1⟩, _, _, rfl, rfl, rfl⟩ := hk
  refine ⟨⟨l, t, a, b⟩, ⟨A0, c0, A1, c1, rfl, h0, k0, h1, k1⟩, ?_⟩
  unfold cfgSzB
  rw [Bool.and_eq_true, List.all_eq_true, List.all_eq_true]
  refine ⟨fun x hx => decide_eq_true (hq.1 x hx), fun x hx => ?_⟩
  obtain ⟨⟨g1, g2⟩, g3⟩ := hq.2.1 x hx
  unfold rteSzB matsOkB matOkB
  rw [Bool.and_eq_true, Bool.and_eq_true, List.all_eq_true, List.all_eq_true]
  refine ⟨⟨fun m hm => ?_, decide_eq_true g1⟩, g2⟩
  obtain ⟨_, g4, g5⟩ := g3 m hm
  rw [decide_eq_true g4, decide_eq_true g5]
  rfl
end
end Go.Proofs.YtejdpjmfnpbadaaGreatDoorQ.P
namespace Go.Proofs.YtejdpjmfnpbadaaGreatDoorQ.P
open Go.RowKit Go.Proofs.YtejdpjmfnpbadaaGreatDoorW.PrintWords Go.Proofs.YtejdpjmfnpbadaaGreatDoor
theorem BoundRises_walk (v0 : Value) (c : CfgA) (a1 a2 a3 a4 : Int) (w : World) (hG : GOK w) (h0 : CfgV v0 w c) (h1 : (Lit.int .i64 a1).wf = true) (h2 : (Lit.int .i64 a2).wf = true) (h3 : (Lit.int .i64 a3).wf = true) (h4 : (Lit.int .i64 a4).wf = true) :
    Calls Tryz.prog 4 #[v0, .int .i64 a1, .int .i64 a2, .int .i64 a3, .int .i64 a4] w fun e w' => e = .returned (.bool true) ∧ Below w.heap.size w w' := by
  obtain ⟨⟨A0, c0, A1, c1, rfl, h0', k0, h1', k1⟩, hz⟩ := h0
  exact foghornlaw24_BoundRises.calls 8002 A0 c0 c.l A1 c1 c.t c.a c.b a1 a2 a3 a4 true w hG k0 h0' k1 h1' (boundRises_pure _ _ _ _ _ _ _ _ hz)
end Go.Proofs.YtejdpjmfnpbadaaGreatDoorQ.P
namespace Go.Proofs.YtejdpjmfnpbadaaGreatDoor
open Go
variable {H : Type} {enc : TypeId × Value → H}
theorem handed_and_shaped {a : Assume} {C : Checked} {os : Os} {f : FuncId} {fn : Func} {s : ChangeSpec} {conds : List PathCond} {apart fresh handsOn again : Bool} {X : World → Array Value → Prop}
    (hX : ∀ (w w' : World) (args : Array Value), w.heap = w'.heap → X w args → X w' args)
    (own : ownKnob C.prog.godebug = none) (started : os.Started) (noInit : C.prog.inits.idxOf? f = none) (hfn : C.prog.funcs[f]? = some fn)
    (witness : ∃ (w : World) (tape : Tape) (i : Input), w.os = os ∧ (w.forCall tape i).Shaped C.prog ∧ i.vars = [] ∧ Input.okWide C.prog (w.forCall tape i) .any w.heap.size f i ∧
      ((s.pre enc C.prog fn conds apart (w.forCall tape i).memory i.args ∧ X (w.forCall tape i).memory i.args) ∧ sizedMet enc C.prog fn (OpenSpec.ofChange s) apart (w.forCall tape i).memory i.args) ∧ a.holds C.prog (lone (Frame.enter C.prog f i.args .normal) [] (w.forCall tape i)))
    (contract : ∀ (W : World) (base : Nat) (args : Array Value) (ds gs : List (DataW H)) (before : List MemPlace),
      (∀ (j : Nat) t v, fn.params[j]? = some t → args[j]? = some v → Value.okWide C.prog W .any base t v) →
      DataW.Whole enc C.prog fn.params.toList s.vars apart W args.toList ds gs before →
      conds.all (PathCond.test C.prog ⟨fn.params.toList, ds, s.plain.varTypes C.prog, gs⟩) = true →
      (DataW.weightsEach C.prog (fn.params.toList ++ s.plain.varTypes C.prog) (ds ++ gs)).all (· ≤ reachBytes) = true → X W args → W.ShapedOpen C.prog →
      a.holds C.prog (lone (Frame.enter C.prog f args .normal) [] W) →
      Calls C.prog f args W fun e W' => ∃ v, e = .returned v ∧ s.post enc C.prog fn apart fresh handsOn again W args v W') :
    ReturnsInHanded a C os f .any (fun w args => (s.pre enc C.prog fn conds apart w args ∧ X w args) ∧ sizedMet enc C.prog fn (OpenSpec.ofChange s) apart w args) (s.post enc C.prog fn apart fresh handsOn again) := by
  refine returnsInHanded_of_calls own started noInit witness ?_
  intro w tape i _ hsh _ hok hpre hholds
  obtain ⟨_, _, _, fn', hfn', _, _, _, _, hval⟩ := hok
  have e : fn' = fn := Option.some.inj (hfn'.symm.trans hfn)
  subst e
  obtain ⟨⟨⟨ds, gs, before, hw, hc⟩, hx⟩, hz⟩ := hpre
  have hw' := DataW.Whole.of_heap (w' := w.forCall tape i) (by rfl) hw
  refine (contract (w.forCall tape i) w.heap.size i.args ds gs before hval hw' hc (hz.weights hw) (hX _ _ _ (by rfl) hx) hsh hholds).mono fun e W' ⟨v, he, hp⟩ => ?_
  subst he
  exact ChangeSpec.post_blind hp
end Go.Proofs.YtejdpjmfnpbadaaGreatDoor
namespace Go.Proofs.YtejdpjmfnpbadaaGreatDoor.boundRises
open Go.ChangeShapes Go.WideShapes Go.ChangeAt Go.WideMaps Go.WideElems Go.RowKit Go.Proofs.YtejdpjmfnpbadaaGreatDoorQ.P Go.Proofs.YtejdpjmfnpbadaaGreatDoorQ
open Go.ChangeMaps (open_string shut_string)
theorem own : ownKnob Tryz.prog.godebug = none := by kernel_rfl
theorem laidOut : laidOutB Tryz.prog = true := by kernel_rfl
def laidL : List (String × DataW Unit) := [("math/bits.deBruijn32tab", Rows.laid_math_bits_deBruijn32tab), ("math/bits.deBruijn64tab", Rows.laid_math_bits_deBruijn64tab), ("internal/strconv.uint64pow10", Rows.laid_internal_strconv_uint64pow10), ("unicode/utf8.acceptRanges", Rows.laid_unicode_utf8_acceptRanges), ("strconv.ErrRange", Rows.laid_strconv_ErrRange), ("strconv.ErrSyntax", Rows.laid_strconv_ErrSyntax), ("unicode/utf8.first", Rows.laid_unicode_utf8_first)]
theorem laid_met (os : Os) (args : Array Value) : laidMetH Tryz.prog laidL ((World.laidAll Tryz.prog os laidL).forCall (fun _ _ => 0) ⟨#[], args, []⟩).memory := by
  rw [MakeChecks.laidMetH_plain _ _ _ (by kernel_rfl)]; exact laidMet_laidAll _ (by kernel_rfl) (by kernel_rfl)
set_option maxRecDepth 100000 in
theorem starErr : "*" ++ "errors.errorString" = "*errors.errorString" := by decide
theorem rowErr (u : TypeId) (h : Tryz.prog.typeName? 3 u = some "*errors.errorString") : u = 320 := typeName_ptr_named (nm := "errors.errorString") (by rw [starErr]; kernel_rfl) (by kernel_rfl) (by decide) u (by rw [starErr]; exact h)
set_option maxRecDepth 100000 in
theorem gok_of {W : World} (h : laidMetH Tryz.prog laidL W) (hs : W.ShapedOpen Tryz.prog) : GOK W := by
  rw [MakeChecks.laidMetH_plain _ _ _ (by kernel_rfl)] at h
  have h00 := h
  obtain ⟨ps, ⟨g0, t0, cs0, f0, p0, q0, hg0, ht0, hv0, hd0, ⟨g1, t1, cs1, f1, p1, q1, hg1, ht1, hv1, hd1, ⟨g2, t2, cs2, f2, p2, q2, hg2, ht2, hv2, hd2, ⟨g3, t3, cs3, f3, p3, q3, hg3, ht3, hv3, hd3, ⟨g4, t4, cs4, f4, p4, q4, hg4, ht4, hv4, hd4, ⟨g5, t5, cs5, f5, p5, q5, hg5, ht5, hv5, hd5, ⟨g6, t6, cs6, f6, p6, q6, hg6, ht6, hv6, hd6, _, _⟩, _⟩, _⟩, _⟩, _⟩, _⟩, _⟩, _, _⟩ := h
  have k1 : Lib.TabIs Tryz.prog W "math/bits.deBruijn64tab" .u8 tab_math_bits_deBruijn64tab := by
    obtain rfl := Option.some.inj ((show Tryz.prog.globalNamed "math/bits.deBruijn64tab" = some 7 by kernel_rfl).symm.trans hg1)
    obtain rfl := Option.some.inj ((show (Tryz.prog.globals[7]?).map (·.type) = some 324 by kernel_rfl).symm.trans ht1)
    unfold Lib.TabIs
    have hd' := Lib.cells_of_tab (zs := tab_math_bits_deBruijn64tab) (k := .u8) Tryz.underlying324 Tryz.underlying5 (by kernel_rfl) (by kernel_rfl) hd1
    rw [hv1, ← hd']
  have k2 : Lib.TabIs Tryz.prog W "internal/strconv.uint64pow10" .u64 tab_internal_strconv_uint64pow10 := by
    obtain rfl := Option.some.inj ((show Tryz.prog.globalNamed "internal/strconv.uint64pow10" = some 3 by kernel_rfl).symm.trans hg2)
    obtain rfl := Option.some.inj ((show (Tryz.prog.globals[3]?).map (·.type) = some 308 by kernel_rfl).symm.trans ht2)
    unfold Lib.TabIs
    have hd' := Lib.cells_of_tab (zs := tab_internal_strconv_uint64pow10) (k := .u64) Tryz.underlying308 Tryz.underlying42 (by kernel_rfl) (by kernel_rfl) hd2
    rw [hv2, ← hd']
  have kmax : ∃ m, W.cell? ⟨0, 0, none⟩ = some (.int .i64 m) := Go.Proofs.cell_of_shapedOpen_int hs (of_decide_eq_true (by kernel_rfl)) (show ((begin Tryz.prog (fun _ _ => 0) default).world.heap[0]?).bind Obj.row? = some (#[.int .i64 0], 3) by kernel_rfl) rfl (by kernel_rfl) (by kernel_rfl) Tryz.underlying3
  have kerrsyntax : ∃ t p, W.cell? ⟨4, 0, none⟩ = some (.iface t p) := by
    obtain ⟨a, s, hv, _⟩ := laid_sentinel (tp := 320) (te := 322) (ts := 9) (laidMet.tail (laidMet.tail (laidMet.tail (laidMet.tail (laidMet.tail (h00)))))) (show Tryz.prog.globalNamed "strconv.ErrSyntax" = some 4 by kernel_rfl) (show (Tryz.prog.globals[4]?).map (·.type) = some 252 by kernel_rfl) Tryz.underlying252 rowErr Tryz.underlying320 Tryz.underlying322 rfl rfl Tryz.underlying9 (by kernel_rfl) (by kernel_rfl)
    have h0 := World.var?_cell (show Tryz.prog.globalNamed "strconv.ErrSyntax" = some 4 by kernel_rfl) hv 0
    exact ⟨_, _, by simpa using h0⟩
  have kerrrange : ∃ t p, W.cell? ⟨5, 0, none⟩ = some (.iface t p) := by
    obtain ⟨a, s, hv, _⟩ := laid_sentinel (tp := 320) (te := 322) (ts := 9) (laidMet.tail (laidMet.tail (laidMet.tail (laidMet.tail (h00))))) (show Tryz.prog.globalNamed "strconv.ErrRange" = some 5 by kernel_rfl) (show (Tryz.prog.globals[5]?).map (·.type) = some 252 by kernel_rfl) Tryz.underlying252 rowErr Tryz.underlying320 Tryz.underlying322 rfl rfl Tryz.underlying9 (by kernel_rfl) (by kernel_rfl)
    have h0 := World.var?_cell (show Tryz.prog.globalNamed "strconv.ErrRange" = some 5 by kernel_rfl) hv 0
    exact ⟨_, _, by simpa using h0⟩
  exact ⟨k1, k2, kmax, kerrsyntax, kerrrange, trivial⟩
set_option maxRecDepth 100000 in
theorem lifted (os : Os) (started : os.Started) (H : Type) (enc : TypeId × Value → H) :
    ReturnsInHanded {} Tryz.checked os 4 .any (fun w args => (Rows.boundRisesSpec.pre enc Tryz.prog Tryz.f4 [] false w args ∧ laidMetH Tryz.prog laidL w) ∧ sizedMet enc Tryz.prog Tryz.f4 (OpenSpec.ofChange Rows.boundRisesSpec) false w args) (Rows.boundRisesSpec.post enc Tryz.prog Tryz.f4 false true false false) := by
  refine handed_and_shaped (C := Tryz.checked) (X := fun w _ => laidMetH Tryz.prog laidL w) (fun _ _ _ hh h => h.of_heap hh) own started (by kernel_rfl) Tryz.func4
    (ChangeSpec.witness_shaped (enc := enc) (C := Tryz.checked) (os := os) (X := fun w _ => laidMetH Tryz.prog laidL w) false (World.laidAll Tryz.prog os laidL) #[.agg #[.slice none 0 0, .slice none 0 0, .int .i64 0, .int .i64 0], .int .i64 0, .int .i64 0, .int .i64 0, .int .i64 0] 8 (World.laidAll_os _ _ _) (World.shaped_of_ZipB (by kernel_rfl) (by kernel_rfl)) (by kernel_rfl) (by kernel_rfl) (by kernel_rfl) (laid_met os _)) ?_
  intro W base args ds gs before hval0 hW _ _ hL hSh _
  have hG := gok_of hL hSh
  have hval : ∀ (j : Nat) t v, Tryz.f4.params[j]? = some t → args[j]? = some v → Value.okWide Tryz.prog W .any base t v := hval0
  have hW' := hW
  obtain ⟨p, q, hA0, hV, rfl, hfz, hnd⟩ := hW
  have hA : DataW.TrodAll enc Tryz.prog W 0 (fun _ => true) true Tryz.f4.params.toList args.toList ds p := hA0
  rw [Tryz.params4] at hA hval
  obtain ⟨v0, vs0, d0, ds0, p0, q0, hargs, rfl, rfl, h0, r0⟩ := trodAll_cons hA
  obtain ⟨v1, vs1, d1, ds1, p1, q1, rfl, rfl, rfl, h1, r1⟩ := trodAll_cons r0
  obtain ⟨v2, vs2, d2, ds2, p2, q2, rfl, rfl, rfl, h2, r2⟩ := trodAll_cons r1
  obtain ⟨v3, vs3, d3, ds3, p3, q3, rfl, rfl, rfl, h3, r3⟩ := trodAll_cons r2
  obtain ⟨v4, vs4, d4, ds4, p4, q4, rfl, rfl, rfl, h4, r4⟩ := trodAll_cons r3
  obtain ⟨rfl, rfl, rfl⟩ := trodAll_nil r4
  obtain rfl : args = #[v0, v1, v2, v3, v4] := by cases args; simp_all
  obtain ⟨rfl, rfl⟩ := trodVars_none hV
  have lt0 : ∀ x ∈ p0, x.block < W.heap.size := by obtain ⟨m, hm⟩ := h0; exact DataW.trod_lt m _ _ _ hm
  have k0 := h0
  have lt1 : ∀ x ∈ p1, x.block < W.heap.size := by obtain ⟨m, hm⟩ := h1; exact DataW.trod_lt m _ _ _ hm
  have k1 := h1
  have lt2 : ∀ x ∈ p2, x.block < W.heap.size := by obtain ⟨m, hm⟩ := h2; exact DataW.trod_lt m _ _ _ hm
  have k2 := h2
  have lt3 : ∀ x ∈ p3, x.block < W.heap.size := by obtain ⟨m, hm⟩ := h3; exact DataW.trod_lt m _ _ _ hm
  have k3 := h3
  have lt4 : ∀ x ∈ p4, x.block < W.heap.size := by obtain ⟨m, hm⟩ := h4; exact DataW.trod_lt m _ _ _ hm
  have k4 := h4
  obtain ⟨a0, w0⟩ := argCfg (hval 0 25 v0 rfl rfl) h0
  obtain ⟨a1, rfl, rfl, rfl, w1⟩ := open_int Tryz.underlying3 (hval 1 3 v1 rfl rfl) h1
  obtain ⟨a2, rfl, rfl, rfl, w2⟩ := open_int Tryz.underlying3 (hval 2 3 v2 rfl rfl) h2
  obtain ⟨a3, rfl, rfl, rfl, w3⟩ := open_int Tryz.underlying3 (hval 3 3 v3 rfl rfl) h3
  obtain ⟨a4, rfl, rfl, rfl, w4⟩ := open_int Tryz.underlying3 (hval 4 3 v4 rfl rfl) h4
  clear hA0 hval0
  refine (BoundRises_walk v0 a0 a1 a2 a3 a4 W hG w0 w1 w2 w3 w4).mono fun e W' ⟨he, bel⟩ => ?_
  subst he
  exact ⟨_, rfl, _, _, _, [], _, [], hW', trodAll_mk1 (shut_bool Tryz.underlying4 _), (trodAll_cons_mk (Below.trod laidOut (by kernel_rfl) (of_decide_eq_true (by kernel_rfl)) k0 bel lt0) (trodAll_cons_mk (Below.trod laidOut (by kernel_rfl) (of_decide_eq_true (by kernel_rfl)) k1 bel lt1) (trodAll_cons_mk (Below.trod laidOut (by kernel_rfl) (of_decide_eq_true (by kernel_rfl)) k2 bel lt2) (trodAll_cons_mk (Below.trod laidOut (by kernel_rfl) (of_decide_eq_true (by kernel_rfl)) k3 bel lt3) (trodAll_cons_mk (Below.trod laidOut (by kernel_rfl) (of_decide_eq_true (by kernel_rfl)) k4 bel lt4) trodAll_mk0))))), rfl, bel.frame _, fun h => by cases h⟩
theorem over : Rows.BoundRisesSaid :=
  OpenClaim.holds_of_wide 4 Tryz.f4 rfl rfl rfl rfl rfl rfl rfl ⟨rfl, rfl, rfl, rfl, rfl⟩ rfl rfl rfl rfl rfl (by kernel_rfl) Tryz.func4 (by kernel_rfl)
    (of_decide_eq_true (by kernel_rfl)) (by unfold Func.isWrapper; first | (rw [if_pos (by decide +kernel)]; kernel_rfl) | (rw [if_neg (by decide +kernel)]; exact ⟨rfl, rfl⟩))
    (fun os started H enc _ => lifted os started H enc)
end Go.Proofs.YtejdpjmfnpbadaaGreatDoor.boundRises
namespace Go.Proofs.YtejdpjmfnpbadaaGreatDoor
theorem boundRises_holds : Rows.BoundRisesCardSaid :=
  Claim7.holds_tied_plain_at .later [] [.data, .data, .data, .data, .sentinel, .sentinel, .pinned] true (true, "9f7c8d4ed5b2bdafecac772380d7baa63e311e3db5aef929390f112c2e770879") true boundRises.over (fun _ h => by cases h) (by kernel_rfl) (fun _ h => by cases h) boundRises_row_tie rfl ⟨rfl, rfl⟩ (by kernel_rfl) rfl
    (fun f fn hf hfn => by
      obtain rfl : f = 4 := Option.some.inj ((show Tryz.prog.funcNamed "foghorn/foghornlaw24.BoundRises" = some 4 by kernel_rfl).symm.trans hf) |>.symm
      obtain rfl : fn = Tryz.f4 := (Option.some.inj (Tryz.func4.symm.trans hfn)).symm
      exact ⟨by kernel_rfl, fun j t ht => by
        rw [Tryz.params4] at ht
        have hm : t ∈ [25, 3, 3, 3, 3] := by simpa using Array.mem_of_getElem? ht
        have hall : ([25, 3, 3, 3, 3].all fun u => !Tryz.prog.wantsStandIn u) = true := by kernel_rfl
        exact (show Tryz.prog.wantsStandIn t = false by simpa using List.all_eq_true.1 hall t hm)⟩)
    (by kernel_rfl)
#print axioms boundRises_holds
end Go.Proofs.YtejdpjmfnpbadaaGreatDoor
