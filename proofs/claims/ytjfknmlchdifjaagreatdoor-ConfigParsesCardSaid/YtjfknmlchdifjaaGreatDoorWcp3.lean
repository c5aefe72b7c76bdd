/- Part 3 of a proof: contracts and plain laws of what the statement reaches. No condition. -/
import Derived.Maps.OwnOps
import Derived.Maps.Views
import Derived.WalkKit
import Derived.Carry
import Derived.Test.YtjfknmlchdifjaaGreatDoorWcp1
import Derived.Test.YtjfknmlchdifjaaGreatDoorWcp2
set_option linter.unusedVariables false
set_option linter.unusedSimpArgs false
namespace Go.Proofs.YtjfknmlchdifjaaGreatDoorQ.P
open Go.RowKit Go.Proofs.YtjfknmlchdifjaaGreatDoorW.PrintWords Go.Proofs.YtjfknmlchdifjaaGreatDoorW.PrintLast Go.Proofs.YtjfknmlchdifjaaGreatDoorW.PrintMore
attribute [local go_sem] max2_int min2_int max_two min_two max_three min_three max_four min_four
def wire_Asked.f (a0 : ByteArray) : Option (Int × ByteArray × ByteArray × Int) := (strings_IndexAny.f a0 (⟨#[61, 33, 94, 63]⟩ : ByteArray)).bind fun t341 => (if t341 < 0 then (some (0, (⟨#[]⟩ : ByteArray), (⟨#[]⟩ : ByteArray), 13)) else (if 0 ≤ t341 then (if t341 ≤ (a0.size : Int) then (if 0 ≤ (wrap64 (t341 + 1)) then (if (wrap64 (t341 + 1)) ≤ (a0.size : Int) then (if t341 < (a0.size : Int) then (if (wrap32 (bt a0 t341)) = 61 then ((label_Matcher.f 0 (a0.extract 0 (t341 : Int).toNat) (a0.extract ((wrap64 (t341 + 1)) : Int).toNat a0.size)).bind fun t343 => (if t343 = true then (some (0, a0.extract 0 (t341 : Int).toNat, a0.extract ((wrap64 (t341 + 1)) : Int).toNat a0.size, 0)) else (some (0, (⟨#[]⟩ : ByteArray), (⟨#[]⟩ : ByteArray), 13)))) else (if (wrap32 (bt a0 t341)) = 33 then ((label_Matcher.f 1 (a0.extract 0 (t341 : Int).toNat) (a0.extract ((wrap64 (t341 + 1)) : Int).toNat a0.size)).bind fun t344 => (if t344 = true then (some (1, a0.extract 0 (t341 : Int).toNat, a0.extract ((wrap64 (t341 + 1)) : Int).toNat a0.size, 0)) else (some (0, (⟨#[]⟩ : ByteArray), (⟨#[]⟩ : ByteArray), 13)))) else (if (wrap32 (bt a0 t341)) = 94 then ((label_Matcher.f 2 (a0.extract 0 (t341 : Int).toNat) (a0.extract ((wrap64 (t341 + 1)) : Int).toNat a0.size)).bind fun t345 => (if t345 = true then (some (2, a0.extract 0 (t341 : Int).toNat, a0.extract ((wrap64 (t341 + 1)) : Int).toNat a0.size, 0)) else (some (0, (⟨#[]⟩ : ByteArray), (⟨#[]⟩ : ByteArray), 13)))) else ((label_Matcher.f 3 (a0.extract 0 (t341 : Int).toNat) (a0.extract ((wrap64 (t341 + 1)) : Int).toNat a0.size)).bind fun t346 => (if t346 = true then (some (3, a0.extract 0 (t341 : Int).toNat, a0.extract ((wrap64 (t341 + 1)) : Int).toNat a0.size, 0)) else (some (0, (⟨#[]⟩ : ByteArray), (⟨#[]⟩ : ByteArray), 13))))))) else (none)) else (none)) else (none)) else (none)) else (none)))
def wire_Asked.T4 : Bool × List (List Nat × List Nat) := (true, [([], []), ([], []), ([0, 1], [0, 1]), ([], []), ([], []), ([4], [4]), ([3, 5], [3, 5]), ([2, 6], [2, 6]), ([], []), ([8, 7, 0, 1, 2, 3, 4, 5, 6, 7, 8], [7, 8])])
def wire_Asked.B4 : List Nat := [0, 0, 3, 0, 0, 16, 56, 127, 0, 511]
theorem wire_Asked.tab4 : rtab .any (opsOf Tryz.f12 4) = wire_Asked.T4 := by kernel_rfl
theorem wire_Asked.bits4 : waitsOk wire_Asked.T4.2 wire_Asked.B4 = true := by kernel_rfl
set_option maxHeartbeats 8000000 in
set_option maxRecDepth 100000 in
theorem wire_Asked.calls (a0 : ByteArray) (r1 : Int) (r2 : ByteArray) (r3 : ByteArray) (r4 : Int) (w : World) (h : wire_Asked.f a0 = some (r1, r2, r3, r4)) :
  Calls Tryz.prog 12 #[.string a0] w fun e w' => e = .returned (.tuple #[.agg #[.int .i64 r1, .string r2, .string r3], .int .i64 r4]) ∧ Below w.heap.size w w' := by
 have hu32 := Tryz.underlying32
 have HB := aA (Below.refl w.heap.size w)
 have H : ((strings_IndexAny.f a0 (⟨#[61, 33, 94, 63]⟩ : ByteArray)).bind fun t341 => (if t341 < 0 then (some (0, (⟨#[]⟩ : ByteArray), (⟨#[]⟩ : ByteArray), 13)) else (if 0 ≤ t341 then (if t341 ≤ (a0.size : Int) then (if 0 ≤ (wrap64 (t341 + 1)) then (if (wrap64 (t341 + 1)) ≤ (a0.size : Int) then (if t341 < (a0.size : Int) then (if (wrap32 (bt a0 t341)) = 61 then ((label_Matcher.f 0 (a0.extract 0 (t341 : Int).toNat) (a0.extract ((wrap64 (t341 + 1)) : Int).toNat a0.size)).bind fun t343 => (if t343 = true then (some (0, a0.extract 0 (t341 : Int).toNat, a0.extract ((wrap64 (t341 + 1)) : Int).toNat a0.size, 0)) else (some (0, (⟨#[]⟩ : ByteArray), (⟨#[]⟩ : ByteArray), 13)))) else (if (wrap32 (bt a0 t341)) = 33 then ((label_Matcher.f 1 (a0.extract 0 (t341 : Int).toNat) (a0.extract ((wrap64 (t341 + 1)) : Int).toNat a0.size)).bind fun t344 => (if t344 = true then (some (1, a0.extract 0 (t341 : Int).toNat, a0.extract ((wrap64 (t341 + 1)) : Int).toNat a0.size, 0)) else (some (0, (⟨#[]⟩ : ByteArray), (⟨#[]⟩ : ByteArray), 13)))) else (if (wrap32 (bt a0 t341)) = 94 then ((label_Matcher.f 2 (a0.extract 0 (t341 : Int).toNat) (a0.extract ((wrap64 (t341 + 1)) : Int).toNat a0.size)).bind fun t345 => (if t345 = true then (some (2, a0.extract 0 (t341 : Int).toNat, a0.extract ((wrap64 (t341 + 1)) : Int).toNat a0.size, 0)) else (some (0, (⟨#[]⟩ : ByteArray), (⟨#[]⟩ : ByteArray), 13)))) else ((label_Matcher.f 3 (a0.extract 0 (t341 : Int).toNat) (a0.extract ((wrap64 (t341 + 1)) : Int).toNat a0.size)).bind fun t346 => (if t346 = true then (some (3, a0.extract 0 (t341 : Int).toNat, a0.extract ((wrap64 (t341 + 1)) : Int).toNat a0.size, 0)) else (some (0, (⟨#[]⟩ : ByteArray), (⟨#[]⟩ : ByteArray), 13))))))) else (none)) else (none)) else (none)) else (none)) else (none)))) = some (r1, r2, r3, r4) := h
 clear h
 replace H := Option.bind_eq_some_iff.mp H
 obtain ⟨t341, A20, H⟩ := H
 replace H : (if t341 < 0 then (some (0, (⟨#[]⟩ : ByteArray), (⟨#[]⟩ : ByteArray), 13)) else (if 0 ≤ t341 then (if t341 ≤ (a0.size : Int) then (if 0 ≤ (wrap64 (t341 + 1)) then (if (wrap64 (t341 + 1)) ≤ (a0.size : Int) then (if t341 < (a0.size : Int) then (if (wrap32 (bt a0 t341)) = 61 then ((label_Matcher.f 0 (a0.extract 0 (t341 : Int).toNat) (a0.extract ((wrap64 (t341 + 1)) : Int).toNat a0.size)).bind fun t343 => (if t343 = true then (some (0, a0.extract 0 (t341 : Int).toNat, a0.extract ((wrap64 (t341 + 1)) : Int).toNat a0.size, 0)) else (some (0, (⟨#[]⟩ : ByteArray), (⟨#[]⟩ : ByteArray), 13)))) else (if (wrap32 (bt a0 t341)) = 33 then ((label_Matcher.f 1 (a0.extract 0 (t341 : Int).toNat) (a0.extract ((wrap64 (t341 + 1)) : Int).toNat a0.size)).bind fun t344 => (if t344 = true then (some (1, a0.extract 0 (t341 : Int).toNat, a0.extract ((wrap64 (t341 + 1)) : Int).toNat a0.size, 0)) else (some (0, (⟨#[]⟩ : ByteArray), (⟨#[]⟩ : ByteArray), 13)))) else (if (wrap32 (bt a0 t341)) = 94 then ((label_Matcher.f 2 (a0.extract 0 (t341 : Int).toNat) (a0.extract ((wrap64 (t341 + 1)) : Int).toNat a0.size)).bind fun t345 => (if t345 = true then (some (2, a0.extract 0 (t341 : Int).toNat, a0.extract ((wrap64 (t341 + 1)) : Int).toNat a0.size, 0)) else (some (0, (⟨#[]⟩ : ByteArray), (⟨#[]⟩ : ByteArray), 13)))) else ((label_Matcher.f 3 (a0.extract 0 (t341 : Int).toNat) (a0.extract ((wrap64 (t341 + 1)) : Int).toNat a0.size)).bind fun t346 => (if t346 = true then (some (3, a0.extract 0 (t341 : Int).toNat, a0.extract ((wrap64 (t341 + 1)) : Int).toNat a0.size, 0)) else (some (0, (⟨#[]⟩ : ByteArray), (⟨#[]⟩ : ByteArray), 13))))))) else (none)) else (none)) else (none)) else (none)) else (none))) = some (r1, r2, r3, r4) := H
 have A2 := aA A20
 clear A20
 by_cases c3 : t341 < 0
 ·rw [if_pos c3] at H
  have c3b0 : decide (t341 < 0) = true := decide_eq_true c3
  clear c3
  simp only [Option.some.injEq, Prod.mk.injEq] at H
  obtain ⟨rfl, rfl, rfl, rfl⟩ := H
  go_enter Tryz.func12, Tryz.ntmps12
  go_wp2_with (first | ((with_reducible refine gate_dst (N := 2) rfl ?_); refine box_event ?hg (N := 2) ?hd (cs := #[.int .i64 0, .string (⟨#[]⟩ : ByteArray), .string (⟨#[]⟩ : ByteArray)]) (t := 32) ?hr ?_; (case hd => rfl); (case hg => rfl); (case hr => first | (go_simp; done) | (go_simp; rfl)); intro gb340 hg w4 hbox hb; have n0_ := aA (below_step mB hb); have n1_ := aA (hbox); have n2_ := aA ((bZ hg mB)); have n3_ := aA ((bZ hg mB)); clear HB; have HB := n0_; have BK340 := n1_; have GW340 := n2_; have GE340 := n3_; clear n0_ n1_ n2_ n3_ hb hbox hg) | ((with_reducible refine gate_callee (f := 40) rfl ?_); refine goesL_ (some 7) rfl rfl Tryz.func40 (by kernel_rfl) rfl #[.string a0, .string (⟨#[61, 33, 94, 63]⟩ : ByteArray)] rfl mS ?_; (with_reducible refine (strings_IndexAny.calls a0 (⟨#[61, 33, 94, 63]⟩ : ByteArray) t341 _ A2.out).mono ?_); rintro e w5 ⟨rfl, hb⟩; refine ⟨_, rfl, ?_⟩; have n0_ := aA (bB BK340.out hb); have n1_ := aA (below_step (mD1 GE340.out) hb); clear BK340 HB; have BK340 := n0_; have HB := n1_; clear n0_ n1_; (try clear hb); (try clear hb2); (try clear hk); (try clear hi); obtain ⟨hcz6_0, hcz6_1, hcz6_2⟩ := bC3 BK340.out; obtain ⟨hfz6_0, hfz6_1, hfz6_2⟩ := bF3 BK340.out))
  refine bodyPost_ret (results_ct rfl _ _ gb340 32 #[.int .i64 0, .string (⟨#[]⟩ : ByteArray), .string (⟨#[]⟩ : ByteArray)] (0, 0) _ rfl (by (with_reducible repeat (first | refine blk_drewN ?_ _ | refine blk_drew ?_ | refine blk_alloc ?_ _)); have h_ := BK340.out; exact pK 2 (pK 1 (pK 0 (h_)))) Tryz.underlying32 rfl (by kernel_rfl)) rfl ?_
  exact ⟨by first | rfl | (simp [errW_none, errW_some] <;> rfl) | (simp [*, errW_none, errW_some] <;> rfl), by repeat (first | (with_reducible first | exact HB.out | apply below_alloc | apply pw_below_drewN | apply below_drew1 | refine below_set ?_ GE340.out) | exact HB.out)⟩
 ·rw [if_neg c3] at H
  have c3b0 : decide (t341 < 0) = false := decide_eq_false c3
  clear c3
  by_cases c7 : 0 ≤ t341
  ·rw [if_pos c7] at H
   have c7b0 := eq_true c7
   have c7b1 := decide_eq_true c7
   clear c7
   by_cases c8 : t341 ≤ (a0.size : Int)
   ·rw [if_pos c8] at H
    have c8b0 := eq_true c8
    have c8b1 := decide_eq_true c8
    clear c8
    obtain ⟨ji9, hji9⟩ : ∃ j_ : Int, (wrap64 (t341 + 1)) = j_ := ⟨_, rfl⟩
    replace H : (if 0 ≤ (ji9) then (if (ji9) ≤ (a0.size : Int) then (if t341 < (a0.size : Int) then (if (wrap32 (bt a0 t341)) = 61 then ((label_Matcher.f 0 (a0.extract 0 (t341 : Int).toNat) (a0.extract ((ji9) : Int).toNat a0.size)).bind fun t343 => (if t343 = true then (some (0, a0.extract 0 (t341 : Int).toNat, a0.extract ((ji9) : Int).toNat a0.size, 0)) else (some (0, (⟨#[]⟩ : ByteArray), (⟨#[]⟩ : ByteArray), 13)))) else (if (wrap32 (bt a0 t341)) = 33 then ((label_Matcher.f 1 (a0.extract 0 (t341 : Int).toNat) (a0.extract ((ji9) : Int).toNat a0.size)).bind fun t344 => (if t344 = true then (some (1, a0.extract 0 (t341 : Int).toNat, a0.extract ((ji9) : Int).toNat a0.size, 0)) else (some (0, (⟨#[]⟩ : ByteArray), (⟨#[]⟩ : ByteArray), 13)))) else (if (wrap32 (bt a0 t341)) = 94 then ((label_Matcher.f 2 (a0.extract 0 (t341 : Int).toNat) (a0.extract ((ji9) : Int).toNat a0.size)).bind fun t345 => (if t345 = true then (some (2, a0.extract 0 (t341 : Int).toNat, a0.extract ((ji9) : Int).toNat a0.size, 0)) else (some (0, (⟨#[]⟩ : ByteArray), (⟨#[]⟩ : ByteArray), 13)))) else ((label_Matcher.f 3 (a0.extract 0 (t341 : Int).toNat) (a0.extract ((ji9) : Int).toNat a0.size)).bind fun t346 => (if t346 = true then (some (3, a0.extract 0 (t341 : Int).toNat, a0.extract ((ji9) : Int).toNat a0.size, 0)) else (some (0, (⟨#[]⟩ : ByteArray), (⟨#[]⟩ : ByteArray), 13))))))) else (none)) else (none)) else (none)) = some (r1, r2, r3, r4) := by first | (rw [hji9] at H; exact H) | (simp only [hji9] at H ⊢; exact H)
    (try rw [hji9] at A2)
    have hji9w : (IntKind.i64.wrap (t341 + 1)) = ji9 := (i64_w _).trans hji9
    by_cases c10 : 0 ≤ (ji9)
    ·rw [if_pos c10] at H
     have c10b0 := eq_true c10
     have c10b1 := decide_eq_true c10
     clear c10
     by_cases c11 : (ji9) ≤ (a0.size : Int)
     ·rw [if_pos c11] at H
      have c11b0 := eq_true c11
      have c11b1 := decide_eq_true c11
      clear c11
      by_cases c12 : t341 < (a0.size : Int)
      ·rw [if_pos c12] at H
       have c12b0 : decide (t341 < (a0.size : Int)) = true := decide_eq_true c12
       clear c12
       by_cases c14 : (wrap32 (bt a0 t341)) = 61
       ·rw [if_pos c14] at H
        have c14b0 : ((wrap32 (bt a0 t341)) == 61) = true := beq_iff_eq.mpr c14
        have c14b1 : ((wrap32 (bt a0 t341)) != 61) = false := bne_eq_false_iff_eq.mpr c14
        clear c14
        replace H := Option.bind_eq_some_iff.mp H
        obtain ⟨t343, A150, H⟩ := H
        replace H : (if t343 = true then (some (0, a0.extract 0 (t341 : Int).toNat, a0.extract ((ji9) : Int).toNat a0.size, 0)) else (some (0, (⟨#[]⟩ : ByteArray), (⟨#[]⟩ : ByteArray), 13))) = some (r1, r2, r3, r4) := H
        have A15 := aA A150
        clear A150
        by_cases c16 : t343 = true
        ·subst c16
         have H1 : (some (0, a0.extract 0 (t341 : Int).toNat, a0.extract ((ji9) : Int).toNat a0.size, 0)) = some (r1, r2, r3, r4) := by rw [if_pos rfl] at H; exact H
         clear H
         have H := H1
         clear H1
         simp only [Option.some.injEq, Prod.mk.injEq] at H
         obtain ⟨rfl, rfl, rfl, rfl⟩ := H
         go_enter Tryz.func12, Tryz.ntmps12
         try go_wp2_with (first | ((with_reducible refine gate_dst (N := 2) rfl ?_); refine box_event ?hg (N := 2) ?hd (cs := #[.int .i64 0, .string (⟨#[]⟩ : ByteArray), .string (⟨#[]⟩ : ByteArray)]) (t := 32) ?hr ?_; (case hd => rfl); (case hg => rfl); (case hr => first | (go_simp; done) | (go_simp; rfl)); intro gb340 hg w17 hbox hb; have n0_ := aA (below_step mB hb); have n1_ := aA (hbox); have n2_ := aA ((bZ hg mB)); have n3_ := aA ((bZ hg mB)); clear HB; have HB := n0_; have BK340 := n1_; have GW340 := n2_; have GE340 := n3_; clear n0_ n1_ n2_ n3_ hb hbox hg) | ((with_reducible refine gate_callee (f := 40) rfl ?_); refine goesL_ (some 7) rfl rfl Tryz.func40 (by kernel_rfl) rfl #[.string a0, .string (⟨#[61, 33, 94, 63]⟩ : ByteArray)] rfl mS ?_; (with_reducible refine (strings_IndexAny.calls a0 (⟨#[61, 33, 94, 63]⟩ : ByteArray) t341 _ A2.out).mono ?_); rintro e w18 ⟨rfl, hb⟩; refine ⟨_, rfl, ?_⟩; have n0_ := aA (bB BK340.out hb); have n1_ := aA (below_step (mD1 GE340.out) hb); clear BK340 HB; have BK340 := n0_; have HB := n1_; clear n0_ n1_; (try clear hb); (try clear hb2); (try clear hk); (try clear hi)))
         have n0_ := aA (blk_drew BK340.out)
         have n1_ := aA (below_drew1 HB.out)
         clear BK340
         clear HB
         have BK340 := n0_
         have HB := n1_
         clear n0_ n1_
         refine start_ (n := 10) (S := fun w' => True) (ds := []) (bA 10 0) (by kernel_rfl) rfl rfl trivial (fun hHeld => ?_); refine with_tabW wire_Asked.tab4 wire_Asked.bits4 (fun HT_ HW_ => ?_)
         generalize w18.drew = w19 at BK340 HB hHeld ⊢
         refine pure_ (i := 0) (N := some 11) (v := ?_) (a' := ?_) (bA 10 1) rfl rfl (any_of HT_.out (by kernel_rfl)) (fun _ _ _ h => h) (Or.inl ⟨by rfl, ?_⟩) ?_ ?_
         rotate_left
         ·intro w'
          go_simp
          with_reducible rfl
         rotate_left
         ·exact mP
         refine pure_ (i := 1) (N := some 12) (v := ?_) (a' := ?_) (bA 10 3) rfl rfl (any_of HT_.out (by kernel_rfl)) (fun _ _ _ h => h) (Or.inl ⟨by rfl, ?_⟩) ?_ ?_
         rotate_left
         ·intro w'
          go_simp
          with_reducible rfl
         rotate_left
         ·exact mP
         refine pure_ (i := 2) (N := some 13) (v := ?_) (a' := ?_) (bA 10 7) rfl rfl (any_of HT_.out (by kernel_rfl)) (fun _ _ _ h => h) (Or.inl ⟨by rfl, ?_⟩) ?_ ?_
         rotate_left
         ·intro w'
          go_simp
          with_reducible rfl
         rotate_left
         ·exact mP
         refine pure_ (i := 3) (N := some 14) (v := ?_) (a' := ?_) (bA 10 15) rfl rfl (any_of HT_.out (by kernel_rfl)) (fun _ _ _ h => h) (Or.inl ⟨by rfl, ?_⟩) ?_ ?_
         rotate_left
         ·intro w'
          go_simp
          with_reducible rfl
         rotate_left
         ·exact mP
         refine pure_ (i := 4) (N := some 15) (v := ?_) (a' := ?_) (bA 10 31) rfl rfl (any_of HT_.out (by kernel_rfl)) (fun _ _ _ h => h) (Or.inl ⟨by rfl, ?_⟩) ?_ ?_
         rotate_left
         ·intro w'
          go_simp
          with_reducible rfl
         rotate_left
         ·exact mP
         refine pure_ (i := 5) (N := some 16) (v := ?_) (a' := ?_) (bA 10 63) rfl rfl (any_of HT_.out (by kernel_rfl)) (fun _ _ _ h => h) (Or.inl ⟨by rfl, ?_⟩) ?_ ?_
         rotate_left
         ·intro w'
          go_simp
          with_reducible rfl
         rotate_left
         ·exact mP
         refine pure_ (i := 6) (N := some 17) (v := ?_) (a' := ?_) (bA 10 127) rfl rfl (any_of HT_.out (by kernel_rfl)) (fun _ _ _ h => h) (Or.inl ⟨by rfl, ?_⟩) ?_ ?_
         rotate_left
         ·intro w'
          go_simp
          with_reducible rfl
         rotate_left
         ·exact mP
         refine pure_ (i := 7) (N := some 18) (v := ?_) (a' := ?_) (bA 10 255) rfl rfl (any_of HT_.out (by kernel_rfl)) (fun _ _ _ h => h) (Or.inl ⟨by rfl, ?_⟩) ?_ ?_
         rotate_left
         ·intro w'
          go_simp
          with_reducible rfl
         rotate_left
         ·exact mP
         refine one_ (i := 8) (N := some 5) (bA 10 511) rfl rfl (one_of HT_.out (by kernel_rfl)) (by decide) (fun K hK => ?_)
         refine box_step ?hg (N := 5) ?hd (cs := #[.int .i64 0, .string (⟨#[]⟩ : ByteArray), .string (⟨#[]⟩ : ByteArray)]) (t := 32) ?hr ?_; (case hd => rfl); (case hg => rfl); (case hr => first | (go_simp; done) | (go_simp; rfl))
         intro gb342 hg w20 hbox hb
         have n0_ := aA (bB BK340.out hb)
         have n1_ := aA (below_step (mD1 GE340.out) hb)
         have n2_ := aA (hbox)
         have n3_ := aA ((bZ hg (mD1 GE340.out)))
         have n4_ := aA ((bZ hg (mD1 GE340.out)))
         have n5_ := aA ((bL hg BK340.out))
         have n6_ := aA ((bG hg BK340.out))
         clear BK340
         clear HB
         have BK340 := n0_
         have HB := n1_
         have BK342 := n2_
         have GW342 := n3_
         have GE342 := n4_
         have NB340_342 := n5_
         have NB342_340 := n6_
         clear n0_ n1_ n2_ n3_ n4_ n5_ n6_
         clear hb hbox hg
         refine hK.out _ _ trivial (fun hHeld => ?_)
         clear hK K
         refine norm_ (a' := ?_) ?_ ?_
         rotate_left
         ·show Act.put _ (some 5) _ = _
          simp only [Act.put, List.setIfInBounds_toArray, List.set_cons_zero, List.set_cons_succ, i64_w, i32_w]
          rfl
         refine one_ (i := 9) (N := none) (bA 10 1023) rfl rfl (one_of HT_.out (by kernel_rfl)) (by decide) (fun K hK => ?_)
         have hs21 : w20.cell? ⟨gb342, 0, none⟩ = some (.int .i64 0) := (blk_cell BK342.out 0).trans rfl
         have hfs21 := blk_frozen BK342.out 0
         have hns21_0 := NB340_342.out
         have hms21_0 := NB342_340.out
         have hs22 : w20.cell? ⟨gb342, 1, none⟩ = some (.string (⟨#[]⟩ : ByteArray)) := (blk_cell BK342.out 1).trans rfl
         have hfs22 := blk_frozen BK342.out 1
         have hns22_0 := NB340_342.out
         have hms22_0 := NB342_340.out
         have hs23 : w20.cell? ⟨gb342, 2, none⟩ = some (.string (⟨#[]⟩ : ByteArray)) := (blk_cell BK342.out 2).trans rfl
         have hfs23 := blk_frozen BK342.out 2
         have hns23_0 := NB340_342.out
         have hms23_0 := NB342_340.out
         refine skip_ (w1 := ?_) (by rfl) rfl ?_ ?_
         rotate_left
         ·go_simp
          rfl
         refine hK.out _ _ trivial (fun hHeld => ?_)
         clear hK K
         refine done_ (done_of HT_.out (by kernel_rfl)) ?_
         have p13 : 0 ≤ (t341 : Int) := of_decide_eq_true (by first | (with_reducible assumption) | assumption)
         have q13 : t341 < (a0.size : Int) := of_decide_eq_true (by first | (with_reducible assumption) | assumption)
         have hx13 := bt_at a0 t341
         replace p13 := eq_true p13
         replace q13 := eq_true q13
         have hnb24 := NB342_340.out
         have hnc24 := NB340_342.out
         obtain ⟨hcz25_0, hcz25_1, hcz25_2⟩ := bC3 BK342.out
         obtain ⟨hfz25_0, hfz25_1, hfz25_2⟩ := bF3 BK342.out
         try go_wp2_with (first | ((with_reducible refine gate_callee (f := 41) rfl ?_); refine goesL_ (some 34) rfl rfl Tryz.func41 (by kernel_rfl) rfl #[.agg #[.int .i64 0, .string (a0.extract 0 (t341 : Int).toNat), .string (a0.extract ((ji9) : Int).toNat a0.size)]] rfl (by (try simp only [List.map_toArray, List.map_cons, List.map_nil]); first | done | (simp only [hji9]; rfl) | rfl | (simp only [List.length_drop, List.length_take]; rfl)) ?_; (with_reducible refine (label_Matcher.calls 0 (a0.extract 0 (t341 : Int).toNat) (a0.extract ((ji9) : Int).toNat a0.size) true _ A15.out).mono ?_); rintro e w26 ⟨rfl, hb⟩; refine ⟨_, rfl, ?_⟩; have n0_ := aA (blk_below (g := gb340) (o := .cells #[.int .i64 0, .string (⟨#[]⟩ : ByteArray), .string (⟨#[]⟩ : ByteArray)] 32 (0, 0)) (by (with_reducible repeat (first | refine blk_drewN ?_ _ | refine blk_drew ?_ | refine blk_alloc ?_ _)); refine blk_far ?_ NB340_342.out _; (with_reducible repeat (first | refine blk_drewN ?_ _ | refine blk_drew ?_ | refine blk_alloc ?_ _)); refine blk_far ?_ NB340_342.out _; (with_reducible repeat (first | refine blk_drewN ?_ _ | refine blk_drew ?_ | refine blk_alloc ?_ _)); refine blk_far ?_ NB340_342.out _; (with_reducible repeat (first | refine blk_drewN ?_ _ | refine blk_drew ?_ | refine blk_alloc ?_ _)); refine blk_far ?_ NB340_342.out _; (with_reducible repeat (first | refine blk_drewN ?_ _ | refine blk_drew ?_ | refine blk_alloc ?_ _)); exact BK340.out) hb); have n1_ := aA (blk_below (g := gb342) (o := .cells #[.int .i64 0, .string (a0.extract 0 (t341 : Int).toNat), .string (a0.extract ((ji9) : Int).toNat a0.size)] 32 (0, 0)) (by (with_reducible repeat (first | refine blk_drewN ?_ _ | refine blk_drew ?_ | refine blk_alloc ?_ _)); have h_ := BK342.out; exact pK 0 (pK 2 (pK 1 (pK 0 (h_))))) hb); have n2_ := aA (below_step (mD2 GE340.out GE342.out) hb); clear BK340 BK342 HB; have BK340 := n0_; have BK342 := n1_; have HB := n2_; clear n0_ n1_ n2_; (try clear hb); (try clear hb2); (try clear hk); (try clear hi); obtain ⟨hcz27_0, hcz27_1, hcz27_2⟩ := bC3 BK342.out; obtain ⟨hfz27_0, hfz27_1, hfz27_2⟩ := bF3 BK342.out; obtain ⟨hcz28_0, hcz28_1, hcz28_2⟩ := bC3 BK340.out; obtain ⟨hfz28_0, hfz28_1, hfz28_2⟩ := bF3 BK340.out))
         refine bodyPost_ret (results_ct rfl _ _ gb340 32 #[.int .i64 0, .string (a0.extract 0 (t341 : Int).toNat), .string (a0.extract ((ji9) : Int).toNat a0.size)] (0, 0) _ rfl (by (with_reducible repeat (first | refine blk_drewN ?_ _ | refine blk_drew ?_ | refine blk_alloc ?_ _)); have h_ := BK340.out; exact pK 2 (pK 1 (pK 0 (h_)))) Tryz.underlying32 rfl (by kernel_rfl)) rfl ?_
         exact ⟨by first | rfl | (simp [errW_none, errW_some] <;> rfl) | (simp only [← hji9]; first | rfl | (simp [errW_none, errW_some] <;> rfl)) | (simp [*, errW_none, errW_some] <;> rfl), by repeat (first | (with_reducible first | exact HB.out | apply below_alloc | apply pw_below_drewN | apply below_drew1 | refine below_set ?_ GE340.out | refine below_set ?_ GE342.out) | exact HB.out)⟩
        ·replace c16 := Bool.eq_false_iff.mpr c16
         subst c16
         have H1 : (some (0, (⟨#[]⟩ : ByteArray), (⟨#[]⟩ : ByteArray), 13)) = some (r1, r2, r3, r4) := by rw [if_neg (show ¬ (false = true) by decide)] at H; exact H
         clear H
         have H := H1
         clear H1
         simp only [Option.some.injEq, Prod.mk.injEq] at H
         obtain ⟨rfl, rfl, rfl, rfl⟩ := H
         go_enter Tryz.func12, Tryz.ntmps12
         try go_wp2_with (first | ((with_reducible refine gate_dst (N := 2) rfl ?_); refine box_event ?hg (N := 2) ?hd (cs := #[.int .i64 0, .string (⟨#[]⟩ : ByteArray), .string (⟨#[]⟩ : ByteArray)]) (t := 32) ?hr ?_; (case hd => rfl); (case hg => rfl); (case hr => first | (go_simp; done) | (go_simp; rfl)); intro gb340 hg w29 hbox hb; have n0_ := aA (below_step mB hb); have n1_ := aA (hbox); have n2_ := aA ((bZ hg mB)); have n3_ := aA ((bZ hg mB)); clear HB; have HB := n0_; have BK340 := n1_; have GW340 := n2_; have GE340 := n3_; clear n0_ n1_ n2_ n3_ hb hbox hg) | ((with_reducible refine gate_callee (f := 40) rfl ?_); refine goesL_ (some 7) rfl rfl Tryz.func40 (by kernel_rfl) rfl #[.string a0, .string (⟨#[61, 33, 94, 63]⟩ : ByteArray)] rfl mS ?_; (with_reducible refine (strings_IndexAny.calls a0 (⟨#[61, 33, 94, 63]⟩ : ByteArray) t341 _ A2.out).mono ?_); rintro e w30 ⟨rfl, hb⟩; refine ⟨_, rfl, ?_⟩; have n0_ := aA (bB BK340.out hb); have n1_ := aA (below_step (mD1 GE340.out) hb); clear BK340 HB; have BK340 := n0_; have HB := n1_; clear n0_ n1_; (try clear hb); (try clear hb2); (try clear hk); (try clear hi)))
         have n0_ := aA (blk_drew BK340.out)
         have n1_ := aA (below_drew1 HB.out)
         clear BK340
         clear HB
         have BK340 := n0_
         have HB := n1_
         clear n0_ n1_
         refine start_ (n := 10) (S := fun w' => True) (ds := []) (bA 10 0) (by kernel_rfl) rfl rfl trivial (fun hHeld => ?_); refine with_tabW wire_Asked.tab4 wire_Asked.bits4 (fun HT_ HW_ => ?_)
         generalize w30.drew = w31 at BK340 HB hHeld ⊢
         refine pure_ (i := 0) (N := some 11) (v := ?_) (a' := ?_) (bA 10 1) rfl rfl (any_of HT_.out (by kernel_rfl)) (fun _ _ _ h => h) (Or.inl ⟨by rfl, ?_⟩) ?_ ?_
         rotate_left
         ·intro w'
          go_simp
          with_reducible rfl
         rotate_left
         ·exact mP
         refine pure_ (i := 1) (N := some 12) (v := ?_) (a' := ?_) (bA 10 3) rfl rfl (any_of HT_.out (by kernel_rfl)) (fun _ _ _ h => h) (Or.inl ⟨by rfl, ?_⟩) ?_ ?_
         rotate_left
         ·intro w'
          go_simp
          with_reducible rfl
         rotate_left
         ·exact mP
         refine pure_ (i := 2) (N := some 13) (v := ?_) (a' := ?_) (bA 10 7) rfl rfl (any_of HT_.out (by kernel_rfl)) (fun _ _ _ h => h) (Or.inl ⟨by rfl, ?_⟩) ?_ ?_
         rotate_left
         ·intro w'
          go_simp
          with_reducible rfl
         rotate_left
         ·exact mP
         refine pure_ (i := 3) (N := some 14) (v := ?_) (a' := ?_) (bA 10 15) rfl rfl (any_of HT_.out (by kernel_rfl)) (fun _ _ _ h => h) (Or.inl ⟨by rfl, ?_⟩) ?_ ?_
         rotate_left
         ·intro w'
          go_simp
          with_reducible rfl
         rotate_left
         ·exact mP
         refine pure_ (i := 4) (N := some 15) (v := ?_) (a' := ?_) (bA 10 31) rfl rfl (any_of HT_.out (by kernel_rfl)) (fun _ _ _ h => h) (Or.inl ⟨by rfl, ?_⟩) ?_ ?_
         rotate_left
         ·intro w'
          go_simp
          with_reducible rfl
         rotate_left
         ·exact mP
         refine pure_ (i := 5) (N := some 16) (v := ?_) (a' := ?_) (bA 10 63) rfl rfl (any_of HT_.out (by kernel_rfl)) (fun _ _ _ h => h) (Or.inl ⟨by rfl, ?_⟩) ?_ ?_
         rotate_left
         ·intro w'
          go_simp
          with_reducible rfl
         rotate_left
         ·exact mP
         refine pure_ (i := 6) (N := some 17) (v := ?_) (a' := ?_) (bA 10 127) rfl rfl (any_of HT_.out (by kernel_rfl)) (fun _ _ _ h => h) (Or.inl ⟨by rfl, ?_⟩) ?_ ?_
         rotate_left
         ·intro w'
          go_simp
          with_reducible rfl
         rotate_left
         ·exact mP
         refine pure_ (i := 7) (N := some 18) (v := ?_) (a' := ?_) (bA 10 255) rfl rfl (any_of HT_.out (by kernel_rfl)) (fun _ _ _ h => h) (Or.inl ⟨by rfl, ?_⟩) ?_ ?_
         rotate_left
         ·intro w'
          go_simp
          with_reducible rfl
         rotate_left
         ·exact mP
         refine one_ (i := 8) (N := some 5) (bA 10 511) rfl rfl (one_of HT_.out (by kernel_rfl)) (by decide) (fun K hK => ?_)
         refine box_step ?hg (N := 5) ?hd (cs := #[.int .i64 0, .string (⟨#[]⟩ : ByteArray), .string (⟨#[]⟩ : ByteArray)]) (t := 32) ?hr ?_; (case hd => rfl); (case hg => rfl); (case hr => first | (go_simp; done) | (go_simp; rfl))
         intro gb342 hg w32 hbox hb
         have n0_ := aA (bB BK340.out hb)
         have n1_ := aA (below_step (mD1 GE340.out) hb)
         have n2_ := aA (hbox)
         have n3_ := aA ((bZ hg (mD1 GE340.out)))
         have n4_ := aA ((bZ hg (mD1 GE340.out)))
         have n5_ := aA ((bL hg BK340.out))
         have n6_ := aA ((bG hg BK340.out))
         clear BK340
         clear HB
         have BK340 := n0_
         have HB := n1_
         have BK342 := n2_
         have GW342 := n3_
         have GE342 := n4_
         have NB340_342 := n5_
         have NB342_340 := n6_
         clear n0_ n1_ n2_ n3_ n4_ n5_ n6_
         clear hb hbox hg
         refine hK.out _ _ trivial (fun hHeld => ?_)
         clear hK K
         refine norm_ (a' := ?_) ?_ ?_
         rotate_left
         ·show Act.put _ (some 5) _ = _
          simp only [Act.put, List.setIfInBounds_toArray, List.set_cons_zero, List.set_cons_succ, i64_w, i32_w]
          rfl
         refine one_ (i := 9) (N := none) (bA 10 1023) rfl rfl (one_of HT_.out (by kernel_rfl)) (by decide) (fun K hK => ?_)
         have hs33 : w32.cell? ⟨gb342, 0, none⟩ = some (.int .i64 0) := (blk_cell BK342.out 0).trans rfl
         have hfs33 := blk_frozen BK342.out 0
         have hns33_0 := NB340_342.out
         have hms33_0 := NB342_340.out
         have hs34 : w32.cell? ⟨gb342, 1, none⟩ = some (.string (⟨#[]⟩ : ByteArray)) := (blk_cell BK342.out 1).trans rfl
         have hfs34 := blk_frozen BK342.out 1
         have hns34_0 := NB340_342.out
         have hms34_0 := NB342_340.out
         have hs35 : w32.cell? ⟨gb342, 2, none⟩ = some (.string (⟨#[]⟩ : ByteArray)) := (blk_cell BK342.out 2).trans rfl
         have hfs35 := blk_frozen BK342.out 2
         have hns35_0 := NB340_342.out
         have hms35_0 := NB342_340.out
         refine skip_ (w1 := ?_) (by rfl) rfl ?_ ?_
         rotate_left
         ·go_simp
          rfl
         refine hK.out _ _ trivial (fun hHeld => ?_)
         clear hK K
         refine done_ (done_of HT_.out (by kernel_rfl)) ?_
         have p13 : 0 ≤ (t341 : Int) := of_decide_eq_true (by first | (with_reducible assumption) | assumption)
         have q13 : t341 < (a0.size : Int) := of_decide_eq_true (by first | (with_reducible assumption) | assumption)
         have hx13 := bt_at a0 t341
         replace p13 := eq_true p13
         replace q13 := eq_true q13
         have hnb36 := NB342_340.out
         have hnc36 := NB340_342.out
         obtain ⟨hcz37_0, hcz37_1, hcz37_2⟩ := bC3 BK342.out
         obtain ⟨hfz37_0, hfz37_1, hfz37_2⟩ := bF3 BK342.out
         try go_wp2_with (first | ((with_reducible refine gate_callee (f := 41) rfl ?_); refine goesL_ (some 34) rfl rfl Tryz.func41 (by kernel_rfl) rfl #[.agg #[.int .i64 0, .string (a0.extract 0 (t341 : Int).toNat), .string (a0.extract ((ji9) : Int).toNat a0.size)]] rfl (by (try simp only [List.map_toArray, List.map_cons, List.map_nil]); first | done | (simp only [hji9]; rfl) | rfl | (simp only [List.length_drop, List.length_take]; rfl)) ?_; (with_reducible refine (label_Matcher.calls 0 (a0.extract 0 (t341 : Int).toNat) (a0.extract ((ji9) : Int).toNat a0.size) false _ A15.out).mono ?_); rintro e w38 ⟨rfl, hb⟩; refine ⟨_, rfl, ?_⟩; have n0_ := aA (blk_below (g := gb340) (o := .cells #[.int .i64 0, .string (⟨#[]⟩ : ByteArray), .string (⟨#[]⟩ : ByteArray)] 32 (0, 0)) (by (with_reducible repeat (first | refine blk_drewN ?_ _ | refine blk_drew ?_ | refine blk_alloc ?_ _)); refine blk_far ?_ NB340_342.out _; (with_reducible repeat (first | refine blk_drewN ?_ _ | refine blk_drew ?_ | refine blk_alloc ?_ _)); refine blk_far ?_ NB340_342.out _; (with_reducible repeat (first | refine blk_drewN ?_ _ | refine blk_drew ?_ | refine blk_alloc ?_ _)); refine blk_far ?_ NB340_342.out _; (with_reducible repeat (first | refine blk_drewN ?_ _ | refine blk_drew ?_ | refine blk_alloc ?_ _)); refine blk_far ?_ NB340_342.out _; (with_reducible repeat (first | refine blk_drewN ?_ _ | refine blk_drew ?_ | refine blk_alloc ?_ _)); exact BK340.out) hb); have n1_ := aA (blk_below (g := gb342) (o := .cells #[.int .i64 0, .string (a0.extract 0 (t341 : Int).toNat), .string (a0.extract ((ji9) : Int).toNat a0.size)] 32 (0, 0)) (by (with_reducible repeat (first | refine blk_drewN ?_ _ | refine blk_drew ?_ | refine blk_alloc ?_ _)); have h_ := BK342.out; exact pK 0 (pK 2 (pK 1 (pK 0 (h_))))) hb); have n2_ := aA (below_step (mD2 GE340.out GE342.out) hb); clear BK340 BK342 HB; have BK340 := n0_; have BK342 := n1_; have HB := n2_; clear n0_ n1_ n2_; (try clear hb); (try clear hb2); (try clear hk); (try clear hi); obtain ⟨hcz39_0, hcz39_1, hcz39_2⟩ := bC3 BK340.out; obtain ⟨hfz39_0, hfz39_1, hfz39_2⟩ := bF3 BK340.out))
         refine bodyPost_ret (results_ct rfl _ _ gb340 32 #[.int .i64 0, .string (⟨#[]⟩ : ByteArray), .string (⟨#[]⟩ : ByteArray)] (0, 0) _ rfl (by (with_reducible repeat (first | refine blk_drewN ?_ _ | refine blk_drew ?_ | refine blk_alloc ?_ _)); have h_ := BK340.out; exact pK 2 (pK 1 (pK 0 (h_)))) Tryz.underlying32 rfl (by kernel_rfl)) rfl ?_
         exact ⟨by first | rfl | (simp [errW_none, errW_some] <;> rfl) | (simp only [← hji9]; first | rfl | (simp [errW_none, errW_some] <;> rfl)) | (simp [*, errW_none, errW_some] <;> rfl), by repeat (first | (with_reducible first | exact HB.out | apply below_alloc | apply pw_below_drewN | apply below_drew1 | refine below_set ?_ GE340.out | refine below_set ?_ GE342.out) | exact HB.out)⟩
       ·rw [if_neg c14] at H
        have c14b0 : ((wrap32 (bt a0 t341)) == 61) = false := beq_eq_false_iff_ne.mpr c14
        have c14b1 : ((wrap32 (bt a0 t341)) != 61) = true := bne_iff_ne.mpr c14
        by_cases c40 : (wrap32 (bt a0 t341)) = 33
        ·rw [if_pos c40] at H
         have c40b0 : ((wrap32 (bt a0 t341)) == 33) = true := beq_iff_eq.mpr c40
         have c40b1 : ((wrap32 (bt a0 t341)) != 33) = false := bne_eq_false_iff_eq.mpr c40
         clear c40
         replace H := Option.bind_eq_some_iff.mp H
         obtain ⟨t344, A410, H⟩ := H
         replace H : (if t344 = true then (some (1, a0.extract 0 (t341 : Int).toNat, a0.extract ((ji9) : Int).toNat a0.size, 0)) else (some (0, (⟨#[]⟩ : ByteArray), (⟨#[]⟩ : ByteArray), 13))) = some (r1, r2, r3, r4) := H
         have A41 := aA A410
         clear A410
         by_cases c42 : t344 = true
         ·subst c42
          have H1 : (some (1, a0.extract 0 (t341 : Int).toNat, a0.extract ((ji9) : Int).toNat a0.size, 0)) = some (r1, r2, r3, r4) := by rw [if_pos rfl] at H; exact H
          clear H
          have H := H1
          clear H1
          simp only [Option.some.injEq, Prod.mk.injEq] at H
          obtain ⟨rfl, rfl, rfl, rfl⟩ := H
          go_enter Tryz.func12, Tryz.ntmps12
          try go_wp2_with (first | ((with_reducible refine gate_dst (N := 2) rfl ?_); refine box_event ?hg (N := 2) ?hd (cs := #[.int .i64 0, .string (⟨#[]⟩ : ByteArray), .string (⟨#[]⟩ : ByteArray)]) (t := 32) ?hr ?_; (case hd => rfl); (case hg => rfl); (case hr => first | (go_simp; done) | (go_simp; rfl)); intro gb340 hg w43 hbox hb; have n0_ := aA (below_step mB hb); have n1_ := aA (hbox); have n2_ := aA ((bZ hg mB)); have n3_ := aA ((bZ hg mB)); clear HB; have HB := n0_; have BK340 := n1_; have GW340 := n2_; have GE340 := n3_; clear n0_ n1_ n2_ n3_ hb hbox hg) | ((with_reducible refine gate_callee (f := 40) rfl ?_); refine goesL_ (some 7) rfl rfl Tryz.func40 (by kernel_rfl) rfl #[.string a0, .string (⟨#[61, 33, 94, 63]⟩ : ByteArray)] rfl mS ?_; (with_reducible refine (strings_IndexAny.calls a0 (⟨#[61, 33, 94, 63]⟩ : ByteArray) t341 _ A2.out).mono ?_); rintro e w44 ⟨rfl, hb⟩; refine ⟨_, rfl, ?_⟩; have n0_ := aA (bB BK340.out hb); have n1_ := aA (below_step (mD1 GE340.out) hb); clear BK340 HB; have BK340 := n0_; have HB := n1_; clear n0_ n1_; (try clear hb); (try clear hb2); (try clear hk); (try clear hi)))
          have n0_ := aA (blk_drew BK340.out)
          have n1_ := aA (below_drew1 HB.out)
          clear BK340
          clear HB
          have BK340 := n0_
          have HB := n1_
          clear n0_ n1_
          refine start_ (n := 10) (S := fun w' => True) (ds := []) (bA 10 0) (by kernel_rfl) rfl rfl trivial (fun hHeld => ?_); refine with_tabW wire_Asked.tab4 wire_Asked.bits4 (fun HT_ HW_ => ?_)
          generalize w44.drew = w45 at BK340 HB hHeld ⊢
          refine pure_ (i := 0) (N := some 11) (v := ?_) (a' := ?_) (bA 10 1) rfl rfl (any_of HT_.out (by kernel_rfl)) (fun _ _ _ h => h) (Or.inl ⟨by rfl, ?_⟩) ?_ ?_
          rotate_left
          ·intro w'
           go_simp
           with_reducible rfl
          rotate_left
          ·exact mP
          refine pure_ (i := 1) (N := some 12) (v := ?_) (a' := ?_) (bA 10 3) rfl rfl (any_of HT_.out (by kernel_rfl)) (fun _ _ _ h => h) (Or.inl ⟨by rfl, ?_⟩) ?_ ?_
          rotate_left
          ·intro w'
           go_simp
           with_reducible rfl
          rotate_left
          ·exact mP
          refine pure_ (i := 2) (N := some 13) (v := ?_) (a' := ?_) (bA 10 7) rfl rfl (any_of HT_.out (by kernel_rfl)) (fun _ _ _ h => h) (Or.inl ⟨by rfl, ?_⟩) ?_ ?_
          rotate_left
          ·intro w'
           go_simp
           with_reducible rfl
          rotate_left
          ·exact mP
          refine pure_ (i := 3) (N := some 14) (v := ?_) (a' := ?_) (bA 10 15) rfl rfl (any_of HT_.out (by kernel_rfl)) (fun _ _ _ h => h) (Or.inl ⟨by rfl, ?_⟩) ?_ ?_
          rotate_left
          ·intro w'
           go_simp
           with_reducible rfl
          rotate_left
          ·exact mP
          refine pure_ (i := 4) (N := some 15) (v := ?_) (a' := ?_) (bA 10 31) rfl rfl (any_of HT_.out (by kernel_rfl)) (fun _ _ _ h => h) (Or.inl ⟨by rfl, ?_⟩) ?_ ?_
          rotate_left
          ·intro w'
           go_simp
           with_reducible rfl
          rotate_left
          ·exact mP
          refine pure_ (i := 5) (N := some 16) (v := ?_) (a' := ?_) (bA 10 63) rfl rfl (any_of HT_.out (by kernel_rfl)) (fun _ _ _ h => h) (Or.inl ⟨by rfl, ?_⟩) ?_ ?_
          rotate_left
          ·intro w'
           go_simp
           with_reducible rfl
          rotate_left
          ·exact mP
          refine pure_ (i := 6) (N := some 17) (v := ?_) (a' := ?_) (bA 10 127) rfl rfl (any_of HT_.out (by kernel_rfl)) (fun _ _ _ h => h) (Or.inl ⟨by rfl, ?_⟩) ?_ ?_
          rotate_left
          ·intro w'
           go_simp
           with_reducible rfl
          rotate_left
          ·exact mP
          refine pure_ (i := 7) (N := some 18) (v := ?_) (a' := ?_) (bA 10 255) rfl rfl (any_of HT_.out (by kernel_rfl)) (fun _ _ _ h => h) (Or.inl ⟨by rfl, ?_⟩) ?_ ?_
          rotate_left
          ·intro w'
           go_simp
           with_reducible rfl
          rotate_left
          ·exact mP
          refine one_ (i := 8) (N := some 5) (bA 10 511) rfl rfl (one_of HT_.out (by kernel_rfl)) (by decide) (fun K hK => ?_)
          refine box_step ?hg (N := 5) ?hd (cs := #[.int .i64 0, .string (⟨#[]⟩ : ByteArray), .string (⟨#[]⟩ : ByteArray)]) (t := 32) ?hr ?_; (case hd => rfl); (case hg => rfl); (case hr => first | (go_simp; done) | (go_simp; rfl))
          intro gb342 hg w46 hbox hb
          have n0_ := aA (bB BK340.out hb)
          have n1_ := aA (below_step (mD1 GE340.out) hb)
          have n2_ := aA (hbox)
          have n3_ := aA ((bZ hg (mD1 GE340.out)))
          have n4_ := aA ((bZ hg (mD1 GE340.out)))
          have n5_ := aA ((bL hg BK340.out))
          have n6_ := aA ((bG hg BK340.out))
          clear BK340
          clear HB
          have BK340 := n0_
          have HB := n1_
          have BK342 := n2_
          have GW342 := n3_
          have GE342 := n4_
          have NB340_342 := n5_
          have NB342_340 := n6_
          clear n0_ n1_ n2_ n3_ n4_ n5_ n6_
          clear hb hbox hg
          refine hK.out _ _ trivial (fun hHeld => ?_)
          clear hK K
          refine norm_ (a' := ?_) ?_ ?_
          rotate_left
          ·show Act.put _ (some 5) _ = _
           simp only [Act.put, List.setIfInBounds_toArray, List.set_cons_zero, List.set_cons_succ, i64_w, i32_w]
           rfl
          refine one_ (i := 9) (N := none) (bA 10 1023) rfl rfl (one_of HT_.out (by kernel_rfl)) (by decide) (fun K hK => ?_)
          have hs47 : w46.cell? ⟨gb342, 0, none⟩ = some (.int .i64 0) := (blk_cell BK342.out 0).trans rfl
          have hfs47 := blk_frozen BK342.out 0
          have hns47_0 := NB340_342.out
          have hms47_0 := NB342_340.out
          have hs48 : w46.cell? ⟨gb342, 1, none⟩ = some (.string (⟨#[]⟩ : ByteArray)) := (blk_cell BK342.out 1).trans rfl
          have hfs48 := blk_frozen BK342.out 1
          have hns48_0 := NB340_342.out
          have hms48_0 := NB342_340.out
          have hs49 : w46.cell? ⟨gb342, 2, none⟩ = some (.string (⟨#[]⟩ : ByteArray)) := (blk_cell BK342.out 2).trans rfl
          have hfs49 := blk_frozen BK342.out 2
          have hns49_0 := NB340_342.out
          have hms49_0 := NB342_340.out
          refine skip_ (w1 := ?_) (by rfl) rfl ?_ ?_
          rotate_left
          ·go_simp
           rfl
          refine hK.out _ _ trivial (fun hHeld => ?_)
          clear hK K
          refine done_ (done_of HT_.out (by kernel_rfl)) ?_
          have p13 : 0 ≤ (t341 : Int) := of_decide_eq_true (by first | (with_reducible assumption) | assumption)
          have q13 : t341 < (a0.size : Int) := of_decide_eq_true (by first | (with_reducible assumption) | assumption)
          have hx13 := bt_at a0 t341
          replace p13 := eq_true p13
          replace q13 := eq_true q13
          have hnb50 := NB342_340.out
          have hnc50 := NB340_342.out
          obtain ⟨hcz51_0, hcz51_1, hcz51_2⟩ := bC3 BK342.out
          obtain ⟨hfz51_0, hfz51_1, hfz51_2⟩ := bF3 BK342.out
          try go_wp2_with (first | ((with_reducible refine gate_callee (f := 41) rfl ?_); refine goesL_ (some 34) rfl rfl Tryz.func41 (by kernel_rfl) rfl #[.agg #[.int .i64 1, .string (a0.extract 0 (t341 : Int).toNat), .string (a0.extract ((ji9) : Int).toNat a0.size)]] rfl (by (try simp only [List.map_toArray, List.map_cons, List.map_nil]); first | done | (simp only [hji9]; rfl) | rfl | (simp only [List.length_drop, List.length_take]; rfl)) ?_; (with_reducible refine (label_Matcher.calls 1 (a0.extract 0 (t341 : Int).toNat) (a0.extract ((ji9) : Int).toNat a0.size) true _ A41.out).mono ?_); rintro e w52 ⟨rfl, hb⟩; refine ⟨_, rfl, ?_⟩; have n0_ := aA (blk_below (g := gb340) (o := .cells #[.int .i64 0, .string (⟨#[]⟩ : ByteArray), .string (⟨#[]⟩ : ByteArray)] 32 (0, 0)) (by (with_reducible repeat (first | refine blk_drewN ?_ _ | refine blk_drew ?_ | refine blk_alloc ?_ _)); refine blk_far ?_ NB340_342.out _; (with_reducible repeat (first | refine blk_drewN ?_ _ | refine blk_drew ?_ | refine blk_alloc ?_ _)); refine blk_far ?_ NB340_342.out _; (with_reducible repeat (first | refine blk_drewN ?_ _ | refine blk_drew ?_ | refine blk_alloc ?_ _)); refine blk_far ?_ NB340_342.out _; (with_reducible repeat (first | refine blk_drewN ?_ _ | refine blk_drew ?_ | refine blk_alloc ?_ _)); refine blk_far ?_ NB340_342.out _; (with_reducible repeat (first | refine blk_drewN ?_ _ | refine blk_drew ?_ | refine blk_alloc ?_ _)); exact BK340.out) hb); have n1_ := aA (blk_below (g := gb342) (o := .cells #[.int .i64 1, .string (a0.extract 0 (t341 : Int).toNat), .string (a0.extract ((ji9) : Int).toNat a0.size)] 32 (0, 0)) (by (with_reducible repeat (first | refine blk_drewN ?_ _ | refine blk_drew ?_ | refine blk_alloc ?_ _)); have h_ := BK342.out; exact pK 0 (pK 2 (pK 1 (pK 0 (h_))))) hb); have n2_ := aA (below_step (mD2 GE340.out GE342.out) hb); clear BK340 BK342 HB; have BK340 := n0_; have BK342 := n1_; have HB := n2_; clear n0_ n1_ n2_; (try clear hb); (try clear hb2); (try clear hk); (try clear hi); obtain ⟨hcz53_0, hcz53_1, hcz53_2⟩ := bC3 BK342.out; obtain ⟨hfz53_0, hfz53_1, hfz53_2⟩ := bF3 BK342.out; obtain ⟨hcz54_0, hcz54_1, hcz54_2⟩ := bC3 BK340.out; obtain ⟨hfz54_0, hfz54_1, hfz54_2⟩ := bF3 BK340.out))
          refine bodyPost_ret (results_ct rfl _ _ gb340 32 #[.int .i64 1, .string (a0.extract 0 (t341 : Int).toNat), .string (a0.extract ((ji9) : Int).toNat a0.size)] (0, 0) _ rfl (by (with_reducible repeat (first | refine blk_drewN ?_ _ | refine blk_drew ?_ | refine blk_alloc ?_ _)); have h_ := BK340.out; exact pK 2 (pK 1 (pK 0 (h_)))) Tryz.underlying32 rfl (by kernel_rfl)) rfl ?_
          exact ⟨by first | rfl | (simp [errW_none, errW_some] <;> rfl) | (simp only [← hji9]; first | rfl | (simp [errW_none, errW_some] <;> rfl)) | (simp [*, errW_none, errW_some] <;> rfl), by repeat (first | (with_reducible first | exact HB.out | apply below_alloc | apply pw_below_drewN | apply below_drew1 | refine below_set ?_ GE340.out | refine below_set ?_ GE342.out) | exact HB.out)⟩
         ·replace c42 := Bool.eq_false_iff.mpr c42
          subst c42
          have H1 : (some (0, (⟨#[]⟩ : ByteArray), (⟨#[]⟩ : ByteArray), 13)) = some (r1, r2, r3, r4) := by rw [if_neg (show ¬ (false = true) by decide)] at H; exact H
          clear H
          have H := H1
          clear H1
          simp only [Option.some.injEq, Prod.mk.injEq] at H
          obtain ⟨rfl, rfl, rfl, rfl⟩ := H
          go_enter Tryz.func12, Tryz.ntmps12
          try go_wp2_with (first | ((with_reducible refine gate_dst (N := 2) rfl ?_); refine box_event ?hg (N := 2) ?hd (cs := #[.int .i64 0, .string (⟨#[]⟩ : ByteArray), .string (⟨#[]⟩ : ByteArray)]) (t := 32) ?hr ?_; (case hd => rfl); (case hg => rfl); (case hr => first | (go_simp; done) | (go_simp; rfl)); intro gb340 hg w55 hbox hb; have n0_ := aA (below_step mB hb); have n1_ := aA (hbox); have n2_ := aA ((bZ hg mB)); have n3_ := aA ((bZ hg mB)); clear HB; have HB := n0_; have BK340 := n1_; have GW340 := n2_; have GE340 := n3_; clear n0_ n1_ n2_ n3_ hb hbox hg) | ((with_reducible refine gate_callee (f := 40) rfl ?_); refine goesL_ (some 7) rfl rfl Tryz.func40 (by kernel_rfl) rfl #[.string a0, .string (⟨#[61, 33, 94, 63]⟩ : ByteArray)] rfl mS ?_; (with_reducible refine (strings_IndexAny.calls a0 (⟨#[61, 33, 94, 63]⟩ : ByteArray) t341 _ A2.out).mono ?_); rintro e w56 ⟨rfl, hb⟩; refine ⟨_, rfl, ?_⟩; have n0_ := aA (bB BK340.out hb); have n1_ := aA (below_step (mD1 GE340.out) hb); clear BK340 HB; have BK340 := n0_; have HB := n1_; clear n0_ n1_; (try clear hb); (try clear hb2); (try clear hk); (try clear hi)))
          have n0_ := aA (blk_drew BK340.out)
          have n1_ := aA (below_drew1 HB.out)
          clear BK340
          clear HB
          have BK340 := n0_
          have HB := n1_
          clear n0_ n1_
          refine start_ (n := 10) (S := fun w' => True) (ds := []) (bA 10 0) (by kernel_rfl) rfl rfl trivial (fun hHeld => ?_); refine with_tabW wire_Asked.tab4 wire_Asked.bits4 (fun HT_ HW_ => ?_)
          generalize w56.drew = w57 at BK340 HB hHeld ⊢
          refine pure_ (i := 0) (N := some 11) (v := ?_) (a' := ?_) (bA 10 1) rfl rfl (any_of HT_.out (by kernel_rfl)) (fun _ _ _ h => h) (Or.inl ⟨by rfl, ?_⟩) ?_ ?_
          rotate_left
          ·intro w'
           go_simp
           with_reducible rfl
          rotate_left
          ·exact mP
          refine pure_ (i := 1) (N := some 12) (v := ?_) (a' := ?_) (bA 10 3) rfl rfl (any_of HT_.out (by kernel_rfl)) (fun _ _ _ h => h) (Or.inl ⟨by rfl, ?_⟩) ?_ ?_
          rotate_left
          ·intro w'
           go_simp
           with_reducible rfl
          rotate_left
          ·exact mP
          refine pure_ (i := 2) (N := some 13) (v := ?_) (a' := ?_) (bA 10 7) rfl rfl (any_of HT_.out (by kernel_rfl)) (fun _ _ _ h => h) (Or.inl ⟨by rfl, ?_⟩) ?_ ?_
          rotate_left
          ·intro w'
           go_simp
           with_reducible rfl
          rotate_left
          ·exact mP
          refine pure_ (i := 3) (N := some 14) (v := ?_) (a' := ?_) (bA 10 15) rfl rfl (any_of HT_.out (by kernel_rfl)) (fun _ _ _ h => h) (Or.inl ⟨by rfl, ?_⟩) ?_ ?_
          rotate_left
          ·intro w'
           go_simp
           with_reducible rfl
          rotate_left
          ·exact mP
          refine pure_ (i := 4) (N := some 15) (v := ?_) (a' := ?_) (bA 10 31) rfl rfl (any_of HT_.out (by kernel_rfl)) (fun _ _ _ h => h) (Or.inl ⟨by rfl, ?_⟩) ?_ ?_
          rotate_left
          ·intro w'
           go_simp
           with_reducible rfl
          rotate_left
          ·exact mP
          refine pure_ (i := 5) (N := some 16) (v := ?_) (a' := ?_) (bA 10 63) rfl rfl (any_of HT_.out (by kernel_rfl)) (fun _ _ _ h => h) (Or.inl ⟨by rfl, ?_⟩) ?_ ?_
          rotate_left
          ·intro w'
           go_simp
           with_reducible rfl
          rotate_left
          ·exact mP
          refine pure_ (i := 6) (N := some 17) (v := ?_) (a' := ?_) (bA 10 127) rfl rfl (any_of HT_.out (by kernel_rfl)) (fun _ _ _ h => h) (Or.inl ⟨by rfl, ?_⟩) ?_ ?_
          rotate_left
          ·intro w'
           go_simp
           with_reducible rfl
          rotate_left
          ·exact mP
          refine pure_ (i := 7) (N := some 18) (v := ?_) (a' := ?_) (bA 10 255) rfl rfl (any_of HT_.out (by kernel_rfl)) (fun _ _ _ h => h) (Or.inl ⟨by rfl, ?_⟩) ?_ ?_
          rotate_left
          ·intro w'
           go_simp
           with_reducible rfl
          rotate_left
          ·exact mP
          refine one_ (i := 8) (N := some 5) (bA 10 511) rfl rfl (one_of HT_.out (by kernel_rfl)) (by decide) (fun K hK => ?_)
          refine box_step ?hg (N := 5) ?hd (cs := #[.int .i64 0, .string (⟨#[]⟩ : ByteArray), .string (⟨#[]⟩ : ByteArray)]) (t := 32) ?hr ?_; (case hd => rfl); (case hg => rfl); (case hr => first | (go_simp; done) | (go_simp; rfl))
          intro gb342 hg w58 hbox hb
          have n0_ := aA (bB BK340.out hb)
          have n1_ := aA (below_step (mD1 GE340.out) hb)
          have n2_ := aA (hbox)
          have n3_ := aA ((bZ hg (mD1 GE340.out)))
          have n4_ := aA ((bZ hg (mD1 GE340.out)))
          have n5_ := aA ((bL hg BK340.out))
          have n6_ := aA ((bG hg BK340.out))
          clear BK340
          clear HB
          have BK340 := n0_
          have HB := n1_
          have BK342 := n2_
          have GW342 := n3_
          have GE342 := n4_
          have NB340_342 := n5_
          have NB342_340 := n6_
          clear n0_ n1_ n2_ n3_ n4_ n5_ n6_
          clear hb hbox hg
          refine hK.out _ _ trivial (fun hHeld => ?_)
          clear hK K
          refine norm_ (a' := ?_) ?_ ?_
          rotate_left
          ·show Act.put _ (some 5) _ = _
           simp only [Act.put, List.setIfInBounds_toArray, List.set_cons_zero, List.set_cons_succ, i64_w, i32_w]
           rfl
          refine one_ (i := 9) (N := none) (bA 10 1023) rfl rfl (one_of HT_.out (by kernel_rfl)) (by decide) (fun K hK => ?_)
          have hs59 : w58.cell? ⟨gb342, 0, none⟩ = some (.int .i64 0) := (blk_cell BK342.out 0).trans rfl
          have hfs59 := blk_frozen BK342.out 0
          have hns59_0 := NB340_342.out
          have hms59_0 := NB342_340.out
          have hs60 : w58.cell? ⟨gb342, 1, none⟩ = some (.string (⟨#[]⟩ : ByteArray)) := (blk_cell BK342.out 1).trans rfl
          have hfs60 := blk_frozen BK342.out 1
          have hns60_0 := NB340_342.out
          have hms60_0 := NB342_340.out
          have hs61 : w58.cell? ⟨gb342, 2, none⟩ = some (.string (⟨#[]⟩ : ByteArray)) := (blk_cell BK342.out 2).trans rfl
          have hfs61 := blk_frozen BK342.out 2
          have hns61_0 := NB340_342.out
          have hms61_0 := NB342_340.out
          refine skip_ (w1 := ?_) (by rfl) rfl ?_ ?_
          rotate_left
          ·go_simp
           rfl
          refine hK.out _ _ trivial (fun hHeld => ?_)
          clear hK K
          refine done_ (done_of HT_.out (by kernel_rfl)) ?_
          have p13 : 0 ≤ (t341 : Int) := of_decide_eq_true (by first | (with_reducible assumption) | assumption)
          have q13 : t341 < (a0.size : Int) := of_decide_eq_true (by first | (with_reducible assumption) | assumption)
          have hx13 := bt_at a0 t341
          replace p13 := eq_true p13
          replace q13 := eq_true q13
          have hnb62 := NB342_340.out
          have hnc62 := NB340_342.out
          obtain ⟨hcz63_0, hcz63_1, hcz63_2⟩ := bC3 BK342.out
          obtain ⟨hfz63_0, hfz63_1, hfz63_2⟩ := bF3 BK342.out
          try go_wp2_with (first | ((with_reducible refine gate_callee (f := 41) rfl ?_); refine goesL_ (some 34) rfl rfl Tryz.func41 (by kernel_rfl) rfl #[.agg #[.int .i64 1, .string (a0.extract 0 (t341 : Int).toNat), .string (a0.extract ((ji9) : Int).toNat a0.size)]] rfl (by (try simp only [List.map_toArray, List.map_cons, List.map_nil]); first | done | (simp only [hji9]; rfl) | rfl | (simp only [List.length_drop, List.length_take]; rfl)) ?_; (with_reducible refine (label_Matcher.calls 1 (a0.extract 0 (t341 : Int).toNat) (a0.extract ((ji9) : Int).toNat a0.size) false _ A41.out).mono ?_); rintro e w64 ⟨rfl, hb⟩; refine ⟨_, rfl, ?_⟩; have n0_ := aA (blk_below (g := gb340) (o := .cells #[.int .i64 0, .string (⟨#[]⟩ : ByteArray), .string (⟨#[]⟩ : ByteArray)] 32 (0, 0)) (by (with_reducible repeat (first | refine blk_drewN ?_ _ | refine blk_drew ?_ | refine blk_alloc ?_ _)); refine blk_far ?_ NB340_342.out _; (with_reducible repeat (first | refine blk_drewN ?_ _ | refine blk_drew ?_ | refine blk_alloc ?_ _)); refine blk_far ?_ NB340_342.out _; (with_reducible repeat (first | refine blk_drewN ?_ _ | refine blk_drew ?_ | refine blk_alloc ?_ _)); refine blk_far ?_ NB340_342.out _; (with_reducible repeat (first | refine blk_drewN ?_ _ | refine blk_drew ?_ | refine blk_alloc ?_ _)); refine blk_far ?_ NB340_342.out _; (with_reducible repeat (first | refine blk_drewN ?_ _ | refine blk_drew ?_ | refine blk_alloc ?_ _)); exact BK340.out) hb); have n1_ := aA (blk_below (g := gb342) (o := .cells #[.int .i64 1, .string (a0.extract 0 (t341 : Int).toNat), .string (a0.extract ((ji9) : Int).toNat a0.size)] 32 (0, 0)) (by (with_reducible repeat (first | refine blk_drewN ?_ _ | refine blk_drew ?_ | refine blk_alloc ?_ _)); have h_ := BK342.out; exact pK 0 (pK 2 (pK 1 (pK 0 (h_))))) hb); have n2_ := aA (below_step (mD2 GE340.out GE342.out) hb); clear BK340 BK342 HB; have BK340 := n0_; have BK342 := n1_; have HB := n2_; clear n0_ n1_ n2_; (try clear hb); (try clear hb2); (try clear hk); (try clear hi); obtain ⟨hcz65_0, hcz65_1, hcz65_2⟩ := bC3 BK340.out; obtain ⟨hfz65_0, hfz65_1, hfz65_2⟩ := bF3 BK340.out))
          refine bodyPost_ret (results_ct rfl _ _ gb340 32 #[.int .i64 0, .string (⟨#[]⟩ : ByteArray), .string (⟨#[]⟩ : ByteArray)] (0, 0) _ rfl (by (with_reducible repeat (first | refine blk_drewN ?_ _ | refine blk_drew ?_ | refine blk_alloc ?_ _)); have h_ := BK340.out; exact pK 2 (pK 1 (pK 0 (h_)))) Tryz.underlying32 rfl (by kernel_rfl)) rfl ?_
          exact ⟨by first | rfl | (simp [errW_none, errW_some] <;> rfl) | (simp only [← hji9]; first | rfl | (simp [errW_none, errW_some] <;> rfl)) | (simp [*, errW_none, errW_some] <;> rfl), by repeat (first | (with_reducible first | exact HB.out | apply below_alloc | apply pw_below_drewN | apply below_drew1 | refine below_set ?_ GE340.out | refine below_set ?_ GE342.out) | exact HB.out)⟩
        ·rw [if_neg c40] at H
         have c40b0 : ((wrap32 (bt a0 t341)) == 33) = false := beq_eq_false_iff_ne.mpr c40
         have c40b1 : ((wrap32 (bt a0 t341)) != 33) = true := bne_iff_ne.mpr c40
         by_cases c66 : (wrap32 (bt a0 t341)) = 94
         ·rw [if_pos c66] at H
          have c66b0 : ((wrap32 (bt a0 t341)) == 94) = true := beq_iff_eq.mpr c66
          have c66b1 : ((wrap32 (bt a0 t341)) != 94) = false := bne_eq_false_iff_eq.mpr c66
          clear c66
          replace H := Option.bind_eq_some_iff.mp H
          obtain ⟨t345, A670, H⟩ := H
          replace H : (if t345 = true then (some (2, a0.extract 0 (t341 : Int).toNat, a0.extract ((ji9) : Int).toNat a0.size, 0)) else (some (0, (⟨#[]⟩ : ByteArray), (⟨#[]⟩ : ByteArray), 13))) = some (r1, r2, r3, r4) := H
          have A67 := aA A670
          clear A670
          by_cases c68 : t345 = true
          ·subst c68
           have H1 : (some (2, a0.extract 0 (t341 : Int).toNat, a0.extract ((ji9) : Int).toNat a0.size, 0)) = some (r1, r2, r3, r4) := by rw [if_pos rfl] at H; exact H
           clear H
           have H := H1
           clear H1
           simp only [Option.some.injEq, Prod.mk.injEq] at H
           obtain ⟨rfl, rfl, rfl, rfl⟩ := H
           go_enter Tryz.func12, Tryz.ntmps12
           try go_wp2_with (first | ((with_reducible refine gate_dst (N := 2) rfl ?_); refine box_event ?hg (N := 2) ?hd (cs := #[.int .i64 0, .string (⟨#[]⟩ : ByteArray), .string (⟨#[]⟩ : ByteArray)]) (t := 32) ?hr ?_; (case hd => rfl); (case hg => rfl); (case hr => first | (go_simp; done) | (go_simp; rfl)); intro gb340 hg w69 hbox hb; have n0_ := aA (below_step mB hb); have n1_ := aA (hbox); have n2_ := aA ((bZ hg mB)); have n3_ := aA ((bZ hg mB)); clear HB; have HB := n0_; have BK340 := n1_; have GW340 := n2_; have GE340 := n3_; clear n0_ n1_ n2_ n3_ hb hbox hg) | ((with_reducible refine gate_callee (f := 40) rfl ?_); refine goesL_ (some 7) rfl rfl Tryz.func40 (by kernel_rfl) rfl #[.string a0, .string (⟨#[61, 33, 94, 63]⟩ : ByteArray)] rfl mS ?_; (with_reducible refine (strings_IndexAny.calls a0 (⟨#[61, 33, 94, 63]⟩ : ByteArray) t341 _ A2.out).mono ?_); rintro e w70 ⟨rfl, hb⟩; refine ⟨_, rfl, ?_⟩; have n0_ := aA (bB BK340.out hb); have n1_ := aA (below_step (mD1 GE340.out) hb); clear BK340 HB; have BK340 := n0_; have HB := n1_; clear n0_ n1_; (try clear hb); (try clear hb2); (try clear hk); (try clear hi)))
           have n0_ := aA (blk_drew BK340.out)
           have n1_ := aA (below_drew1 HB.out)
           clear BK340
           clear HB
           have BK340 := n0_
           have HB := n1_
           clear n0_ n1_
           refine start_ (n := 10) (S := fun w' => True) (ds := []) (bA 10 0) (by kernel_rfl) rfl rfl trivial (fun hHeld => ?_); refine with_tabW wire_Asked.tab4 wire_Asked.bits4 (fun HT_ HW_ => ?_)
           generalize w70.drew = w71 at BK340 HB hHeld ⊢
           refine pure_ (i := 0) (N := some 11) (v := ?_) (a' := ?_) (bA 10 1) rfl rfl (any_of HT_.out (by kernel_rfl)) (fun _ _ _ h => h) (Or.inl ⟨by rfl, ?_⟩) ?_ ?_
           rotate_left
           ·intro w'
            go_simp
            with_reducible rfl
           rotate_left
           ·exact mP
           refine pure_ (i := 1) (N := some 12) (v := ?_) (a' := ?_) (bA 10 3) rfl rfl (any_of HT_.out (by kernel_rfl)) (fun _ _ _ h => h) (Or.inl ⟨by rfl, ?_⟩) ?_ ?_
           rotate_left
           ·intro w'
            go_simp
            with_reducible rfl
           rotate_left
           ·exact mP
           refine pure_ (i := 2) (N := some 13) (v := ?_) (a' := ?_) (bA 10 7) rfl rfl (any_of HT_.out (by kernel_rfl)) (fun _ _ _ h => h) (Or.inl ⟨by rfl, ?_⟩) ?_ ?_
           rotate_left
           ·intro w'
            go_simp
            with_reducible rfl
           rotate_left
           ·exact mP
           refine pure_ (i := 3) (N := some 14) (v := ?_) (a' := ?_) (bA 10 15) rfl rfl (any_of HT_.out (by kernel_rfl)) (fun _ _ _ h => h) (Or.inl ⟨by rfl, ?_⟩) ?_ ?_
           rotate_left
           ·intro w'
            go_simp
            with_reducible rfl
           rotate_left
           ·exact mP
           refine pure_ (i := 4) (N := some 15) (v := ?_) (a' := ?_) (bA 10 31) rfl rfl (any_of HT_.out (by kernel_rfl)) (fun _ _ _ h => h) (Or.inl ⟨by rfl, ?_⟩) ?_ ?_
           rotate_left
           ·intro w'
            go_simp
            with_reducible rfl
           rotate_left
           ·exact mP
           refine pure_ (i := 5) (N := some 16) (v := ?_) (a' := ?_) (bA 10 63) rfl rfl (any_of HT_.out (by kernel_rfl)) (fun _ _ _ h => h) (Or.inl ⟨by rfl, ?_⟩) ?_ ?_
           rotate_left
           ·intro w'
            go_simp
            with_reducible rfl
           rotate_left
           ·exact mP
           refine pure_ (i := 6) (N := some 17) (v := ?_) (a' := ?_) (bA 10 127) rfl rfl (any_of HT_.out (by kernel_rfl)) (fun _ _ _ h => h) (Or.inl ⟨by rfl, ?_⟩) ?_ ?_
           rotate_left
           ·intro w'
            go_simp
            with_reducible rfl
           rotate_left
           ·exact mP
           refine pure_ (i := 7) (N := some 18) (v := ?_) (a' := ?_) (bA 10 255) rfl rfl (any_of HT_.out (by kernel_rfl)) (fun _ _ _ h => h) (Or.inl ⟨by rfl, ?_⟩) ?_ ?_
           rotate_left
           ·intro w'
            go_simp
            with_reducible rfl
           rotate_left
           ·exact mP
           refine one_ (i := 8) (N := some 5) (bA 10 511) rfl rfl (one_of HT_.out (by kernel_rfl)) (by decide) (fun K hK => ?_)
           refine box_step ?hg (N := 5) ?hd (cs := #[.int .i64 0, .string (⟨#[]⟩ : ByteArray), .string (⟨#[]⟩ : ByteArray)]) (t := 32) ?hr ?_; (case hd => rfl); (case hg => rfl); (case hr => first | (go_simp; done) | (go_simp; rfl))
           intro gb342 hg w72 hbox hb
           have n0_ := aA (bB BK340.out hb)
           have n1_ := aA (below_step (mD1 GE340.out) hb)
           have n2_ := aA (hbox)
           have n3_ := aA ((bZ hg (mD1 GE340.out)))
           have n4_ := aA ((bZ hg (mD1 GE340.out)))
           have n5_ := aA ((bL hg BK340.out))
           have n6_ := aA ((bG hg BK340.out))
           clear BK340
           clear HB
           have BK340 := n0_
           have HB := n1_
           have BK342 := n2_
           have GW342 := n3_
           have GE342 := n4_
           have NB340_342 := n5_
           have NB342_340 := n6_
           clear n0_ n1_ n2_ n3_ n4_ n5_ n6_
           clear hb hbox hg
           refine hK.out _ _ trivial (fun hHeld => ?_)
           clear hK K
           refine norm_ (a' := ?_) ?_ ?_
           rotate_left
           ·show Act.put _ (some 5) _ = _
            simp only [Act.put, List.setIfInBounds_toArray, List.set_cons_zero, List.set_cons_succ, i64_w, i32_w]
            rfl
           refine one_ (i := 9) (N := none) (bA 10 1023) rfl rfl (one_of HT_.out (by kernel_rfl)) (by decide) (fun K hK => ?_)
           have hs73 : w72.cell? ⟨gb342, 0, none⟩ = some (.int .i64 0) := (blk_cell BK342.out 0).trans rfl
           have hfs73 := blk_frozen BK342.out 0
           have hns73_0 := NB340_342.out
           have hms73_0 := NB342_340.out
           have hs74 : w72.cell? ⟨gb342, 1, none⟩ = some (.string (⟨#[]⟩ : ByteArray)) := (blk_cell BK342.out 1).trans rfl
           have hfs74 := blk_frozen BK342.out 1
           have hns74_0 := NB340_342.out
           have hms74_0 := NB342_340.out
           have hs75 : w72.cell? ⟨gb342, 2, none⟩ = some (.string (⟨#[]⟩ : ByteArray)) := (blk_cell BK342.out 2).trans rfl
           have hfs75 := blk_frozen BK342.out 2
           have hns75_0 := NB340_342.out
           have hms75_0 := NB342_340.out
           refine skip_ (w1 := ?_) (by rfl) rfl ?_ ?_
           rotate_left
           ·go_simp
            rfl
           refine hK.out _ _ trivial (fun hHeld => ?_)
           clear hK K
           refine done_ (done_of HT_.out (by kernel_rfl)) ?_
           have p13 : 0 ≤ (t341 : Int) := of_decide_eq_true (by first | (with_reducible assumption) | assumption)
           have q13 : t341 < (a0.size : Int) := of_decide_eq_true (by first | (with_reducible assumption) | assumption)
           have hx13 := bt_at a0 t341
           replace p13 := eq_true p13
           replace q13 := eq_true q13
           have hnb76 := NB342_340.out
           have hnc76 := NB340_342.out
           obtain ⟨hcz77_0, hcz77_1, hcz77_2⟩ := bC3 BK342.out
           obtain ⟨hfz77_0, hfz77_1, hfz77_2⟩ := bF3 BK342.out
           try go_wp2_with (first | ((with_reducible refine gate_callee (f := 41) rfl ?_); refine goesL_ (some 34) rfl rfl Tryz.func41 (by kernel_rfl) rfl #[.agg #[.int .i64 2, .string (a0.extract 0 (t341 : Int).toNat), .string (a0.extract ((ji9) : Int).toNat a0.size)]] rfl (by (try simp only [List.map_toArray, List.map_cons, List.map_nil]); first | done | (simp only [hji9]; rfl) | rfl | (simp only [List.length_drop, List.length_take]; rfl)) ?_; (with_reducible refine (label_Matcher.calls 2 (a0.extract 0 (t341 : Int).toNat) (a0.extract ((ji9) : Int).toNat a0.size) true _ A67.out).mono ?_); rintro e w78 ⟨rfl, hb⟩; refine ⟨_, rfl, ?_⟩; have n0_ := aA (blk_below (g := gb340) (o := .cells #[.int .i64 0, .string (⟨#[]⟩ : ByteArray), .string (⟨#[]⟩ : ByteArray)] 32 (0, 0)) (by (with_reducible repeat (first | refine blk_drewN ?_ _ | refine blk_drew ?_ | refine blk_alloc ?_ _)); refine blk_far ?_ NB340_342.out _; (with_reducible repeat (first | refine blk_drewN ?_ _ | refine blk_drew ?_ | refine blk_alloc ?_ _)); refine blk_far ?_ NB340_342.out _; (with_reducible repeat (first | refine blk_drewN ?_ _ | refine blk_drew ?_ | refine blk_alloc ?_ _)); refine blk_far ?_ NB340_342.out _; (with_reducible repeat (first | refine blk_drewN ?_ _ | refine blk_drew ?_ | refine blk_alloc ?_ _)); refine blk_far ?_ NB340_342.out _; (with_reducible repeat (first | refine blk_drewN ?_ _ | refine blk_drew ?_ | refine blk_alloc ?_ _)); exact BK340.out) hb); have n1_ := aA (blk_below (g := gb342) (o := .cells #[.int .i64 2, .string (a0.extract 0 (t341 : Int).toNat), .string (a0.extract ((ji9) : Int).toNat a0.size)] 32 (0, 0)) (by (with_reducible repeat (first | refine blk_drewN ?_ _ | refine blk_drew ?_ | refine blk_alloc ?_ _)); have h_ := BK342.out; exact pK 0 (pK 2 (pK 1 (pK 0 (h_))))) hb); have n2_ := aA (below_step (mD2 GE340.out GE342.out) hb); clear BK340 BK342 HB; have BK340 := n0_; have BK342 := n1_; have HB := n2_; clear n0_ n1_ n2_; (try clear hb); (try clear hb2); (try clear hk); (try clear hi); obtain ⟨hcz79_0, hcz79_1, hcz79_2⟩ := bC3 BK342.out; obtain ⟨hfz79_0, hfz79_1, hfz79_2⟩ := bF3 BK342.out; obtain ⟨hcz80_0, hcz80_1, hcz80_2⟩ := bC3 BK340.out; obtain ⟨hfz80_0, hfz80_1, hfz80_2⟩ := bF3 BK340.out))
           refine bodyPost_ret (results_ct rfl _ _ gb340 32 #[.int .i64 2, .string (a0.extract 0 (t341 : Int).toNat), .string (a0.extract ((ji9) : Int).toNat a0.size)] (0, 0) _ rfl (by (with_reducible repeat (first | refine blk_drewN ?_ _ | refine blk_drew ?_ | refine blk_alloc ?_ _)); have h_ := BK340.out; exact pK 2 (pK 1 (pK 0 (h_)))) Tryz.underlying32 rfl (by kernel_rfl)) rfl ?_
           exact ⟨by first | rfl | (simp [errW_none, errW_some] <;> rfl) | (simp only [← hji9]; first | rfl | (simp [errW_none, errW_some] <;> rfl)) | (simp [*, errW_none, errW_some] <;> rfl), by repeat (first | (with_reducible first | exact HB.out | apply below_alloc | apply pw_below_drewN | apply below_drew1 | refine below_set ?_ GE340.out | refine below_set ?_ GE342.out) | exact HB.out)⟩
          ·replace c68 := Bool.eq_false_iff.mpr c68
           subst c68
           have H1 : (some (0, (⟨#[]⟩ : ByteArray), (⟨#[]⟩ : ByteArray), 13)) = some (r1, r2, r3, r4) := by rw [if_neg (show ¬ (false = true) by decide)] at H; exact H
           clear H
           have H := H1
           clear H1
           simp only [Option.some.injEq, Prod.mk.injEq] at H
           obtain ⟨rfl, rfl, rfl, rfl⟩ := H
           go_enter Tryz.func12, Tryz.ntmps12
           try go_wp2_with (first | ((with_reducible refine gate_dst (N := 2) rfl ?_); refine box_event ?hg (N := 2) ?hd (cs := #[.int .i64 0, .string (⟨#[]⟩ : ByteArray), .string (⟨#[]⟩ : ByteArray)]) (t := 32) ?hr ?_; (case hd => rfl); (case hg => rfl); (case hr => first | (go_simp; done) | (go_simp; rfl)); intro gb340 hg w81 hbox hb; have n0_ := aA (below_step mB hb); have n1_ := aA (hbox); have n2_ := aA ((bZ hg mB)); have n3_ := aA ((bZ hg mB)); clear HB; have HB := n0_; have BK340 := n1_; have GW340 := n2_; have GE340 := n3_; clear n0_ n1_ n2_ n3_ hb hbox hg) | ((with_reducible refine gate_callee (f := 40) rfl ?_); refine goesL_ (some 7) rfl rfl Tryz.func40 (by kernel_rfl) rfl #[.string a0, .string (⟨#[61, 33, 94, 63]⟩ : ByteArray)] rfl mS ?_; (with_reducible refine (strings_IndexAny.calls a0 (⟨#[61, 33, 94, 63]⟩ : ByteArray) t341 _ A2.out).mono ?_); rintro e w82 ⟨rfl, hb⟩; refine ⟨_, rfl, ?_⟩; have n0_ := aA (bB BK340.out hb); have n1_ := aA (below_step (mD1 GE340.out) hb); clear BK340 HB; have BK340 := n0_; have HB := n1_; clear n0_ n1_; (try clear hb); (try clear hb2); (try clear hk); (try clear hi)))
           have n0_ := aA (blk_drew BK340.out)
           have n1_ := aA (below_drew1 HB.out)
           clear BK340
           clear HB
           have BK340 := n0_
           have HB := n1_
           clear n0_ n1_
           refine start_ (n := 10) (S := fun w' => True) (ds := []) (bA 10 0) (by kernel_rfl) rfl rfl trivial (fun hHeld => ?_); refine with_tabW wire_Asked.tab4 wire_Asked.bits4 (fun HT_ HW_ => ?_)
           generalize w82.drew = w83 at BK340 HB hHeld ⊢
           refine pure_ (i := 0) (N := some 11) (v := ?_) (a' := ?_) (bA 10 1) rfl rfl (any_of HT_.out (by kernel_rfl)) (fun _ _ _ h => h) (Or.inl ⟨by rfl, ?_⟩) ?_ ?_
           rotate_left
           ·intro w'
            go_simp
            with_reducible rfl
           rotate_left
           ·exact mP
           refine pure_ (i := 1) (N := some 12) (v := ?_) (a' := ?_) (bA 10 3) rfl rfl (any_of HT_.out (by kernel_rfl)) (fun _ _ _ h => h) (Or.inl ⟨by rfl, ?_⟩) ?_ ?_
           rotate_left
           ·intro w'
            go_simp
            with_reducible rfl
           rotate_left
           ·exact mP
           refine pure_ (i := 2) (N := some 13) (v := ?_) (a' := ?_) (bA 10 7) rfl rfl (any_of HT_.out (by kernel_rfl)) (fun _ _ _ h => h) (Or.inl ⟨by rfl, ?_⟩) ?_ ?_
           rotate_left
           ·intro w'
            go_simp
            with_reducible rfl
           rotate_left
           ·exact mP
           refine pure_ (i := 3) (N := some 14) (v := ?_) (a' := ?_) (bA 10 15) rfl rfl (any_of HT_.out (by kernel_rfl)) (fun _ _ _ h => h) (Or.inl ⟨by rfl, ?_⟩) ?_ ?_
           rotate_left
           ·intro w'
            go_simp
            with_reducible rfl
           rotate_left
           ·exact mP
           refine pure_ (i := 4) (N := some 15) (v := ?_) (a' := ?_) (bA 10 31) rfl rfl (any_of HT_.out (by kernel_rfl)) (fun _ _ _ h => h) (Or.inl ⟨by rfl, ?_⟩) ?_ ?_
           rotate_left
           ·intro w'
            go_simp
            with_reducible rfl
           rotate_left
           ·exact mP
           refine pure_ (i := 5) (N := some 16) (v := ?_) (a' := ?_) (bA 10 63) rfl rfl (any_of HT_.out (by kernel_rfl)) (fun _ _ _ h => h) (Or.inl ⟨by rfl, ?_⟩) ?_ ?_
           rotate_left
           ·intro w'
            go_simp
            with_reducible rfl
           rotate_left
           ·exact mP
           refine pure_ (i := 6) (N := some 17) (v := ?_) (a' := ?_) (bA 10 127) rfl rfl (any_of HT_.out (by kernel_rfl)) (fun _ _ _ h => h) (Or.inl ⟨by rfl, ?_⟩) ?_ ?_
           rotate_left
           ·intro w'
            go_simp
            with_reducible rfl
           rotate_left
           ·exact mP
           refine pure_ (i := 7) (N := some 18) (v := ?_) (a' := ?_) (bA 10 255) rfl rfl (any_of HT_.out (by kernel_rfl)) (fun _ _ _ h => h) (Or.inl ⟨by rfl, ?_⟩) ?_ ?_
           rotate_left
           ·intro w'
            go_simp
            with_reducible rfl
           rotate_left
           ·exact mP
           refine one_ (i := 8) (N := some 5) (bA 10 511) rfl rfl (one_of HT_.out (by kernel_rfl)) (by decide) (fun K hK => ?_)
           refine box_step ?hg (N := 5) ?hd (cs := #[.int .i64 0, .string (⟨#[]⟩ : ByteArray), .string (⟨#[]⟩ : ByteArray)]) (t := 32) ?hr ?_; (case hd => rfl); (case hg => rfl); (case hr => first | (go_simp; done) | (go_simp; rfl))
           intro gb342 hg w84 hbox hb
           have n0_ := aA (bB BK340.out hb)
           have n1_ := aA (below_step (mD1 GE340.out) hb)
           have n2_ := aA (hbox)
           have n3_ := aA ((bZ hg (mD1 GE340.out)))
           have n4_ := aA ((bZ hg (mD1 GE340.out)))
           have n5_ := aA ((bL hg BK340.out))
           have n6_ := aA ((bG hg BK340.out))
           clear BK340
           clear HB
           have BK340 := n0_
           have HB := n1_
           have BK342 := n2_
           have GW342 := n3_
           have GE342 := n4_
           have NB340_342 := n5_
           have NB342_340 := n6_
           clear n0_ n1_ n2_ n3_ n4_ n5_ n6_
           clear hb hbox hg
           refine hK.out _ _ trivial (fun hHeld => ?_)
           clear hK K
           refine norm_ (a' := ?_) ?_ ?_
           rotate_left
           ·show Act.put _ (some 5) _ = _
            simp only [Act.put, List.setIfInBounds_toArray, List.set_cons_zero, List.set_cons_succ, i64_w, i32_w]
            rfl
           refine one_ (i := 9) (N := none) (bA 10 1023) rfl rfl (one_of HT_.out (by kernel_rfl)) (by decide) (fun K hK => ?_)
           have hs85 : w84.cell? ⟨gb342, 0, none⟩ = some (.int .i64 0) := (blk_cell BK342.out 0).trans rfl
           have hfs85 := blk_frozen BK342.out 0
           have hns85_0 := NB340_342.out
           have hms85_0 := NB342_340.out
           have hs86 : w84.cell? ⟨gb342, 1, none⟩ = some (.string (⟨#[]⟩ : ByteArray)) := (blk_cell BK342.out 1).trans rfl
           have hfs86 := blk_frozen BK342.out 1
           have hns86_0 := NB340_342.out
           have hms86_0 := NB342_340.out
           have hs87 : w84.cell? ⟨gb342, 2, none⟩ = some (.string (⟨#[]⟩ : ByteArray)) := (blk_cell BK342.out 2).trans rfl
           have hfs87 := blk_frozen BK342.out 2
           have hns87_0 := NB340_342.out
           have hms87_0 := NB342_340.out
           refine skip_ (w1 := ?_) (by rfl) rfl ?_ ?_
           rotate_left
           ·go_simp
            rfl
           refine hK.out _ _ trivial (fun hHeld => ?_)
           clear hK K
           refine done_ (done_of HT_.out (by kernel_rfl)) ?_
           have p13 : 0 ≤ (t341 : Int) := of_decide_eq_true (by first | (with_reducible assumption) | assumption)
           have q13 : t341 < (a0.size : Int) := of_decide_eq_true (by first | (with_reducible assumption) | assumption)
           have hx13 := bt_at a0 t341
           replace p13 := eq_true p13
           replace q13 := eq_true q13
           have hnb88 := NB342_340.out
           have hnc88 := NB340_342.out
           obtain ⟨hcz89_0, hcz89_1, hcz89_2⟩ := bC3 BK342.out
           obtain ⟨hfz89_0, hfz89_1, hfz89_2⟩ := bF3 BK342.out
           try go_wp2_with (first | ((with_reducible refine gate_callee (f := 41) rfl ?_); refine goesL_ (some 34) rfl rfl Tryz.func41 (by kernel_rfl) rfl #[.agg #[.int .i64 2, .string (a0.extract 0 (t341 : Int).toNat), .string (a0.extract ((ji9) : Int).toNat a0.size)]] rfl (by (try simp only [List.map_toArray, List.map_cons, List.map_nil]); first | done | (simp only [hji9]; rfl) | rfl | (simp only [List.length_drop, List.length_take]; rfl)) ?_; (with_reducible refine (label_Matcher.calls 2 (a0.extract 0 (t341 : Int).toNat) (a0.extract ((ji9) : Int).toNat a0.size) false _ A67.out).mono ?_); rintro e w90 ⟨rfl, hb⟩; refine ⟨_, rfl, ?_⟩; have n0_ := aA (blk_below (g := gb340) (o := .cells #[.int .i64 0, .string (⟨#[]⟩ : ByteArray), .string (⟨#[]⟩ : ByteArray)] 32 (0, 0)) (by (with_reducible repeat (first | refine blk_drewN ?_ _ | refine blk_drew ?_ | refine blk_alloc ?_ _)); refine blk_far ?_ NB340_342.out _; (with_reducible repeat (first | refine blk_drewN ?_ _ | refine blk_drew ?_ | refine blk_alloc ?_ _)); refine blk_far ?_ NB340_342.out _; (with_reducible repeat (first | refine blk_drewN ?_ _ | refine blk_drew ?_ | refine blk_alloc ?_ _)); refine blk_far ?_ NB340_342.out _; (with_reducible repeat (first | refine blk_drewN ?_ _ | refine blk_drew ?_ | refine blk_alloc ?_ _)); refine blk_far ?_ NB340_342.out _; (with_reducible repeat (first | refine blk_drewN ?_ _ | refine blk_drew ?_ | refine blk_alloc ?_ _)); exact BK340.out) hb); have n1_ := aA (blk_below (g := gb342) (o := .cells #[.int .i64 2, .string (a0.extract 0 (t341 : Int).toNat), .string (a0.extract ((ji9) : Int).toNat a0.size)] 32 (0, 0)) (by (with_reducible repeat (first | refine blk_drewN ?_ _ | refine blk_drew ?_ | refine blk_alloc ?_ _)); have h_ := BK342.out; exact pK 0 (pK 2 (pK 1 (pK 0 (h_))))) hb); have n2_ := aA (below_step (mD2 GE340.out GE342.out) hb); clear BK340 BK342 HB; have BK340 := n0_; have BK342 := n1_; have HB := n2_; clear n0_ n1_ n2_; (try clear hb); (try clear hb2); (try clear hk); (try clear hi); obtain ⟨hcz91_0, hcz91_1, hcz91_2⟩ := bC3 BK340.out; obtain ⟨hfz91_0, hfz91_1, hfz91_2⟩ := bF3 BK340.out))
           refine bodyPost_ret (results_ct rfl _ _ gb340 32 #[.int .i64 0, .string (⟨#[]⟩ : ByteArray), .string (⟨#[]⟩ : ByteArray)] (0, 0) _ rfl (by (with_reducible repeat (first | refine blk_drewN ?_ _ | refine blk_drew ?_ | refine blk_alloc ?_ _)); have h_ := BK340.out; exact pK 2 (pK 1 (pK 0 (h_)))) Tryz.underlying32 rfl (by kernel_rfl)) rfl ?_
           exact ⟨by first | rfl | (simp [errW_none, errW_some] <;> rfl) | (simp only [← hji9]; first | rfl | (simp [errW_none, errW_some] <;> rfl)) | (simp [*, errW_none, errW_some] <;> rfl), by repeat (first | (with_reducible first | exact HB.out | apply below_alloc | apply pw_below_drewN | apply below_drew1 | refine below_set ?_ GE340.out | refine below_set ?_ GE342.out) | exact HB.out)⟩
         ·rw [if_neg c66] at H
          have c66b0 : ((wrap32 (bt a0 t341)) == 94) = false := beq_eq_false_iff_ne.mpr c66
          have c66b1 : ((wrap32 (bt a0 t341)) != 94) = true := bne_iff_ne.mpr c66
          replace H := Option.bind_eq_some_iff.mp H
          obtain ⟨t346, A920, H⟩ := H
          replace H : (if t346 = true then (some (3, a0.extract 0 (t341 : Int).toNat, a0.extract ((ji9) : Int).toNat a0.size, 0)) else (some (0, (⟨#[]⟩ : ByteArray), (⟨#[]⟩ : ByteArray), 13))) = some (r1, r2, r3, r4) := H
          have A92 := aA A920
          clear A920
          by_cases c93 : t346 = true
          ·subst c93
           have H1 : (some (3, a0.extract 0 (t341 : Int).toNat, a0.extract ((ji9) : Int).toNat a0.size, 0)) = some (r1, r2, r3, r4) := by rw [if_pos rfl] at H; exact H
           clear H
           have H := H1
           clear H1
           simp only [Option.some.injEq, Prod.mk.injEq] at H
           obtain ⟨rfl, rfl, rfl, rfl⟩ := H
           go_enter Tryz.func12, Tryz.ntmps12
           try go_wp2_with (first | ((with_reducible refine gate_dst (N := 2) rfl ?_); refine box_event ?hg (N := 2) ?hd (cs := #[.int .i64 0, .string (⟨#[]⟩ : ByteArray), .string (⟨#[]⟩ : ByteArray)]) (t := 32) ?hr ?_; (case hd => rfl); (case hg => rfl); (case hr => first | (go_simp; done) | (go_simp; rfl)); intro gb340 hg w94 hbox hb; have n0_ := aA (below_step mB hb); have n1_ := aA (hbox); have n2_ := aA ((bZ hg mB)); have n3_ := aA ((bZ hg mB)); clear HB; have HB := n0_; have BK340 := n1_; have GW340 := n2_; have GE340 := n3_; clear n0_ n1_ n2_ n3_ hb hbox hg) | ((with_reducible refine gate_callee (f := 40) rfl ?_); refine goesL_ (some 7) rfl rfl Tryz.func40 (by kernel_rfl) rfl #[.string a0, .string (⟨#[61, 33, 94, 63]⟩ : ByteArray)] rfl mS ?_; (with_reducible refine (strings_IndexAny.calls a0 (⟨#[61, 33, 94, 63]⟩ : ByteArray) t341 _ A2.out).mono ?_); rintro e w95 ⟨rfl, hb⟩; refine ⟨_, rfl, ?_⟩; have n0_ := aA (bB BK340.out hb); have n1_ := aA (below_step (mD1 GE340.out) hb); clear BK340 HB; have BK340 := n0_; have HB := n1_; clear n0_ n1_; (try clear hb); (try clear hb2); (try clear hk); (try clear hi)))
           have n0_ := aA (blk_drew BK340.out)
           have n1_ := aA (below_drew1 HB.out)
           clear BK340
           clear HB
           have BK340 := n0_
           have HB := n1_
           clear n0_ n1_
           refine start_ (n := 10) (S := fun w' => True) (ds := []) (bA 10 0) (by kernel_rfl) rfl rfl trivial (fun hHeld => ?_); refine with_tabW wire_Asked.tab4 wire_Asked.bits4 (fun HT_ HW_ => ?_)
           generalize w95.drew = w96 at BK340 HB hHeld ⊢
           refine pure_ (i := 0) (N := some 11) (v := ?_) (a' := ?_) (bA 10 1) rfl rfl (any_of HT_.out (by kernel_rfl)) (fun _ _ _ h => h) (Or.inl ⟨by rfl, ?_⟩) ?_ ?_
           rotate_left
           ·intro w'
            go_simp
            with_reducible rfl
           rotate_left
           ·exact mP
           refine pure_ (i := 1) (N := some 12) (v := ?_) (a' := ?_) (bA 10 3) rfl rfl (any_of HT_.out (by kernel_rfl)) (fun _ _ _ h => h) (Or.inl ⟨by rfl, ?_⟩) ?_ ?_
           rotate_left
           ·intro w'
            go_simp
            with_reducible rfl
           rotate_left
           ·exact mP
           refine pure_ (i := 2) (N := some 13) (v := ?_) (a' := ?_) (bA 10 7) rfl rfl (any_of HT_.out (by kernel_rfl)) (fun _ _ _ h => h) (Or.inl ⟨by rfl, ?_⟩) ?_ ?_
           rotate_left
           ·intro w'
            go_simp
            with_reducible rfl
           rotate_left
           ·exact mP
           refine pure_ (i := 3) (N := some 14) (v := ?_) (a' := ?_) (bA 10 15) rfl rfl (any_of HT_.out (by kernel_rfl)) (fun _ _ _ h => h) (Or.inl ⟨by rfl, ?_⟩) ?_ ?_
           rotate_left
           ·intro w'
            go_simp
            with_reducible rfl
           rotate_left
           ·exact mP
           refine pure_ (i := 4) (N := some 15) (v := ?_) (a' := ?_) (bA 10 31) rfl rfl (any_of HT_.out (by kernel_rfl)) (fun _ _ _ h => h) (Or.inl ⟨by rfl, ?_⟩) ?_ ?_
           rotate_left
           ·intro w'
            go_simp
            with_reducible rfl
           rotate_left
           ·exact mP
           refine pure_ (i := 5) (N := some 16) (v := ?_) (a' := ?_) (bA 10 63) rfl rfl (any_of HT_.out (by kernel_rfl)) (fun _ _ _ h => h) (Or.inl ⟨by rfl, ?_⟩) ?_ ?_
           rotate_left
           ·intro w'
            go_simp
            with_reducible rfl
           rotate_left
           ·exact mP
           refine pure_ (i := 6) (N := some 17) (v := ?_) (a' := ?_) (bA 10 127) rfl rfl (any_of HT_.out (by kernel_rfl)) (fun _ _ _ h => h) (Or.inl ⟨by rfl, ?_⟩) ?_ ?_
           rotate_left
           ·intro w'
            go_simp
            with_reducible rfl
           rotate_left
           ·exact mP
           refine pure_ (i := 7) (N := some 18) (v := ?_) (a' := ?_) (bA 10 255) rfl rfl (any_of HT_.out (by kernel_rfl)) (fun _ _ _ h => h) (Or.inl ⟨by rfl, ?_⟩) ?_ ?_
           rotate_left
           ·intro w'
            go_simp
            with_reducible rfl
           rotate_left
           ·exact mP
           refine one_ (i := 8) (N := some 5) (bA 10 511) rfl rfl (one_of HT_.out (by kernel_rfl)) (by decide) (fun K hK => ?_)
           refine box_step ?hg (N := 5) ?hd (cs := #[.int .i64 0, .string (⟨#[]⟩ : ByteArray), .string (⟨#[]⟩ : ByteArray)]) (t := 32) ?hr ?_; (case hd => rfl); (case hg => rfl); (case hr => first | (go_simp; done) | (go_simp; rfl))
           intro gb342 hg w97 hbox hb
           have n0_ := aA (bB BK340.out hb)
           have n1_ := aA (below_step (mD1 GE340.out) hb)
           have n2_ := aA (hbox)
           have n3_ := aA ((bZ hg (mD1 GE340.out)))
           have n4_ := aA ((bZ hg (mD1 GE340.out)))
           have n5_ := aA ((bL hg BK340.out))
           have n6_ := aA ((bG hg BK340.out))
           clear BK340
           clear HB
           have BK340 := n0_
           have HB := n1_
           have BK342 := n2_
           have GW342 := n3_
           have GE342 := n4_
           have NB340_342 := n5_
           have NB342_340 := n6_
           clear n0_ n1_ n2_ n3_ n4_ n5_ n6_
           clear hb hbox hg
           refine hK.out _ _ trivial (fun hHeld => ?_)
           clear hK K
           refine norm_ (a' := ?_) ?_ ?_
           rotate_left
           ·show Act.put _ (some 5) _ = _
            simp only [Act.put, List.setIfInBounds_toArray, List.set_cons_zero, List.set_cons_succ, i64_w, i32_w]
            rfl
           refine one_ (i := 9) (N := none) (bA 10 1023) rfl rfl (one_of HT_.out (by kernel_rfl)) (by decide) (fun K hK => ?_)
           have hs98 : w97.cell? ⟨gb342, 0, none⟩ = some (.int .i64 0) := (blk_cell BK342.out 0).trans rfl
           have hfs98 := blk_frozen BK342.out 0
           have hns98_0 := NB340_342.out
           have hms98_0 := NB342_340.out
           have hs99 : w97.cell? ⟨gb342, 1, none⟩ = some (.string (⟨#[]⟩ : ByteArray)) := (blk_cell BK342.out 1).trans rfl
           have hfs99 := blk_frozen BK342.out 1
           have hns99_0 := NB340_342.out
           have hms99_0 := NB342_340.out
           have hs100 : w97.cell? ⟨gb342, 2, none⟩ = some (.string (⟨#[]⟩ : ByteArray)) := (blk_cell BK342.out 2).trans rfl
           have hfs100 := blk_frozen BK342.out 2
           have hns100_0 := NB340_342.out
           have hms100_0 := NB342_340.out
           refine skip_ (w1 := ?_) (by rfl) rfl ?_ ?_
           rotate_left
           ·go_simp
            rfl
           refine hK.out _ _ trivial (fun hHeld => ?_)
           clear hK K
           refine done_ (done_of HT_.out (by kernel_rfl)) ?_
           have p13 : 0 ≤ (t341 : Int) := of_decide_eq_true (by first | (with_reducible assumption) | assumption)
           have q13 : t341 < (a0.size : Int) := of_decide_eq_true (by first | (with_reducible assumption) | assumption)
           have hx13 := bt_at a0 t341
           replace p13 := eq_true p13
           replace q13 := eq_true q13
           have hnb101 := NB342_340.out
           have hnc101 := NB340_342.out
           obtain ⟨hcz102_0, hcz102_1, hcz102_2⟩ := bC3 BK342.out
           obtain ⟨hfz102_0, hfz102_1, hfz102_2⟩ := bF3 BK342.out
           try go_wp2_with (first | ((with_reducible refine gate_callee (f := 41) rfl ?_); refine goesL_ (some 34) rfl rfl Tryz.func41 (by kernel_rfl) rfl #[.agg #[.int .i64 3, .string (a0.extract 0 (t341 : Int).toNat), .string (a0.extract ((ji9) : Int).toNat a0.size)]] rfl (by (try simp only [List.map_toArray, List.map_cons, List.map_nil]); first | done | (simp only [hji9]; rfl) | rfl | (simp only [List.length_drop, List.length_take]; rfl)) ?_; (with_reducible refine (label_Matcher.calls 3 (a0.extract 0 (t341 : Int).toNat) (a0.extract ((ji9) : Int).toNat a0.size) true _ A92.out).mono ?_); rintro e w103 ⟨rfl, hb⟩; refine ⟨_, rfl, ?_⟩; have n0_ := aA (blk_below (g := gb340) (o := .cells #[.int .i64 0, .string (⟨#[]⟩ : ByteArray), .string (⟨#[]⟩ : ByteArray)] 32 (0, 0)) (by (with_reducible repeat (first | refine blk_drewN ?_ _ | refine blk_drew ?_ | refine blk_alloc ?_ _)); refine blk_far ?_ NB340_342.out _; (with_reducible repeat (first | refine blk_drewN ?_ _ | refine blk_drew ?_ | refine blk_alloc ?_ _)); refine blk_far ?_ NB340_342.out _; (with_reducible repeat (first | refine blk_drewN ?_ _ | refine blk_drew ?_ | refine blk_alloc ?_ _)); refine blk_far ?_ NB340_342.out _; (with_reducible repeat (first | refine blk_drewN ?_ _ | refine blk_drew ?_ | refine blk_alloc ?_ _)); refine blk_far ?_ NB340_342.out _; (with_reducible repeat (first | refine blk_drewN ?_ _ | refine blk_drew ?_ | refine blk_alloc ?_ _)); exact BK340.out) hb); have n1_ := aA (blk_below (g := gb342) (o := .cells #[.int .i64 3, .string (a0.extract 0 (t341 : Int).toNat), .string (a0.extract ((ji9) : Int).toNat a0.size)] 32 (0, 0)) (by (with_reducible repeat (first | refine blk_drewN ?_ _ | refine blk_drew ?_ | refine blk_alloc ?_ _)); have h_ := BK342.out; exact pK 0 (pK 2 (pK 1 (pK 0 (h_))))) hb); have n2_ := aA (below_step (mD2 GE340.out GE342.out) hb); clear BK340 BK342 HB; have BK340 := n0_; have BK342 := n1_; have HB := n2_; clear n0_ n1_ n2_; (try clear hb); (try clear hb2); (try clear hk); (try clear hi); obtain ⟨hcz104_0, hcz104_1, hcz104_2⟩ := bC3 BK342.out; obtain ⟨hfz104_0, hfz104_1, hfz104_2⟩ := bF3 BK342.out; obtain ⟨hcz105_0, hcz105_1, hcz105_2⟩ := bC3 BK340.out; obtain ⟨hfz105_0, hfz105_1, hfz105_2⟩ := bF3 BK340.out))
           refine bodyPost_ret (results_ct rfl _ _ gb340 32 #[.int .i64 3, .string (a0.extract 0 (t341 : Int).toNat), .string (a0.extract ((ji9) : Int).toNat a0.size)] (0, 0) _ rfl (by (with_reducible repeat (first | refine blk_drewN ?_ _ | refine blk_drew ?_ | refine blk_alloc ?_ _)); have h_ := BK340.out; exact pK 2 (pK 1 (pK 0 (h_)))) Tryz.underlying32 rfl (by kernel_rfl)) rfl ?_
           exact ⟨by first | rfl | (simp [errW_none, errW_some] <;> rfl) | (simp only [← hji9]; first | rfl | (simp [errW_none, errW_some] <;> rfl)) | (simp [*, errW_none, errW_some] <;> rfl), by repeat (first | (with_reducible first | exact HB.out | apply below_alloc | apply pw_below_drewN | apply below_drew1 | refine below_set ?_ GE340.out | refine below_set ?_ GE342.out) | exact HB.out)⟩
          ·replace c93 := Bool.eq_false_iff.mpr c93
           subst c93
           have H1 : (some (0, (⟨#[]⟩ : ByteArray), (⟨#[]⟩ : ByteArray), 13)) = some (r1, r2, r3, r4) := by rw [if_neg (show ¬ (false = true) by decide)] at H; exact H
           clear H
           have H := H1
           clear H1
           simp only [Option.some.injEq, Prod.mk.injEq] at H
           obtain ⟨rfl, rfl, rfl, rfl⟩ := H
           go_enter Tryz.func12, Tryz.ntmps12
           try go_wp2_with (first | ((with_reducible refine gate_dst (N := 2) rfl ?_); refine box_event ?hg (N := 2) ?hd (cs := #[.int .i64 0, .string (⟨#[]⟩ : ByteArray), .string (⟨#[]⟩ : ByteArray)]) (t := 32) ?hr ?_; (case hd => rfl); (case hg => rfl); (case hr => first | (go_simp; done) | (go_simp; rfl)); intro gb340 hg w106 hbox hb; have n0_ := aA (below_step mB hb); have n1_ := aA (hbox); have n2_ := aA ((bZ hg mB)); have n3_ := aA ((bZ hg mB)); clear HB; have HB := n0_; have BK340 := n1_; have GW340 := n2_; have GE340 := n3_; clear n0_ n1_ n2_ n3_ hb hbox hg) | ((with_reducible refine gate_callee (f := 40) rfl ?_); refine goesL_ (some 7) rfl rfl Tryz.func40 (by kernel_rfl) rfl #[.string a0, .string (⟨#[61, 33, 94, 63]⟩ : ByteArray)] rfl mS ?_; (with_reducible refine (strings_IndexAny.calls a0 (⟨#[61, 33, 94, 63]⟩ : ByteArray) t341 _ A2.out).mono ?_); rintro e w107 ⟨rfl, hb⟩; refine ⟨_, rfl, ?_⟩; have n0_ := aA (bB BK340.out hb); have n1_ := aA (below_step (mD1 GE340.out) hb); clear BK340 HB; have BK340 := n0_; have HB := n1_; clear n0_ n1_; (try clear hb); (try clear hb2); (try clear hk); (try clear hi)))
           have n0_ := aA (blk_drew BK340.out)
           have n1_ := aA (below_drew1 HB.out)
           clear BK340
           clear HB
           have BK340 := n0_
           have HB := n1_
           clear n0_ n1_
           refine start_ (n := 10) (S := fun w' => True) (ds := []) (bA 10 0) (by kernel_rfl) rfl rfl trivial (fun hHeld => ?_); refine with_tabW wire_Asked.tab4 wire_Asked.bits4 (fun HT_ HW_ => ?_)
           generalize w107.drew = w108 at BK340 HB hHeld ⊢
           refine pure_ (i := 0) (N := some 11) (v := ?_) (a' := ?_) (bA 10 1) rfl rfl (any_of HT_.out (by kernel_rfl)) (fun _ _ _ h => h) (Or.inl ⟨by rfl, ?_⟩) ?_ ?_
           rotate_left
           ·intro w'
            go_simp
            with_reducible rfl
           rotate_left
           ·exact mP
           refine pure_ (i := 1) (N := some 12) (v := ?_) (a' := ?_) (bA 10 3) rfl rfl (any_of HT_.out (by kernel_rfl)) (fun _ _ _ h => h) (Or.inl ⟨by rfl, ?_⟩) ?_ ?_
           rotate_left
           ·intro w'
            go_simp
            with_reducible rfl
           rotate_left
           ·exact mP
           refine pure_ (i := 2) (N := some 13) (v := ?_) (a' := ?_) (bA 10 7) rfl rfl (any_of HT_.out (by kernel_rfl)) (fun _ _ _ h => h) (Or.inl ⟨by rfl, ?_⟩) ?_ ?_
           rotate_left
           ·intro w'
            go_simp
            with_reducible rfl
           rotate_left
           ·exact mP
           refine pure_ (i := 3) (N := some 14) (v := ?_) (a' := ?_) (bA 10 15) rfl rfl (any_of HT_.out (by kernel_rfl)) (fun _ _ _ h => h) (Or.inl ⟨by rfl, ?_⟩) ?_ ?_
           rotate_left
           ·intro w'
            go_simp
            with_reducible rfl
           rotate_left
           ·exact mP
           refine pure_ (i := 4) (N := some 15) (v := ?_) (a' := ?_) (bA 10 31) rfl rfl (any_of HT_.out (by kernel_rfl)) (fun _ _ _ h => h) (Or.inl ⟨by rfl, ?_⟩) ?_ ?_
           rotate_left
           ·intro w'
            go_simp
            with_reducible rfl
           rotate_left
           ·exact mP
           refine pure_ (i := 5) (N := some 16) (v := ?_) (a' := ?_) (bA 10 63) rfl rfl (any_of HT_.out (by kernel_rfl)) (fun _ _ _ h => h) (Or.inl ⟨by rfl, ?_⟩) ?_ ?_
           rotate_left
           ·intro w'
            go_simp
            with_reducible rfl
           rotate_left
           ·exact mP
           refine pure_ (i := 6) (N := some 17) (v := ?_) (a' := ?_) (bA 10 127) rfl rfl (any_of HT_.out (by kernel_rfl)) (fun _ _ _ h => h) (Or.inl ⟨by rfl, ?_⟩) ?_ ?_
           rotate_left
           ·intro w'
            go_simp
            with_reducible rfl
           rotate_left
           ·exact mP
           refine pure_ (i := 7) (N := some 18) (v := ?_) (a' := ?_) (bA 10 255) rfl rfl (any_of HT_.out (by kernel_rfl)) (fun _ _ _ h => h) (Or.inl ⟨by rfl, ?_⟩) ?_ ?_
           rotate_left
           ·intro w'
            go_simp
            with_reducible rfl
           rotate_left
           ·exact mP
           refine one_ (i := 8) (N := some 5) (bA 10 511) rfl rfl (one_of HT_.out (by kernel_rfl)) (by decide) (fun K hK => ?_)
           refine box_step ?hg (N := 5) ?hd (cs := #[.int .i64 0, .string (⟨#[]⟩ : ByteArray), .string (⟨#[]⟩ : ByteArray)]) (t := 32) ?hr ?_; (case hd => rfl); (case hg => rfl); (case hr => first | (go_simp; done) | (go_simp; rfl))
           intro gb342 hg w109 hbox hb
           have n0_ := aA (bB BK340.out hb)
           have n1_ := aA (below_step (mD1 GE340.out) hb)
           have n2_ := aA (hbox)
           have n3_ := aA ((bZ hg (mD1 GE340.out)))
           have n4_ := aA ((bZ hg (mD1 GE340.out)))
           have n5_ := aA ((bL hg BK340.out))
           have n6_ := aA ((bG hg BK340.out))
           clear BK340
           clear HB
           have BK340 := n0_
           have HB := n1_
           have BK342 := n2_
           have GW342 := n3_
           have GE342 := n4_
           have NB340_342 := n5_
           have NB342_340 := n6_
           clear n0_ n1_ n2_ n3_ n4_ n5_ n6_
           clear hb hbox hg
           refine hK.out _ _ trivial (fun hHeld => ?_)
           clear hK K
           refine norm_ (a' := ?_) ?_ ?_
           rotate_left
           ·show Act.put _ (some 5) _ = _
            simp only [Act.put, List.setIfInBounds_toArray, List.set_cons_zero, List.set_cons_succ, i64_w, i32_w]
            rfl
           refine one_ (i := 9) (N := none) (bA 10 1023) rfl rfl (one_of HT_.out (by kernel_rfl)) (by decide) (fun K hK => ?_)
           have hs110 : w109.cell? ⟨gb342, 0, none⟩ = some (.int .i64 0) := (blk_cell BK342.out 0).trans rfl
           have hfs110 := blk_frozen BK342.out 0
           have hns110_0 := NB340_342.out
           have hms110_0 := NB342_340.out
           have hs111 : w109.cell? ⟨gb342, 1, none⟩ = some (.string (⟨#[]⟩ : ByteArray)) := (blk_cell BK342.out 1).trans rfl
           have hfs111 := blk_frozen BK342.out 1
           have hns111_0 := NB340_342.out
           have hms111_0 := NB342_340.out
           have hs112 : w109.cell? ⟨gb342, 2, none⟩ = some (.string (⟨#[]⟩ : ByteArray)) := (blk_cell BK342.out 2).trans rfl
           have hfs112 := blk_frozen BK342.out 2
           have hns112_0 := NB340_342.out
           have hms112_0 := NB342_340.out
           refine skip_ (w1 := ?_) (by rfl) rfl ?_ ?_
           rotate_left
           ·go_simp
            rfl
           refine hK.out _ _ trivial (fun hHeld => ?_)
           clear hK K
           refine done_ (done_of HT_.out (by kernel_rfl)) ?_
           have p13 : 0 ≤ (t341 : Int) := of_decide_eq_true (by first | (with_reducible assumption) | assumption)
           have q13 : t341 < (a0.size : Int) := of_decide_eq_true (by first | (with_reducible assumption) | assumption)
           have hx13 := bt_at a0 t341
           replace p13 := eq_true p13
           replace q13 := eq_true q13
           have hnb113 := NB342_340.out
           have hnc113 := NB340_342.out
           obtain ⟨hcz114_0, hcz114_1, hcz114_2⟩ := bC3 BK342.out
           obtain ⟨hfz114_0, hfz114_1, hfz114_2⟩ := bF3 BK342.out
           try go_wp2_with (first | ((with_reducible refine gate_callee (f := 41) rfl ?_); refine goesL_ (some 34) rfl rfl Tryz.func41 (by kernel_rfl) rfl #[.agg #[.int .i64 3, .string (a0.extract 0 (t341 : Int).toNat), .string (a0.extract ((ji9) : Int).toNat a0.size)]] rfl (by (try simp only [List.map_toArray, List.map_cons, List.map_nil]); first | done | (simp only [hji9]; rfl) | rfl | (simp only [List.length_drop, List.length_take]; rfl)) ?_; (with_reducible refine (label_Matcher.calls 3 (a0.extract 0 (t341 : Int).toNat) (a0.extract ((ji9) : Int).toNat a0.size) false _ A92.out).mono ?_); rintro e w115 ⟨rfl, hb⟩; refine ⟨_, rfl, ?_⟩; have n0_ := aA (blk_below (g := gb340) (o := .cells #[.int .i64 0, .string (⟨#[]⟩ : ByteArray), .string (⟨#[]⟩ : ByteArray)] 32 (0, 0)) (by (with_reducible repeat (first | refine blk_drewN ?_ _ | refine blk_drew ?_ | refine blk_alloc ?_ _)); refine blk_far ?_ NB340_342.out _; (with_reducible repeat (first | refine blk_drewN ?_ _ | refine blk_drew ?_ | refine blk_alloc ?_ _)); refine blk_far ?_ NB340_342.out _; (with_reducible repeat (first | refine blk_drewN ?_ _ | refine blk_drew ?_ | refine blk_alloc ?_ _)); refine blk_far ?_ NB340_342.out _; (with_reducible repeat (first | refine blk_drewN ?_ _ | refine blk_drew ?_ | refine blk_alloc ?_ _)); refine blk_far ?_ NB340_342.out _; (with_reducible repeat (first | refine blk_drewN ?_ _ | refine blk_drew ?_ | refine blk_alloc ?_ _)); exact BK340.out) hb); have n1_ := aA (blk_below (g := gb342) (o := .cells #[.int .i64 3, .string (a0.extract 0 (t341 : Int).toNat), .string (a0.extract ((ji9) : Int).toNat a0.size)] 32 (0, 0)) (by (with_reducible repeat (first | refine blk_drewN ?_ _ | refine blk_drew ?_ | refine blk_alloc ?_ _)); have h_ := BK342.out; exact pK 0 (pK 2 (pK 1 (pK 0 (h_))))) hb); have n2_ := aA (below_step (mD2 GE340.out GE342.out) hb); clear BK340 BK342 HB; have BK340 := n0_; have BK342 := n1_; have HB := n2_; clear n0_ n1_ n2_; (try clear hb); (try clear hb2); (try clear hk); (try clear hi); obtain ⟨hcz116_0, hcz116_1, hcz116_2⟩ := bC3 BK340.out; obtain ⟨hfz116_0, hfz116_1, hfz116_2⟩ := bF3 BK340.out))
           refine bodyPost_ret (results_ct rfl _ _ gb340 32 #[.int .i64 0, .string (⟨#[]⟩ : ByteArray), .string (⟨#[]⟩ : ByteArray)] (0, 0) _ rfl (by (with_reducible repeat (first | refine blk_drewN ?_ _ | refine blk_drew ?_ | refine blk_alloc ?_ _)); have h_ := BK340.out; exact pK 2 (pK 1 (pK 0 (h_)))) Tryz.underlying32 rfl (by kernel_rfl)) rfl ?_
           exact ⟨by first | rfl | (simp [errW_none, errW_some] <;> rfl) | (simp only [← hji9]; first | rfl | (simp [errW_none, errW_some] <;> rfl)) | (simp [*, errW_none, errW_some] <;> rfl), by repeat (first | (with_reducible first | exact HB.out | apply below_alloc | apply pw_below_drewN | apply below_drew1 | refine below_set ?_ GE340.out | refine below_set ?_ GE342.out) | exact HB.out)⟩
      ·rw [if_neg c12] at H
       exact absurd H (by simp)
     ·rw [if_neg c11] at H
      exact absurd H (by simp)
    ·rw [if_neg c10] at H
     exact absurd H (by simp)
   ·rw [if_neg c8] at H
    exact absurd H (by simp)
  ·rw [if_neg c7] at H
   exact absurd H (by simp)
end Go.Proofs.YtjfknmlchdifjaaGreatDoorQ.P
namespace Go.Proofs.YtjfknmlchdifjaaGreatDoorQ.P
open Go.RowKit Go.Proofs.YtjfknmlchdifjaaGreatDoorW.PrintWords Go.Proofs.YtjfknmlchdifjaaGreatDoorW.PrintLast Go.Proofs.YtjfknmlchdifjaaGreatDoorW.PrintMore Go.Proofs.YtjfknmlchdifjaaGreatDoor
theorem bt_list {s : ByteArray} {i : Nat} (h : i < s.data.toList.length) : Go.Proofs.YtjfknmlchdifjaaGreatDoorW.PrintWords.bt s (i : Int) = ((s.data.toList[i]).toNat : Int) := by
  rw [len_data] at h
  unfold Go.Proofs.YtjfknmlchdifjaaGreatDoorW.PrintWords.bt
  rw [dif_pos (by rw [Int.toNat_natCast]; exact h)]
  rfl
theorem ex_mid (s : ByteArray) (i j : Nat) : s.extract i j = tx ((s.data.toList.drop i).take (j - i)) := tx_inj (by rw [Lib.extract_data]; rfl)
theorem ex_take (s : ByteArray) (i : Nat) : s.extract 0 i = tx (s.data.toList.take i) := by rw [ex_mid, List.drop_zero]; rfl
theorem ex_drop (s : ByteArray) (i : Nat) : s.extract i s.size = tx (s.data.toList.drop i) := by
  rw [ex_mid, List.take_of_length_le]
  rw [List.length_drop, len_data]
  exact Nat.le_refl _
theorem tx_toList (l : List UInt8) : (tx l).toList = l := by rw [ByteArray.toList_eq]; rfl
theorem toList_data (s : ByteArray) : s.toList = s.data.toList := ByteArray.toList_eq s
theorem rdB {xs : List ByteArray} {i : Nat} (h : i < xs.length) : rdOf ByteArray.empty xs (i : Int) = xs[i] := getD_cast h
theorem n0 : (0 : Int) = ((0 : Nat) : Int) := rfl
theorem all_no {p : UInt8 → Bool} {l : List UInt8} {i : Nat} (h : i < l.length) (hp : p l[i] = false) : l.all p = false := List.all_eq_false.2 ⟨_, List.getElem_mem h, by rw [hp]; simp⟩
theorem all_yes {p : UInt8 → Bool} {l : List UInt8} {i : Nat} (h : i < l.length) (ha : (l.take i).all p = true) (hp : p l[i] = true) : (l.take (i + 1)).all p = true := by
  rw [List.take_succ_eq_append_getElem h, List.all_append, ha, List.all_cons, hp]
  rfl
theorem matOkB_of {k : Int} {a b : ByteArray} (h1 : a.size ≤ 1000000) (h2 : b.size ≤ 1000000) : matOkB ⟨k, a, b⟩ = true := by
  unfold matOkB maxLen
  simp
  omega
theorem idx_cut (p : UInt8 → Bool) (cs : List UInt8) (hp : ∀ c, p c = cs.contains c) : ∀ l : List UInt8, (Lib.indexAny l cs = -1 ∧ cutP p l = none) ∨ ∃ i c, ∃ h : i < l.length, Lib.indexAny l cs = (i : Nat) ∧ l[i] = c ∧ p c = true ∧ cutP p l = some (l.take i, c, l.drop (i + 1))
  | [] => .inl ⟨rfl, rfl⟩
  | b :: l => by
    cases hb : p b with
    | true =>
      refine .inr ⟨0, b, by simp, ?_, rfl, hb, ?_⟩
      · rw [Lib.indexAny, ← hp, hb, if_pos rfl]; rfl
      · rw [cutP, if_pos hb]; rfl
    | false =>
      have e1 : Lib.indexAny (b :: l) cs = if Lib.indexAny l cs == -1 then -1 else Lib.indexAny l cs + 1 := by rw [Lib.indexAny, ← hp, hb, if_neg (by simp)]
      have e2 : cutP p (b :: l) = (cutP p l).map fun r => (b :: r.1, r.2.1, r.2.2) := by rw [cutP, if_neg (by simp [hb])]
      rcases idx_cut p cs hp l with ⟨h1, h2⟩ | ⟨i, c, h, h1, h2, h3, h4⟩
      · exact .inl ⟨by rw [e1, h1]; rfl, by rw [e2, h2]; rfl⟩
      · refine .inr ⟨i + 1, c, by simp; omega, ?_, by simpa using h2, h3, ?_⟩
        · rw [e1, h1, if_neg (by simp)]; push_cast; rfl
        · rw [e2, h4]; rfl
def askW4 : Option Mat → Int × ByteArray × ByteArray × Int
  | none => (0, ⟨#[]⟩, ⟨#[]⟩, 13)
  | some m => (m.kind, m.name, m.value, 0)
theorem asked_f {s : ByteArray} (hs : s.size ≤ 100000) : wire_Asked.f s = some (askW4 (askP s.data.toList)) := by
  have hl := len_data s
  unfold wire_Asked.f strings_IndexAny.f
  rw [if_pos ⟨by omega, rfl⟩, Option.bind_some]
  unfold askP
  rcases idx_cut signB signs (fun _ => rfl) s.data.toList with ⟨h1, h2⟩ | ⟨i, c, h, h1, h2, h3, h4⟩
  · rw [h1, h2, if_pos (by omega)]
    rfl
  · rw [h1, h4, if_neg (by omega), if_pos (by omega), if_pos (by omega), w64s (by omega), if_pos (by omega), if_pos (by omega), if_pos (by omega), bt_list h, h2, Int.toNat_natCast, Int.toNat_natCast, ex_take, ex_drop]
    simp only
    have hm : ∀ q : Int, label_Matcher.f q (tx (s.data.toList.take i)) (tx (s.data.toList.drop (i + 1))) = some (matB ⟨q, tx (s.data.toList.take i), tx (s.data.toList.drop (i + 1))⟩) := by
      intro q
      unfold label_Matcher.f
      rw [if_pos (matOkB_of (by rw [tx_size, List.length_take]; omega) (by rw [tx_size, List.length_drop]; omega))]
    have hw : wrap32 ((c.toNat : Nat) : Int) = ((c.toNat : Nat) : Int) := by
      have := c.toNat_lt
      unfold wrap32
      omega
    rw [hw]
    simp only [hm, Option.bind_some]
    simp only [signB, signs, List.contains_cons, List.contains_nil, Bool.or_false, Bool.or_eq_true, beq_iff_eq] at h3
    rcases h3 with rfl | rfl | rfl | rfl
    · rw [if_pos (by rfl)]
      have e : askM (List.take i s.data.toList, 61, List.drop (i + 1) s.data.toList) = ⟨0, tx (List.take i s.data.toList), tx (List.drop (i + 1) s.data.toList)⟩ := rfl
      rw [e]
      split <;> rfl
    · rw [if_neg (by decide), if_pos (by rfl)]
      have e : askM (List.take i s.data.toList, 33, List.drop (i + 1) s.data.toList) = ⟨1, tx (List.take i s.data.toList), tx (List.drop (i + 1) s.data.toList)⟩ := rfl
      rw [e]
      split <;> rfl
    · rw [if_neg (by decide), if_neg (by decide), if_pos (by rfl)]
      have e : askM (List.take i s.data.toList, 94, List.drop (i + 1) s.data.toList) = ⟨2, tx (List.take i s.data.toList), tx (List.drop (i + 1) s.data.toList)⟩ := rfl
      rw [e]
      split <;> rfl
    · rw [if_neg (by decide), if_neg (by decide), if_neg (by decide)]
      have e : askM (List.take i s.data.toList, 63, List.drop (i + 1) s.data.toList) = ⟨3, tx (List.take i s.data.toList), tx (List.drop (i + 1) s.data.toList)⟩ := rfl
      rw [e]
      split <;> rfl
end Go.Proofs.YtjfknmlchdifjaaGreatDoorQ.P
namespace Go.Proofs.YtjfknmlchdifjaaGreatDoor
open Go.RowKit Go.Proofs.YtjfknmlchdifjaaGreatDoorQ Go.Proofs.YtjfknmlchdifjaaGreatDoorQ.P Go.Proofs.YtjfknmlchdifjaaGreatDoorW.PrintWords
theorem strs_k {w : World} {A : Option Addr} {c : Nat} {xs : List ByteArray} (h : Kd.C Kd.string w A xs.length xs) (hc : xs.length ≤ c) : SlAt w (.slice A xs.length c) 1 xs.length (strs xs) := by
  have := slat_of_C (d := Kd.string) (f := fun x : ByteArray => x) (en := fun s => [Value.string s]) (fun h => h) (fun _ => rfl) (by decide) h hc
  rw [flat_sing, List.map_id'] at this
  exact this
theorem placesP_app (rs : List Rcv) : ∀ l r : List ByteArray, placesP rs (l ++ r) = (placesP rs l).bind fun c => (placesP rs r).map (c ++ ·) := by
  intro l
  induction l with
  | nil => intro r; cases h : placesP rs r <;> simp [placesP, h]
  | cons x l ih =>
    intro r
    simp only [List.cons_append, placesP]
    by_cases hx : 0 ≤ placeL rs x
    · rw [if_pos hx, if_pos hx, ih]
      cases placesP rs l <;> simp
      cases placesP rs r <;> simp
    · rw [if_neg hx, if_neg hx]
      rfl
theorem placesP_snoc {rs : List Rcv} {l : List ByteArray} {c : List Int} {x : ByteArray} (h : placesP rs l = some c) (hx : 0 ≤ placeL rs x) : placesP rs (l ++ [x]) = some (c ++ [placeL rs x]) := by
  rw [placesP_app, h]
  simp [placesP, hx]
theorem placesP_fail {rs : List Rcv} {l r : List ByteArray} {x : ByteArray} (hx : placeL rs x < 0) : placesP rs (l ++ x :: r) = none := by
  rw [placesP_app]
  cases placesP rs l <;> simp [placesP]
  omega
theorem asksP_app : ∀ l r : List ByteArray, asksP (l ++ r) = (asksP l).bind fun c => (asksP r).map (c ++ ·) := by
  intro l
  induction l with
  | nil => intro r; cases h : asksP r <;> simp [asksP, h]
  | cons x l ih =>
    intro r
    simp only [List.cons_append, asksP]
    cases hx : askP x.data.toList with
    | none => rfl
    | some m =>
      simp only
      rw [ih]
      cases asksP l <;> simp
      cases asksP r <;> simp
theorem asksP_snoc {l : List ByteArray} {c : List Mat} {x : ByteArray} {m : Mat} (h : asksP l = some c) (hx : askP x.data.toList = some m) : asksP (l ++ [x]) = some (c ++ [m]) := by
  rw [asksP_app, h]
  simp [asksP, hx]
theorem asksP_fail {l r : List ByteArray} {x : ByteArray} (hx : askP x.data.toList = none) : asksP (l ++ x :: r) = none := by
  rw [asksP_app]
  cases asksP l <;> simp [asksP, hx]
theorem cut_at {l : List ByteArray} {k : Nat} (h : k < l.length) : l = l.take k ++ l[k] :: l.drop (k + 1) := by
  rw [← List.drop_eq_getElem_cons h, List.take_append_drop]
theorem idxOfS_if (zs : List ByteArray) : Lib.idxOfS zs (⟨#[105, 102]⟩ : ByteArray) = idxOf isIf zs := by
  have hp : ∀ z : ByteArray, isIf z = decide (z = (⟨#[105, 102]⟩ : ByteArray)) := fun z => by
    unfold isIf
    by_cases h : z = (⟨#[105, 102]⟩ : ByteArray)
    · subst h; decide
    · rw [decide_eq_false h, beq_eq_false_iff_ne]
      intro e
      exact h (by rw [← tx_of z, e]; rfl)
  by_cases hx : ∃ k, ∃ h : k < zs.length, isIf zs[k] = true ∧ ∀ j (hj : j < k), isIf (zs[j]'(by omega)) = false
  · obtain ⟨k, hk, h1, h2⟩ := hx
    rw [idxOf_found hk h1 h2]
    have := Lib.idxFromS_hit (⟨#[105, 102]⟩ : ByteArray) zs k 0 hk (by rw [hp] at h1; rw [List.getD_eq_getElem?_getD, List.getElem?_eq_getElem hk]; exact of_decide_eq_true h1) (fun j hj => by
      have := h2 j hj
      rw [hp] at this
      rw [List.getD_eq_getElem?_getD, List.getElem?_eq_getElem (by omega)]
      exact of_decide_eq_false this)
    simpa [Lib.idxOfS] using this
  · have hno : ∀ k (h : k < zs.length), isIf zs[k] = false := by
      intro k
      induction k using Nat.strongRecOn with
      | ind k ih =>
        intro h
        cases e : isIf zs[k] with
        | false => rfl
        | true => exact absurd ⟨k, h, e, fun j hj => ih j hj (by omega)⟩ hx
    rw [idxOf_none hno]
    exact Lib.idxFromS_miss (⟨#[105, 102]⟩ : ByteArray) zs 0 (fun j hj => by
      have := hno j hj
      rw [hp] at this
      rw [List.getD_eq_getElem?_getD, List.getElem?_eq_getElem hj]
      exact of_decide_eq_false this)
theorem index_if (A : Option Addr) (zs : List ByteArray) (c : Nat) (W : World) (hS : SlAt W (.slice A zs.length c) 1 zs.length (strs zs)) :
    Calls Tryz.prog 136 #[.slice A zs.length c, .string (⟨#[105, 102]⟩ : ByteArray)] W fun e w' => e = .returned (.int .i64 (idxOf isIf zs)) ∧ Below W.heap.size W w' := by
  rcases Nat.eq_zero_or_pos zs.length with hz | hz
  · have : zs = [] := List.length_eq_zero_iff.1 hz
    subst this
    refine (Tryz.slices_Index_string_empty A c _ W).mono ?_
    rintro e w' ⟨rfl, rfl⟩
    exact ⟨rfl, Below.refl _ _⟩
  · obtain ⟨b, o, rfl, hb, hcell⟩ := hS.at hz
    have hm := hS.le
    unfold maxLen at hm
    refine (Tryz.slices_Index_string b o zs.length c zs (⟨#[105, 102]⟩ : ByteArray) W (Nat.le_refl _) (by omega) (fun j hj => ?_)).mono ?_
    · rw [List.getD_eq_getElem?_getD, List.getElem?_eq_getElem hj]
      exact hcell j _ (strs_get zs j hj)
    · rintro e w' ⟨rfl, rfl⟩
      rw [List.take_length, idxOfS_if]
      exact ⟨rfl, Below.refl _ _⟩
theorem drop_words {w : World} {A : Option Addr} {c : Nat} {ws : List ByteArray} (h : Kd.C Kd.string w A ws.length ws) (hc : ws.length ≤ c) (j : Int) (h0 : 0 ≤ j) (hm : j ≤ ws.length) :
    ∃ A' : Option Addr, (∀ W : World, (Instr.slice 67 (.slice A ws.length c) (some (.int .i64 j)) none none).run Tryz.prog W = .ok (.slice A' (ws.drop j.toNat).length (c - j.toNat)) W) ∧
      SlAt w (.slice A' (ws.drop j.toNat).length (c - j.toNat)) 1 (ws.drop j.toNat).length (strs (ws.drop j.toNat)) := by
  obtain ⟨i0, hi, _, hsz, _⟩ := info_parts infoStr
  obtain ⟨A', h1, h2, h3⟩ := print_drop_of (P := Tryz.prog) Value.string (⟨#[]⟩ : ByteArray) 67 9 .i64 Tryz.underlying67 hi hsz A c ws j h0 hm hc
  exact ⟨A', h1, strs_k (Kd.C_of_reads (h1 := fun _ => rfl) (h2 _ (Kd.reads_of_C h))) h3⟩
theorem mid_words {w : World} {A : Option Addr} {c : Nat} {ws : List ByteArray} (h : Kd.C Kd.string w A ws.length ws) (hc : ws.length ≤ c) (i j : Int) (h0 : 0 ≤ i) (h1 : i ≤ j) (hm : j ≤ ws.length) :
    ∃ A' : Option Addr, (∀ W : World, (Instr.slice 67 (.slice A ws.length c) (some (.int .i64 i)) (some (.int .i64 j)) none).run Tryz.prog W = .ok (.slice A' ((ws.take j.toNat).drop i.toNat).length (c - i.toNat)) W) ∧
      SlAt w (.slice A' ((ws.take j.toNat).drop i.toNat).length (c - i.toNat)) 1 ((ws.take j.toNat).drop i.toNat).length (strs ((ws.take j.toNat).drop i.toNat)) := by
  obtain ⟨i0, hi, _, hsz, _⟩ := info_parts infoStr
  obtain ⟨A', g1, g2, g3⟩ := print_mid_of (P := Tryz.prog) Value.string (⟨#[]⟩ : ByteArray) 67 9 .i64 .i64 Tryz.underlying67 hi hsz A c ws i j h0 h1 hm hc
  exact ⟨A', g1, strs_k (Kd.C_of_reads (h1 := fun _ => rfl) (g2 _ (Kd.reads_of_C h))) g3⟩
theorem asked_any (s : ByteArray) (w : World) (hs : s.size ≤ 100000) :
    Calls Tryz.prog 12 #[.string s] w fun e w' => e = .returned (.tuple #[.agg #[.int .i64 (askW4 (askP s.data.toList)).1, .string (askW4 (askP s.data.toList)).2.1, .string (askW4 (askP s.data.toList)).2.2.1], .int .i64 (askW4 (askP s.data.toList)).2.2.2]) ∧ Below w.heap.size w w' :=
  wire_Asked.calls s _ _ _ _ w (asked_f hs)
theorem placeL_lt (rs : List Rcv) (n : ByteArray) : placeL rs n < rs.length ∨ placeL rs n = -1 := by
  unfold placeL idxOf
  split
  · rename_i i h
    have := (List.findIdx?_eq_some_iff_getElem.1 h).1
    left; omega
  · right; rfl
end Go.Proofs.YtjfknmlchdifjaaGreatDoor
namespace Go.Proofs.YtjfknmlchdifjaaGreatDoor
open Go.RowKit Go.Proofs.YtjfknmlchdifjaaGreatDoorQ Go.Proofs.YtjfknmlchdifjaaGreatDoorQ.P Go.Proofs.YtjfknmlchdifjaaGreatDoorW.PrintWords Go.Proofs.YtjfknmlchdifjaaGreatDoorW.PrintLast Go.Proofs.YtjfknmlchdifjaaGreatDoorW.PrintMore
attribute [local go_sem high] ext_size ext_cell ext_frozen alloc_cell alloc_frozen
attribute [local go_sem] lt_more lt_suc drew_size drew_cell
theorem idxOf_lt {α : Type} (p : α → Bool) (xs : List α) : idxOf p xs < xs.length ∨ idxOf p xs = -1 := by
  unfold idxOf
  split
  · rename_i i h
    have := (List.findIdx?_eq_some_iff_getElem.1 h).1
    left; omega
  · right; rfl
theorem placesP_len {rs : List Rcv} : ∀ {l : List ByteArray} {c : List Int}, placesP rs l = some c → c.length = l.length := by
  intro l
  induction l with
  | nil => intro c h; injection h with h; subst h; rfl
  | cons x l ih =>
    intro c h
    unfold placesP at h
    by_cases hx : 0 ≤ placeL rs x
    · rw [if_pos hx] at h
      obtain ⟨d, hd, rfl⟩ := Option.map_eq_some_iff.1 h
      rw [List.length_cons, List.length_cons, ih hd]
    · rw [if_neg hx] at h; cases h
theorem asksP_len : ∀ {l : List ByteArray} {c : List Mat}, asksP l = some c → c.length = l.length := by
  intro l
  induction l with
  | nil => intro c h; injection h with h; subst h; rfl
  | cons x l ih =>
    intro c h
    unfold asksP at h
    cases hx : askP x.data.toList with
    | none => rw [hx] at h; cases h
    | some m =>
      rw [hx] at h
      obtain ⟨d, hd, rfl⟩ := Option.map_eq_some_iff.1 h
      rw [List.length_cons, List.length_cons, ih hd]
theorem placesP_in {rs : List Rcv} : ∀ {l : List ByteArray} {c : List Int}, placesP rs l = some c → ∀ k ∈ c, 0 ≤ k ∧ k < rs.length := by
  intro l
  induction l with
  | nil => intro c h; injection h with h; subst h; intro k hk; cases hk
  | cons x l ih =>
    intro c h
    unfold placesP at h
    by_cases hx : 0 ≤ placeL rs x
    · rw [if_pos hx] at h
      obtain ⟨d, hd, rfl⟩ := Option.map_eq_some_iff.1 h
      intro k hk
      rcases List.mem_cons.1 hk with rfl | hk
      · rcases placeL_lt rs x with g | g
        · exact ⟨hx, g⟩
        · omega
      · exact ih hd k hk
    · rw [if_neg hx] at h; cases h
theorem asksP_ok : ∀ {l : List ByteArray} {c : List Mat}, asksP l = some c → ∀ m ∈ c, matB m = true := by
  intro l
  induction l with
  | nil => intro c h; injection h with h; subst h; intro k hk; cases hk
  | cons x l ih =>
    intro c h
    unfold asksP at h
    cases hx : askP x.data.toList with
    | none => rw [hx] at h; cases h
    | some m =>
      rw [hx] at h
      obtain ⟨d, hd, rfl⟩ := Option.map_eq_some_iff.1 h
      intro k hk
      rcases List.mem_cons.1 hk with rfl | hk
      · exact (askW_askP hx).2
      · exact ih hd k hk
theorem matsOk_of {c : List Mat} (h : ∀ m ∈ c, matB m = true) : MatsOk c := fun m hm => by
  obtain ⟨_, _, h1, h2⟩ := matB_parts (h m hm)
  have g1 := (nameB_all h1).2.2
  have g2 := (valB_all h2).2
  unfold maxLen
  omega
theorem infoRte : (Tryz.prog.info? 93).map (fun i => (i.zero, i.size, i.bytes)) = some (some (.agg #[.slice none 0 0, .slice none 0 0]), 2, 48) := by kernel_rfl
theorem ints_open {w : World} {B : Nat} {v : Value} {xs : List Int} (h : Kd.R (Kd.int .i64) 3 w B (fun _ => True) v xs) : ∃ A c, v = .slice A xs.length c ∧ SlAt w (.slice A xs.length c) 1 xs.length (intsC xs) := by
  obtain ⟨A, c, rfl, hc, hr⟩ := Kd.R_reads h
  exact ⟨A, c, rfl, ints_c hr hc⟩
theorem mats_open {w : World} {B : Nat} {v : Value} {xs : List Mat} (h : Kd.R k32 32 w B (fun _ => True) v (xs.map ofMat)) : ∃ A c, v = .slice A xs.length c ∧ SlAt w (.slice A xs.length c) 3 xs.length (matsC xs) := by
  obtain ⟨A, c, rfl, hc, hr⟩ := Kd.R_reads h
  have := mats_c hr hc
  have e : (xs.map ofMat).map toMat = xs := by
    rw [List.map_map]
    conv => rhs; rw [← List.map_id xs]
    exact List.map_congr_left fun _ _ => rfl
  rw [e] at this
  rw [List.length_map] at this ⊢
  exact ⟨A, c, rfl, this⟩
def RteS (g H : Nat) (tv v1 v2 : Value) (w : World) : Prop := w.cell? ⟨g, 1, none⟩ = some tv ∧ w.cell? ⟨H, 0, none⟩ = some v1 ∧ w.cell? ⟨H, 1, none⟩ = some v2
theorem RteS.of {g H : Nat} {tv v1 v2 : Value} {w : World} {cs : Array Value} {T T' : TypeId} (h : w.heap[g]? = some (.cells cs T (0, 0))) (hv : cs[1]? = some tv) (h2 : w.heap[H]? = some (.cells #[v1, v2] T' (0, 0))) : RteS g H tv v1 v2 w :=
  ⟨blk_cell h hv, blk_cell h2 rfl, blk_cell h2 rfl⟩
def L1 (w1 : World) (H : Nat) (rs : List Rcv) (ys : List ByteArray) (k : Nat) (wr : World) : Prop :=
  ∃ v chain, placesP rs (ys.take k) = some chain ∧ Below H w1 wr ∧ wr.heap[H]? = some (.cells #[v, .slice none 0 0] 93 (0, 0)) ∧ Kd.R (Kd.int .i64) 3 wr H (fun _ => True) v chain
def L2 (w1 : World) (H : Nat) (zs : List ByteArray) (chain : List Int) (k : Nat) (wr : World) : Prop :=
  ∃ v1 v2 asks, asksP (zs.take k) = some asks ∧ Below H w1 wr ∧ wr.heap[H]? = some (.cells #[v1, v2] 93 (0, 0)) ∧ Kd.R (Kd.int .i64) 3 wr H (fun _ => True) v1 chain ∧
    Kd.R k32 32 wr H (fun _ => True) v2 (asks.map ofMat)
set_option maxHeartbeats 8000000 in
set_option maxRecDepth 100000 in
theorem route_any (g : Nat) (rv tv : Value) (c : Cfg) (ahead : ByteArray) (ws : List ByteArray) (A0 : Option Addr) (c0 : Nat) (w : World) (h : RdA w g rv tv (.slice A0 ws.length c0) c ahead) (hC : Kd.C Kd.string w A0 ws.length ws) (hc : ws.length ≤ c0) (hw : ∀ x ∈ ws, x.size ≤ 100000) (hn : 1 ≤ ws.length ∧ ws.length ≤ 200000) :
    Calls Tryz.prog 98 #[.pointer (some ⟨g, 0, none⟩)] w fun e w' => e = .returned (.int .i64 (rteS c.rs c.ts ws).2) ∧ Below g w w' ∧
      ∃ tv', RdA w' g rv tv' (.slice A0 ws.length c0) { c with ts := (rteS c.rs c.ts ws).1 } ahead := by
  have HH := Lib.hid h
  have hgl := h.lt
  obtain ⟨A, cap, rfl, hRS⟩ := rcvs_open h.rs
  obtain ⟨TA, tcap, rfl⟩ : ∃ TA tcap, tv = .slice TA c.ts.length tcap := by
    obtain ⟨a, b, e⟩ := Kd.S_slice h.ts
    rw [List.length_map] at e
    exact ⟨a, b, e⟩
  have HRS := Lib.hid hRS
  have k0 : w.cell? ⟨g, 0, none⟩ = some (.slice A c.rs.length cap) := blk_cell h.blk rfl
  have k1 : w.cell? ⟨g, 1, none⟩ = some (.slice TA c.ts.length tcap) := blk_cell h.blk rfl
  have k4 : w.cell? ⟨g, 4, none⟩ = some (.slice A0 ws.length c0) := blk_cell h.blk rfl
  have f1 : w.frozen? ⟨g, 1, none⟩ = false := blk_free h.blk 1
  obtain ⟨A1, hr1, hS1⟩ := drop_words hC hc 1 (by omega) (by omega)
  have e0 : (1 : Int).toNat = 1 := rfl
  rw [e0] at hr1 hS1
  obtain ⟨xs, hxs⟩ : ∃ xs, xs = ws.drop 1 := ⟨_, rfl⟩
  rw [← hxs] at hr1 hS1
  have hxl : xs.length = ws.length - 1 := by rw [hxs, List.length_drop]
  have HI := Lib.hid fun W (hs : SlAt W (.slice A1 xs.length (c0 - 1)) 1 xs.length (strs xs)) => index_if A1 xs (c0 - 1) W hs
  have HS1 := Lib.hid hS1
  clear hS1 hRS
  unfold rteS
  rw [← hxs]
  obtain ⟨ix, hix⟩ : ∃ ix, ix = idxOf isIf xs := ⟨_, rfl⟩
  rw [← hix] at HI ⊢
  by_cases h4 : c.ts.length = 4
  · rw [if_pos h4]
    have h4' : (c.ts.length : Int) = 4 := by omega
    clear h hC hix hxs hxl hn hw e0 hc
    go_enter Tryz.func98, Tryz.ntmps98
    go_wp2_with fail
    refine (HI.out _ (HS1.out.stay (by repeat (first | exact Below.refl _ _ | apply bal | apply bext | apply bdr | apply bdrN | (refine bst ?_ _ (by simp only [ext_size, size_alloc, size_set]; omega)))))).mono ?_
    rintro e w' ⟨rfl, hb⟩
    obtain ⟨y1, rfl⟩ := ext_of hb
    clear hb
    go_wp2_with fail
    go_ret
    exact ⟨rfl, bel_low (by omega) (by repeat (first | exact Below.refl _ _ | apply bal | apply bext | apply bdr | apply bdrN | (refine bst ?_ _ (by simp only [ext_size, size_alloc, size_set]; omega)))), _, HH.out.stay (by repeat (first | exact Below.refl _ _ | apply bal | apply bext | apply bdr | apply bdrN | (refine bst ?_ _ (by simp only [ext_size, size_alloc, size_set]; omega))))⟩
  rw [if_neg h4]
  have h4' : ¬ ((c.ts.length : Int) = 4) := by omega
  by_cases hneg : ix < 0
  · rw [if_pos hneg]
    clear h hC hix hxs hxl hn hw e0 hc
    go_enter Tryz.func98, Tryz.ntmps98
    go_wp2_with fail
    refine (HI.out _ (HS1.out.stay (by repeat (first | exact Below.refl _ _ | apply bal | apply bext | apply bdr | apply bdrN | (refine bst ?_ _ (by simp only [ext_size, size_alloc, size_set]; omega)))))).mono ?_
    rintro e w' ⟨rfl, hb⟩
    obtain ⟨y1, rfl⟩ := ext_of hb
    clear hb
    go_wp2_with fail
    go_ret
    exact ⟨rfl, bel_low (by omega) (by repeat (first | exact Below.refl _ _ | apply bal | apply bext | apply bdr | apply bdrN | (refine bst ?_ _ (by simp only [ext_size, size_alloc, size_set]; omega)))), _, HH.out.stay (by repeat (first | exact Below.refl _ _ | apply bal | apply bext | apply bdr | apply bdrN | (refine bst ?_ _ (by simp only [ext_size, size_alloc, size_set]; omega))))⟩
  rw [if_neg hneg]
  have hixl := idxOf_lt isIf xs
  rw [← hix, hxl] at hixl
  obtain ⟨n, rfl⟩ : ∃ n : Nat, ix = n := ⟨ix.toNat, by omega⟩
  have hnn : 1 + n < ws.length := by omega
  rw [Int.toNat_natCast]
  obtain ⟨ys, hys⟩ : ∃ ys, ys = xs.take n := ⟨_, rfl⟩
  obtain ⟨zs, hzs⟩ : ∃ zs, zs = ws.drop (2 + n) := ⟨_, rfl⟩
  have hyl : ys.length = n := by rw [hys, List.length_take, hxl]; omega
  obtain ⟨Am, hrm, hSm⟩ := mid_words hC hc 1 (1 + (n : Int)) (by omega) (by omega) (by omega)
  obtain ⟨Az, hrz, hSz⟩ := drop_words hC hc (2 + (n : Int)) (by omega) (by omega)
  have e1 : (ws.take (1 + (n : Int)).toNat).drop (1 : Int).toNat = ys := by
    rw [hys, hxs, List.take_drop, e0]
    rw [show (1 + (n : Int)).toNat = 1 + n by omega]
  have e2 : ws.drop (2 + (n : Int)).toNat = zs := by
    rw [hzs]
    rw [show (2 + (n : Int)).toNat = 2 + n by omega]
  rw [e1] at hrm hSm
  rw [e2] at hrz hSz
  rw [hyl] at hrm hSm
  have HSM := Lib.hid hSm
  have HSZ := Lib.hid hSz
  have HYW := Lib.hid (show ∀ x ∈ ys, x.size ≤ 100000 from fun x hx => hw x (List.mem_of_mem_drop (i := 1) (hxs ▸ List.mem_of_mem_take (hys ▸ hx))))
  have HZW := Lib.hid (show ∀ x ∈ zs, x.size ≤ 100000 from fun x hx => hw x (List.mem_of_mem_drop (hzs ▸ hx)))
  have hzl : zs.length ≤ 200000 := by rw [hzs, List.length_drop]; omega
  rw [← hys, ← hzs]
  obtain ⟨res, hres⟩ : ∃ res, res = rteC c.rs c.ts (asksP zs) (placesP c.rs ys) := ⟨_, rfl⟩
  rw [← hres]
  have HRE := Lib.hid hres
  have HYL := Lib.hid hyl
  have HP := Lib.hid fun x W (hs : SlAt W (.slice A c.rs.length cap) 9 c.rs.length (rcvsC c.rs)) => place_any (.slice A c.rs.length cap) c.rs x W hs
  have hb4 : ((c.ts.length : Int) == 4) = false := by simp [h4']
  have hn0 : ¬ ((n : Int) < 0) := by omega
  have hn1 : decide ((n : Int) < 0) = false := decide_eq_false hn0
  clear hres hys hzs e0 e1 e2 hxs hxl hyl hSm hSz hix hixl hneg hw hC h hc
  go_enter Tryz.func98, Tryz.ntmps98
  go_wp2_with fail
  refine (HI.out _ (HS1.out.stay (by repeat (first | exact Below.refl _ _ | apply bal | apply bext | apply bdr | apply bdrN | (refine bst ?_ _ (by simp only [ext_size, size_alloc, size_set]; omega)))))).mono ?_
  rintro e w' ⟨rfl, hb⟩
  obtain ⟨y1, rfl⟩ := ext_of hb
  clear hb
  go_wp2_with fail
  have hHs : (ext w y1).heap.size = w.heap.size + more y1 := ext_size y1
  have hwH : w.heap.size ≤ w.heap.size + more y1 := by omega
  go_loopw [37] (fun i wr => ∃ k : Nat, k ≤ n ∧ i = .int .i64 k ∧ L1 (ext w y1) (w.heap.size + more y1) c.rs ys k wr) (fun i _ => n - (intOf i).toNat)
  case atStart =>
    refine ⟨0, Nat.zero_le _, rfl, .slice none 0 0, [], rfl, ?_, ?_, Kd.R_nil _ _ _ _ _⟩
    · have := (Below.refl (w.heap.size + more y1) (ext w y1)).alloc (by omega) (.cells #[Value.slice none 0 0, Value.slice none 0 0] 93)
      exact this
    · have := blk_new (ext w y1) (.cells #[Value.slice none 0 0, Value.slice none 0 0] 93)
      rw [hHs] at this
      exact this
  case round =>
    obtain ⟨k, hk, rfl, v, chain, hpl, hbel, hblk, hR⟩ := hrel
    obtain ⟨Av, cv0, rfl⟩ := Kd.R_slice hR
    have hHl := blk_lt hblk
    have hB0 : Below w.heap.size w wr := (ext_bel w y1).trans (bel_to hwH hbel)
    have HB1 := Lib.hid hB0
    have HB2 := Lib.hid hbel
    have HBK := Lib.hid hblk
    have HRC := Lib.hid hR
    have HPL := Lib.hid hpl
    have hcl : chain.length = k := by
      have := placesP_len hpl
      rw [List.length_take, HYL.out] at this
      omega
    have HCL := Lib.hid hcl
    clear hcl
    have k0' : wr.cell? ⟨g, 0, none⟩ = some (.slice A c.rs.length cap) := (HB1.out.cell (p := ⟨g, 0, none⟩) hgl).trans k0
    have k4' : wr.cell? ⟨g, 4, none⟩ = some (.slice A0 ws.length c0) := (HB1.out.cell (p := ⟨g, 4, none⟩) hgl).trans k4
    clear hpl hbel hblk hR hB0
    by_cases hlt : k < n
    · obtain ⟨b, o, hAm, hbl, hcell⟩ := (HSM.out.stay HB1.out).at (by omega)
      subst hAm
      obtain ⟨x, hx⟩ : ∃ x, x = ys[k]'(by rw [HYL.out]; exact hlt) := ⟨_, rfl⟩
      have ck : wr.cell? ⟨b, o + k, none⟩ = some (.string x) := by
        rw [hx]
        exact hcell k _ (strs_get ys k (by rw [HYL.out]; exact hlt))
      have HT := Lib.hid (show ys.take (k + 1) = ys.take k ++ [x] from by rw [hx]; exact List.take_succ_eq_append_getElem _)
      have HC := Lib.hid (show ys = ys.take k ++ x :: ys.drop (k + 1) from by rw [hx]; exact cut_at _)
      have HP' := Lib.hid fun W hs => HP.out x W hs
      clear hx hcell HP
      by_cases hneg : placeL c.rs x < 0
      · have hnone : placesP c.rs ys = none := by
          have := placesP_fail (l := ys.take k) (r := ys.drop (k + 1)) hneg
          rw [← HC.out] at this
          exact this
        have HR0 := Lib.hid (show res = (c.ts, 4) from by rw [HRE.out, hnone]; rfl)
        clear hnone HT HC
        generalize placeL c.rs x = pl at *
        go_wp2_with fail
        refine (HP'.out _ (HRS.out.stay HB1.out)).mono ?_
        rintro e w' ⟨rfl, hb⟩
        obtain ⟨z, rfl⟩ := ext_of hb
        clear hb
        go_wp2_with fail
        go_ret
        rw [HR0.out]
        exact ⟨rfl, bel_low (by omega) (bel HB1.out (ext_bel _ _)), _, HH.out.stay (bel HB1.out (ext_bel _ _))⟩
      · have hsn := placesP_snoc HPL.out (show 0 ≤ placeL c.rs x by omega)
        rw [← HT.out] at hsn
        have HSN := Lib.hid hsn
        clear hsn HT HC
        generalize placeL c.rs x = pl at *
        have hne : some (w.heap.size + more y1) ≠ (Value.slice Av chain.length cv0).ownBlock := Kd.R_ne HRC.out HBK.out (by decide)
        have cv : wr.cell? ⟨w.heap.size + more y1, 0, none⟩ = some (.slice Av chain.length cv0) := blk_cell HBK.out rfl
        go_wp2_with fail
        refine (HP'.out _ (HRS.out.stay HB1.out)).mono ?_
        rintro e w' ⟨rfl, hb⟩
        obtain ⟨z, rfl⟩ := ext_of hb
        clear hb
        go_wp2_with (first | ((with_reducible refine gate_builtin (b := .append) (xs := #[.tmp 51, .tmp 53]) rfl ?_); refine Hid.out ?_))
        refine Lib.hid ?_
        refine Kd.R_append (Kd.int .i64) (w0 := ext w y1) (w.heap.size + more y1) rfl (.tmp 51) (.tmp 53) 91 3 (.int .i64 0) 8 rfl Tryz.underlying91 infoInt rfl (by decide) (by omega) (.slice Av chain.length cv0) chain pl [.int .i64 pl] (fun _ => True) (fun _ => False) rfl (congrArg (fun s => Value.slice (some ⟨s, 0, none⟩) 1 1) (ext_size z).symm) ?aP (fun _ hk => hk.elim) (fun _ _ => trivial) ?aO ?aB ?aS ?aL ?_
        case aP => exact rfl
        case aO => exact Kd.R_below HRC.out (ext_bel _ _)
        case aB => exact HB2.out.trans (bel_to (Nat.le_of_lt hHl) (ext_bel _ _))
        case aS => rw [ext_size]; omega
        case aL => rw [HCL.out]; omega
        intro v1 w6 ho hb6 hg6 hat
        obtain ⟨A6, c6, rfl⟩ := Kd.R_slice ho
        have hl1 : (chain ++ [pl]).length = k + 1 := by rw [List.length_append, HCL.out]; rfl
        rw [hl1] at ho hat ⊢
        have hb6b := blk_grown (blk_call (ext_bel wr z) HBK.out) hg6 hne
        have q6 : w6.cell? ⟨w.heap.size + more y1, 0, none⟩ = some (.slice Av chain.length cv0) := blk_cell hb6b rfl
        have f6 : w6.frozen? ⟨w.heap.size + more y1, 0, none⟩ = false := blk_free hb6b 0
        go_wp2_with fail
        refine ⟨⟨k + 1, by omega, by go_num, .slice A6 (k + 1) c6, chain ++ [pl], HSN.out, hb6.trans (set_low _ _ _ _), blk_set hb6b 0 _, Kd.R_set ho hb6b (by decide) 0 _⟩, by simp [intOf]; omega⟩
    · obtain rfl : k = n := by omega
      have hall : placesP c.rs ys = some chain := by
        have := HPL.out
        rwa [List.take_of_length_le (by rw [HYL.out]; exact Nat.le_refl _)] at this
      have HRE2 := Lib.hid (show res = rteA c.rs c.ts chain (asksP zs) from by rw [HRE.out, hall]; rfl)
      have HCH := Lib.hid (placesP_in hall)
      clear HRE hall HPL HP HYW HYL HSM hrm hlt
      go_wp2_with fail
      go_loopw [65] (fun i W => ∃ j : Nat, j ≤ zs.length ∧ i = .int .i64 j ∧ L2 (ext w y1) (w.heap.size + more y1) zs chain j W) (fun i _ => zs.length - (intOf i).toNat)
      case atStart =>
        exact ⟨0, Nat.zero_le _, rfl, .slice Av chain.length cv0, .slice none 0 0, [], rfl, HB2.out, HBK.out, HRC.out, Kd.R_nil _ _ _ _ _⟩
      case round =>
        obtain ⟨j, hj, rfl, v1, v2, asks, hak, hbel2, hblk2, hR1, hR2⟩ := hrel
        have HR1' := Lib.hid hR1
        have HR2' := Lib.hid hR2
        obtain ⟨B1, d1, rfl⟩ := Kd.R_slice hR1
        obtain ⟨B2, d2, rfl⟩ := Kd.R_slice hR2
        rw [List.length_map] at HR2' hblk2
        have hHl2 := blk_lt hblk2
        have hB2 : Below w.heap.size w wr := (ext_bel w y1).trans (bel_to hwH hbel2)
        have HW1 := Lib.hid hB2
        have HW2 := Lib.hid hbel2
        have HWK := Lib.hid hblk2
        have HAK := Lib.hid hak
        have HAL := Lib.hid (show asks.length = j from by
          have := asksP_len hak
          rw [List.length_take] at this
          omega)
        have k0' : wr.cell? ⟨g, 0, none⟩ = some (.slice A c.rs.length cap) := (HW1.out.cell (p := ⟨g, 0, none⟩) hgl).trans k0
        clear hak hbel2 hblk2 hR1 hR2 hB2
        by_cases hlt2 : j < zs.length
        · obtain ⟨b, o, hAz, hbl, hcell⟩ := (HSZ.out.stay HW1.out).at (by omega)
          subst hAz
          obtain ⟨x, hx⟩ : ∃ x, x = zs[j] := ⟨_, rfl⟩
          have ck : wr.cell? ⟨b, o + j, none⟩ = some (.string x) := by
            rw [hx]
            exact hcell j _ (strs_get zs j hlt2)
          have hxs := HZW.out zs[j] (List.getElem_mem _)
          rw [← hx] at hxs
          have HT := Lib.hid (show zs.take (j + 1) = zs.take j ++ [x] from by rw [hx]; exact List.take_succ_eq_append_getElem _)
          have HC := Lib.hid (show zs = zs.take j ++ x :: zs.drop (j + 1) from by rw [hx]; exact cut_at _)
          have hA := fun W => asked_any x W hxs
          clear hx hcell hxs
          cases hq : askP x.data.toList with
          | none =>
            have hnone : asksP zs = none := by
              have := asksP_fail (l := zs.take j) (r := zs.drop (j + 1)) hq
              rw [← HC.out] at this
              exact this
            have HR0 := Lib.hid (show res = (c.ts, 13) from by rw [HRE2.out, hnone]; rfl)
            simp only [hq, askW4] at hA
            have HA := Lib.hid hA
            clear hnone HT HC hA hq
            go_wp2_with fail
            refine (HA.out _).mono ?_
            rintro e w' ⟨rfl, hb⟩
            obtain ⟨z, rfl⟩ := ext_of hb
            clear hb
            go_wp2_with fail
            go_ret
            rw [HR0.out]
            exact ⟨rfl, bel_low (by omega) (bel HW1.out (by repeat (first | exact Below.refl _ _ | apply bal | apply bext | apply bdr | apply bdrN | (refine bst ?_ _ (by simp only [ext_size, size_alloc, size_set]; omega))))), _, HH.out.stay (bel HW1.out (by repeat (first | exact Below.refl _ _ | apply bal | apply bext | apply bdr | apply bdrN | (refine bst ?_ _ (by simp only [ext_size, size_alloc, size_set]; omega)))))⟩
          | some m =>
            obtain ⟨mk, mn, mv⟩ := m
            have hsn := asksP_snoc HAK.out hq
            rw [← HT.out] at hsn
            have HSN := Lib.hid hsn
            simp only [hq, askW4] at hA
            have HA := Lib.hid hA
            clear hsn HT HC hA hq
            have hne : some (w.heap.size + more y1) ≠ (Value.slice B2 asks.length d2).ownBlock := Kd.R_ne HR2'.out HWK.out (by decide)
            have cv2 : wr.cell? ⟨w.heap.size + more y1, 1, none⟩ = some (.slice B2 asks.length d2) := blk_cell HWK.out rfl
            go_wp2_with fail
            refine (HA.out _).mono ?_
            rintro e w' ⟨rfl, hb⟩
            obtain ⟨z, rfl⟩ := ext_of hb
            clear hb
            go_wp2_with (first | ((with_reducible refine gate_builtin (b := .append) (xs := #[.tmp 78, .tmp 80]) rfl ?_); refine Hid.out ?_))
            refine Lib.hid ?_
            refine Kd.R_append k32 (w0 := ext w y1) (w.heap.size + more y1) rfl (.tmp 78) (.tmp 80) 23 32 (.agg #[(.int .i64 0), (.string ⟨#[]⟩), (.string ⟨#[]⟩)]) 40 rfl Tryz.underlying23 infoMat rfl (by decide) (by omega) (.slice B2 asks.length d2) (asks.map ofMat) (ofMat ⟨mk, mn, mv⟩) [.int .i64 mk, .string mn, .string mv] (fun _ => True) (fun _ => False) rfl ?aX ?aP (fun _ hk => hk.elim) (fun _ _ => trivial) ?aO ?aB ?aS ?aL ?_
            case aX => exact congrArg (fun s => Value.slice (some ⟨s, 0, none⟩) 1 1) (show wr.heap.size + more z + 1 = _ from by rw [size_alloc, ext_size])
            case aP => exact k32_mkM _ _ _ (ofMat ⟨mk, mn, mv⟩)
            case aO => exact Kd.R_below HR2'.out (by repeat (first | exact Below.refl _ _ | apply bal | apply bext | apply bdr | apply bdrN | (refine bst ?_ _ (by simp only [ext_size, size_alloc, size_set]; omega))))
            case aB => exact HW2.out.trans (bel_to (Nat.le_of_lt hHl2) (by repeat (first | exact Below.refl _ _ | apply bal | apply bext | apply bdr | apply bdrN | (refine bst ?_ _ (by simp only [ext_size, size_alloc, size_set]; omega)))))
            case aS => simp only [ext_size, size_alloc, size_set]; omega
            case aL => rw [List.length_map, HAL.out]; omega
            intro v6 w6 ho hb6 hg6 hat
            obtain ⟨A6, c6, rfl⟩ := Kd.R_slice ho
            have hl1 : (asks.map ofMat ++ [ofMat ⟨mk, mn, mv⟩]).length = j + 1 := by rw [List.length_append, List.length_map, HAL.out]; rfl
            rw [hl1] at ho hat ⊢
            have hb6b := blk_grown (blk_call (by exact (by repeat (first | exact Below.refl _ _ | apply bal | apply bext | apply bdr | apply bdrN | (refine bst ?_ _ (by simp only [ext_size, size_alloc, size_set]; omega))))) HWK.out) hg6 hne
            have q6 : w6.cell? ⟨w.heap.size + more y1, 1, none⟩ = some (.slice B2 asks.length d2) := blk_cell hb6b rfl
            have f6 : w6.frozen? ⟨w.heap.size + more y1, 1, none⟩ = false := blk_free hb6b 1
            have hch6 := Kd.R_over' (Kd.R_below HR1'.out (by exact (by repeat (first | exact Below.refl _ _ | apply bal | apply bext | apply bdr | apply bdrN | (refine bst ?_ _ (by simp only [ext_size, size_alloc, size_set]; omega)))))) (Kd.R_typed (Kd.R_below HR2'.out (by exact (by repeat (first | exact Below.refl _ _ | apply bal | apply bext | apply bdr | apply bdrN | (refine bst ?_ _ (by simp only [ext_size, size_alloc, size_set]; omega))))))) (by decide) hg6
            go_wp2_with fail
            refine ⟨⟨j + 1, by omega, by go_num, .slice B1 chain.length d1, .slice A6 (j + 1) c6, asks ++ [⟨mk, mn, mv⟩], HSN.out, hb6.trans (set_low _ _ _ _), blk_set hb6b 1 _, Kd.R_set hch6 hb6b (by decide) 1 _, ?_⟩, by simp [intOf]; omega⟩
            rw [List.map_append]
            exact Kd.R_set ho hb6b (by decide) 1 _
        · obtain rfl : j = zs.length := by omega
          have hall2 : asksP zs = some asks := by
            have := HAK.out
            rwa [List.take_length] at this
          have HRE3 := Lib.hid (show res = if rteB ⟨chain, asks⟩ c.rs.length = true then (c.ts ++ [⟨chain, asks⟩], 0) else (c.ts, 3) from by rw [HRE2.out, hall2]; rfl)
          have HMO := matsOk_of (asksP_ok hall2)
          have hrl := HH.out.rl
          have hwf : ∀ k ∈ chain, (Lit.int .i64 k).wf = true := fun k hk => by
            have := HCH.out k hk
            exact WalkArith.wf_i64 (by omega)
          have G1 := Lib.hid (show SlAt wr (.slice B1 chain.length d1) 1 chain.length (intsC chain) from by
            obtain ⟨A', c', e, hs⟩ := ints_open HR1'.out
            rw [e]
            exact hs)
          have G2 := Lib.hid (show SlAt wr (.slice B2 asks.length d2) 3 asks.length (matsC asks) from by
            obtain ⟨A', c', e, hs⟩ := mats_open HR2'.out
            rw [e]
            exact hs)
          have hIR := fun W (g1 : SlAt W (.slice B1 chain.length d1) 1 chain.length (intsC chain)) (g2 : SlAt W (.slice B2 asks.length d2) 3 asks.length (matsC asks)) => isRoute_any B1 B2 d1 d2 ⟨chain, asks⟩ (c.rs.length : Int) W g1 g2 HMO hwf (by show chain.length ≤ maxLen; rw [HCL.out]; unfold maxLen; omega)
          have HIR := Lib.hid hIR
          have cH0 : wr.cell? ⟨w.heap.size + more y1, 0, none⟩ = some (.slice B1 chain.length d1) := blk_cell HWK.out rfl
          have cH1 : wr.cell? ⟨w.heap.size + more y1, 1, none⟩ = some (.slice B2 asks.length d2) := blk_cell HWK.out rfl
          clear hIR hwf HMO hall2 hlt2 hrl HCH
          generalize rteB ⟨chain, asks⟩ (c.rs.length : Int) = rb at HRE3 HIR
          cases rb
          · go_wp2_with fail
            refine wp_region_ext (by kernel_rfl) (by kernel_rfl) ?_
            repeat (go_big_quiet_step ((first | (go_at_call 66; exact Calls.grew (HIR.out _ (G1.out.stay (by repeat (first | exact Below.refl _ _ | apply bal | apply bext | apply bdr | apply bdrN | (refine bst ?_ _ (by simp only [ext_size, size_alloc, size_set]; omega))))) (G2.out.stay (by repeat (first | exact Below.refl _ _ | apply bal | apply bext | apply bdr | apply bdrN | (refine bst ?_ _ (by simp only [ext_size, size_alloc, size_set]; omega))))))))))
            refine wpQuiet_nil ?_
            intro _ hw'
            obtain ⟨y2, rfl⟩ := hw'
            go_wp2_with fail
            go_ret
            have HE := HRE3.out
            rw [if_neg (by decide)] at HE
            rw [HE]
            exact ⟨rfl, bel_low (by omega) (bel HW1.out (by repeat (first | exact Below.refl _ _ | apply bal | apply bext | apply bdr | apply bdrN | (refine bst ?_ _ (by simp only [ext_size, size_alloc, size_set]; omega))))), _, HH.out.stay (bel HW1.out (by repeat (first | exact Below.refl _ _ | apply bal | apply bext | apply bdr | apply bdrN | (refine bst ?_ _ (by simp only [ext_size, size_alloc, size_set]; omega)))))⟩
          · go_wp2_with fail
            refine wp_region_ext (by kernel_rfl) (by kernel_rfl) ?_
            repeat (go_big_quiet_step ((first | (go_at_call 66; exact Calls.grew (HIR.out _ (G1.out.stay (by repeat (first | exact Below.refl _ _ | apply bal | apply bext | apply bdr | apply bdrN | (refine bst ?_ _ (by simp only [ext_size, size_alloc, size_set]; omega))))) (G2.out.stay (by repeat (first | exact Below.refl _ _ | apply bal | apply bext | apply bdr | apply bdrN | (refine bst ?_ _ (by simp only [ext_size, size_alloc, size_set]; omega))))))))))
            refine wpQuiet_nil ?_
            intro _ hw'
            obtain ⟨y2, rfl⟩ := hw'
            go_wp2_with fail
            refine name_world (fun W5 hW5 => ?_)
            have HB5 := Lib.hid (show Below wr.heap.size wr W5 from by rw [hW5]; exact (by repeat (first | exact Below.refl _ _ | apply bal | apply bext | apply bdr | apply bdrN | (refine bst ?_ _ (by simp only [ext_size, size_alloc, size_set]; omega)))))
            have BK5 := Lib.hid (blk_call HB5.out HWK.out)
            have R5 := HH.out.stay (bel HW1.out HB5.out)
            clear hW5
            have hge : g ≤ W5.heap.size := Nat.le_of_lt R5.lt
            refine start_ (n := 13) (S := RteS g (w.heap.size + more y1) (.slice TA c.ts.length tcap) (.slice B1 chain.length d1) (.slice B2 asks.length d2)) (ds := [12]) #[false, false, false, false, false, false, false, false, false, false, false, false, false] (by kernel_rfl) rfl rfl (RteS.of (blk_call (Below.refl _ _).drew R5.blk) rfl (blk_call (Below.refl _ _).drew BK5.out)) (fun hHeld => ?_)
            refine pure_ (i := 0) (N := some 93) (v := ?_) (a' := ?_) #[true, false, false, false, false, false, false, false, false, false, false, false, false] rfl rfl (by kernel_rfl) (fun _ _ _ h => h) (Or.inl ⟨by rfl, ?_⟩) ?_ ?_
            rotate_left
            · intro w'
              go_simp
              with_reducible rfl
            rotate_left
            · simp only [Act.put, List.setIfInBounds_toArray, List.set_cons_zero, List.set_cons_succ, i64_w, i32_w]
              rfl
            refine pure_ (i := 1) (N := some 94) (v := ?_) (a' := ?_) #[true, true, false, false, false, false, false, false, false, false, false, false, false] rfl rfl (by kernel_rfl) (fun _ _ _ h => h) (Or.inl ⟨by rfl, ?_⟩) ?_ ?_
            rotate_left
            · intro w'
              go_simp
              with_reducible rfl
            rotate_left
            · simp only [Act.put, List.setIfInBounds_toArray, List.set_cons_zero, List.set_cons_succ, i64_w, i32_w]
              rfl
            refine pure_ (i := 2) (N := some 95) (v := ?_) (a' := ?_) #[true, true, true, false, false, false, false, false, false, false, false, false, false] rfl rfl (by kernel_rfl) (fun _ _ _ h => h) (Or.inl ⟨by rfl, ?_⟩) ?_ ?_
            rotate_left
            · intro w'
              go_simp
              with_reducible rfl
            rotate_left
            · simp only [Act.put, List.setIfInBounds_toArray, List.set_cons_zero, List.set_cons_succ, i64_w, i32_w]
              rfl
            refine pure_ (i := 3) (N := some 96) (v := ?_) (a' := ?_) #[true, true, true, true, false, false, false, false, false, false, false, false, false] rfl rfl (by kernel_rfl) (fun _ _ _ h => h) (Or.inl ⟨by rfl, ?_⟩) ?_ ?_
            rotate_left
            · intro w'
              go_simp
              with_reducible rfl
            rotate_left
            · simp only [Act.put, List.setIfInBounds_toArray, List.set_cons_zero, List.set_cons_succ, i64_w, i32_w]
              rfl
            refine pure_ (i := 4) (N := some 97) (v := ?_) (a' := ?_) #[true, true, true, true, true, false, false, false, false, false, false, false, false] rfl rfl (by kernel_rfl) (fun _ _ _ h => h) (Or.inl ⟨by rfl, ?_⟩) ?_ ?_
            rotate_left
            · intro w'
              go_simp
              with_reducible rfl
            rotate_left
            · simp only [Act.put, List.setIfInBounds_toArray, List.set_cons_zero, List.set_cons_succ, i64_w, i32_w]
              rfl
            refine take_ (i := 5) (N := some 98) (v := ?_) (a' := ?_) #[true, true, true, true, true, true, false, false, false, false, false, false, false] rfl rfl (by kernel_rfl) (fun _ _ _ h => h) (Or.inl ⟨by rfl, ?_⟩) hHeld ?_ ?_
            rotate_left
            · rintro w' ⟨e, e0, e1⟩
              go_simp
              with_reducible rfl
            rotate_left
            · simp only [Act.put, List.setIfInBounds_toArray, List.set_cons_zero, List.set_cons_succ, i64_w, i32_w]
              rfl
            refine take_ (i := 6) (N := some 99) (v := ?_) (a' := ?_) #[true, true, true, true, true, true, true, false, false, false, false, false, false] rfl rfl (by kernel_rfl) (fun _ _ _ h => h) (Or.inl ⟨by rfl, ?_⟩) hHeld ?_ ?_
            rotate_left
            · rintro w' ⟨e, e0, e1⟩
              go_simp
              with_reducible rfl
            rotate_left
            · simp only [Act.put, List.setIfInBounds_toArray, List.set_cons_zero, List.set_cons_succ, i64_w, i32_w]
              rfl
            have HBd := Lib.hid (show Below w.heap.size w W5.drew from (bel HW1.out HB5.out).drew)
            have BK5d := Lib.hid (blk_call (Below.refl _ _).drew BK5.out)
            have R5d := R5.stay (Below.refl _ _).drew
            have C1d := Lib.hid (Kd.R_below HR1'.out HB5.out.drew)
            have C2d := Lib.hid (Kd.R_below HR2'.out HB5.out.drew)
            have TS := Lib.hid (Kd.S_old HH.out.ts HBd.out)
            have hgH : g ≤ w.heap.size + more y1 := by omega
            have HTL := Lib.hid (Kd.S_lt HH.out.ts)
            generalize W5.drew = W6 at *
            refine one_ (i := 7) (N := some 100) #[true, true, true, true, true, true, true, true, false, false, false, false, false] rfl rfl (by kernel_rfl) (by decide) (fun K hK => ?_)
            refine value_ (w1 := ?_) (v := ?_) (by rfl) rfl ?_ ?_
            rotate_left 2
            · go_simp
              constructor
              · rfl
              · rfl
            refine hK.out _ _ (RteS.of (blk_alloc _ R5d.blk) rfl (blk_alloc _ BK5d.out)) (fun hHeld => ?_)
            clear hK K
            refine norm_ (a' := ?_) ?_ ?_
            rotate_left
            · show Act.put _ (some 100) _ = _
              simp only [Act.put, List.setIfInBounds_toArray, List.set_cons_zero, List.set_cons_succ, i64_w, i32_w]
              rfl
            refine one_ (i := 8) (N := some 101) #[true, true, true, true, true, true, true, true, true, false, false, false, false] rfl rfl (by kernel_rfl) (by decide) (fun K hK => ?_)
            refine Kd.S_append_step k93 (w0 := w) g (by rfl) (.tmp 98) (.tmp 100) 55 93 (.agg #[.slice none 0 0, .slice none 0 0]) 48 rfl Tryz.underlying55 infoRte rfl (by decide) (by omega) (.slice TA c.ts.length tcap) (c.ts.map ofRte) (ofRte ⟨chain, asks⟩) [.slice B1 chain.length d1, .slice B2 asks.length d2] (fun _ => True) (fun k => w.heap.size + more y1 ≤ k) rfl rfl ?aP ?aK (fun _ _ => trivial) ?aO (bel_low (by omega) HBd.out) (Nat.le_of_lt R5d.lt) ?aL ?_
            case aP => exact k93_mkM _ _ _ (ofRte ⟨chain, asks⟩) (Kd.R_lower (Kd.R_mono (Kd.R_bound C1d.out) (fun _ hk => hk.2.1)) hgH) (Kd.R_lower (Kd.R_mono (Kd.R_bound C2d.out) (fun _ hk => hk.2.1)) hgH)
            case aK =>
              intro k' hk'
              refine ⟨trivial, fun e => ?_⟩
              have := HTL.out k' e.symm
              omega
            case aO => exact Kd.S_mono TS.out (fun k' hk' => ⟨trivial, by have := hk'.2; omega⟩)
            case aL =>
              have := R5d.tl
              rw [List.length_map]
              omega
            intro v1 w6 ho hb6' hg6 hat
            obtain ⟨A6, c6, rfl⟩ := Kd.S_slice ho
            have hl1 : (c.ts.map ofRte ++ [ofRte ⟨chain, asks⟩]).length = c.ts.length + 1 := by rw [List.length_append, List.length_map]; rfl
            rw [hl1] at ho hat ⊢
            clear hl1
            have hne : some g ≠ (Value.slice TA c.ts.length tcap).ownBlock := Kd.S_ne R5d.ts R5d.blk (by decide)
            have hne2 : some (w.heap.size + more y1) ≠ (Value.slice TA c.ts.length tcap).ownBlock := fun e => by
              have := HTL.out _ e.symm
              omega
            have hb1 := blk_grown R5d.blk hg6 hne
            have hb2 := blk_grown BK5d.out hg6 hne2
            have hrs := Kd.R_over' R5d.rs (Kd.S_typed R5d.ts) (by decide) hg6
            refine hK.out _ _ (RteS.of hb1 rfl hb2) (fun hHeld => ?_)
            clear hK K
            refine norm_ (a' := ?_) ?_ ?_
            rotate_left
            · show Act.put _ (some 101) _ = _
              simp only [Act.put, List.setIfInBounds_toArray, List.set_cons_zero, List.set_cons_succ, i64_w, i32_w]
              rfl
            have q6 : w6.cell? ⟨g, 1, none⟩ = some (.slice TA c.ts.length tcap) := blk_cell hb1 rfl
            have f6 : w6.frozen? ⟨g, 1, none⟩ = false := blk_free hb1 1
            refine pure_ (i := 9) (N := some 102) (v := ?_) (a' := ?_) #[true, true, true, true, true, true, true, true, true, true, false, false, false] rfl rfl (by kernel_rfl) (fun _ _ _ h => h) (Or.inl ⟨by rfl, ?_⟩) ?_ ?_
            rotate_left
            · intro w'
              go_simp
              with_reducible rfl
            rotate_left
            · simp only [Act.put, List.setIfInBounds_toArray, List.set_cons_zero, List.set_cons_succ, i64_w, i32_w]
              rfl
            refine pure_ (i := 10) (N := some 103) (v := ?_) (a' := ?_) #[true, true, true, true, true, true, true, true, true, true, true, false, false] rfl rfl (by kernel_rfl) (fun _ _ _ h => h) (Or.inl ⟨by rfl, ?_⟩) ?_ ?_
            rotate_left
            · intro w'
              go_simp
              with_reducible rfl
            rotate_left
            · simp only [Act.put, List.setIfInBounds_toArray, List.set_cons_zero, List.set_cons_succ, i64_w, i32_w]
              rfl
            refine pure_ (i := 11) (N := some 104) (v := ?_) (a' := ?_) #[true, true, true, true, true, true, true, true, true, true, true, true, false] rfl rfl (by kernel_rfl) (fun _ _ _ h => h) (Or.inl ⟨by rfl, ?_⟩) ?_ ?_
            rotate_left
            · intro w'
              go_simp
              with_reducible rfl
            rotate_left
            · simp only [Act.put, List.setIfInBounds_toArray, List.set_cons_zero, List.set_cons_succ, i64_w, i32_w]
              rfl
            refine last_ (i := 12) (N := none) #[true, true, true, true, true, true, true, true, true, true, true, true, true] rfl rfl (by kernel_rfl) (by decide) (fun K hK => ?_)
            refine skip_ (w1 := ?_) (by rfl) rfl ?_ ?_
            rotate_left
            · go_simp
              rfl
            refine hK.out _ _ ?_
            clear hK K
            refine done_ (by kernel_rfl) ?_
            go_wp2_with fail
            go_ret
            have HE := HRE3.out
            rw [if_pos trivial] at HE
            rw [HE]
            refine ⟨rfl, hb6'.trans (set_low _ _ _ _), .slice A6 (c.ts.length + 1) c6, ?_, ?_, ?_, R5d.rl, ?_⟩
            · exact blk_set hb1 1 _
            · exact Kd.R_set hrs hb1 (by decide) 1 _
            · show Kd.S _ _ _ _ _ _ ((c.ts ++ [_]).map ofRte)
              rw [List.map_append]
              exact Kd.S_set ho hb1 (by decide) 1 _
            · have h5 := R5d.tl
              show (c.ts ++ [_]).length ≤ 4
              rw [List.length_append, List.length_singleton]
              omega
end Go.Proofs.YtjfknmlchdifjaaGreatDoor
namespace Go.Proofs.YtjfknmlchdifjaaGreatDoor
open Go.RowKit Go.Maps
def asIs (v : Value) : Option (DataW Value × List MemPlace) := some (.held v, [])
def putS (D : DataW Value) (s : ByteArray) (v : Value) : DataW Value := D.put (.string s.data.toList) (.held v)
theorem putS_same {D : DataW Value} (h : IsMap D) (s : ByteArray) (v z : Value) : (putS D s v).atKey (.string s.data.toList) (.held z) = .held v := atKey_put_same h (show WideAt.IsKeyLit (.string s.data.toList) from trivial) _ _
theorem putS_other {D : DataW Value} {s : ByteArray} {t : List UInt8} (h : t ≠ s.data.toList) (v : Value) (z : DataW Value) : (putS D s v).atKey (.string t) z = D.atKey (.string t) z := atKey_put_other (by intro e; injection e with e; exact h e) _ _
theorem putS_map {D : DataW Value} (h : IsMap D) (s : ByteArray) (v : Value) : IsMap (putS D s v) := h.put _ _
theorem keyOf_text {P : Program} {k : TypeId} (hk : P.underlying k = some .string) {s : ByteArray} (hs : s.size ≤ maxLen) : keyOf P k (.string s) = some (.string s.data.toList) := by
  unfold keyOf mapKey
  rw [hk]
  exact if_pos hs
theorem gate_insert {P : Program} {w : World} {ops : Array Oper} {rest : List Oper} {o : Oper} {a : Act} {Q : Exit → Act → World → Prop} {m x v : Operand} {t : TypeId} (_ho : o.op = Op.insert t m x v) (h : wpList P ops Q (o :: rest) a w) : wpList P ops Q (o :: rest) a w := h
theorem wpList_insert_asIs {P : Program} (w : World) {ops : Array Oper} {rest : List Oper} {o : Oper} {a : Act} {Q : Exit → Act → World → Prop}
    (hg : o.guard = none) (m x v : Operand) (t : TypeId) (hop : o.op = Op.insert t m x v)
    (k e : TypeId) (K : Keyed P k) (ht : P.underlying t = some (.map k e)) (b n : Nat) (D : DataW Value)
    (hm : a.eval m = .map (some b)) (hown : w.ownsMap P k asIs b n D) (hn : n < maxLen) (s : ByteArray) (val : Value) (hx : a.eval x = .string s) (hv : a.eval v = val) (hkey : keyOf P k (.string s) = some (.string s.data.toList))
    (hK : ∀ w', w'.ownsMap P k asIs b (n + 1) (putS D s val) → w.grownBy w' (some b) → wpList P ops Q rest (a.put o.dst undef) w') :
    wpList P ops Q (o :: rest) a w := by
  refine wpList_plain hg fun K' hK' => ?_
  obtain ⟨w', hrun, r1, r2⟩ := hown.update K ht hn hkey (val := val) (d := .held val) (ps := []) rfl
  unfold Oper.wp
  simp [execOp, hop, hm, hx, hv, hrun, Result.andThen]
  exact hK' _ _ (hK w' r1 r2)
def D4 (s1 s2 s3 s4 : ByteArray) (v1 v2 v3 v4 : Value) : DataW Value := putS (putS (putS (putS (.map []) s1 v1) s2 v2) s3 v3) s4 v4
theorem D4_at {s1 s2 s3 s4 : ByteArray} (h12 : s1.data.toList ≠ s2.data.toList) (h13 : s1.data.toList ≠ s3.data.toList) (h14 : s1.data.toList ≠ s4.data.toList) (h23 : s2.data.toList ≠ s3.data.toList) (h24 : s2.data.toList ≠ s4.data.toList) (h34 : s3.data.toList ≠ s4.data.toList)
    (v1 v2 v3 v4 z : Value) (t : List UInt8) : (D4 s1 s2 s3 s4 v1 v2 v3 v4).atKey (.string t) (.held z) =
      .held (if t = s1.data.toList then v1 else if t = s2.data.toList then v2 else if t = s3.data.toList then v3 else if t = s4.data.toList then v4 else z) := by
  have m0 : IsMap (.map [] : DataW Value) := isMap_empty
  have m1 := putS_map m0 s1 v1
  have m2 := putS_map m1 s2 v2
  have m3 := putS_map m2 s3 v3
  unfold D4
  by_cases h1 : t = s1.data.toList
  · subst h1
    rw [if_pos rfl, putS_other h14, putS_other h13, putS_other h12, putS_same m0]
  rw [if_neg h1]
  by_cases h2 : t = s2.data.toList
  · subst h2
    rw [if_pos rfl, putS_other h24, putS_other h23, putS_same m1]
  rw [if_neg h2]
  by_cases h3 : t = s3.data.toList
  · subst h3
    rw [if_pos rfl, putS_other h34, putS_same m2]
  rw [if_neg h3]
  by_cases h4 : t = s4.data.toList
  · subst h4
    rw [if_pos rfl, putS_same m3]
  rw [if_neg h4, putS_other h4, putS_other h3, putS_other h2, putS_other h1]
  rfl
end Go.Proofs.YtjfknmlchdifjaaGreatDoor
namespace Go.Proofs.YtjfknmlchdifjaaGreatDoor
open Go.RowKit Go.Maps Go.Proofs.YtjfknmlchdifjaaGreatDoorQ Go.Proofs.YtjfknmlchdifjaaGreatDoorQ.P Go.Proofs.YtjfknmlchdifjaaGreatDoorW.PrintWords Go.Proofs.YtjfknmlchdifjaaGreatDoorW.PrintLast Go.Proofs.YtjfknmlchdifjaaGreatDoorW.PrintMore
attribute [local go_sem high] ext_size ext_cell ext_frozen alloc_cell alloc_frozen
attribute [local go_sem] lt_more lt_suc drew_size drew_cell
theorem undMay : Tryz.prog.underlying 131 = some (.map 9 67) := by kernel_rfl
theorem undRead : Tryz.prog.underlying 133 = some (.map 9 132) := by kernel_rfl
theorem lawS : Keyed Tryz.prog 9 := string_keyed Tryz.underlying9
theorem zeroMay (w : World) : (zeroValue 67).run Tryz.prog w = .ok (.slice none 0 0) w := by kernel_rfl
theorem zeroRead (w : World) : (zeroValue 132).run Tryz.prog w = .ok .nilFunc w := by kernel_rfl
def keyR : ByteArray := ⟨#[114, 101, 99, 101, 105, 118, 101, 114]⟩
def keyT : ByteArray := ⟨#[114, 111, 117, 116, 101]⟩
def keyP : ByteArray := ⟨#[114, 101, 112, 101, 97, 116]⟩
def keyB : ByteArray := ⟨#[98, 101, 97, 116]⟩
theorem words_in {s : ByteArray} {n : Nat} (h : s.size ≤ n) : (∀ w ∈ wordsT 32 s, w.size ≤ n) ∧ (wordsT 32 s).length ≤ n + 1 := by
  have hl := len_data s
  refine ⟨fun w hw => ?_, ?_⟩
  · obtain ⟨x, hx, rfl⟩ := List.mem_map.1 hw
    have := (splitL_mem 32 _ x hx).2
    have e := len_data (tx x)
    rw [tx_data] at e
    omega
  · have := splitL_len 32 s.data.toList
    unfold wordsT
    rw [List.length_map]
    omega
theorem name_worldL {P : Program} {ops : Array Oper} {rest : List Oper} {a : Act} {Q : Exit → Act → World → Prop} {W : World} (h : ∀ W5, W5 = W → wpList P ops Q rest a W5) : wpList P ops Q rest a W := h W rfl
theorem owns_move {H : Type} {P : Program} {k : TypeId} {R : Value → Option (DataW H × List MemPlace)} {w w' : World} {b n : Nat} {D : DataW H} (h : w.ownsMap P k R b n D) (e : w'.heap[b]? = w.heap[b]?) : w'.ownsMap P k R b n D := by
  obtain ⟨es, clock, hb, F, r⟩ := h
  exact ⟨es, clock, e.trans hb, F, r⟩
theorem look_asIs {P : Program} {w : World} {t k e : TypeId} {b n : Nat} {D : DataW Value} (h : w.ownsMap P k asIs b n D) (K : Keyed P k) (ht : P.underlying t = some (.map k e)) {z : Value} (hz : (zeroValue e).run P w = .ok z w) {key : Value} {kl : Lit} (hkey : keyOf P k key = some kl) {v : Value} (hat : D.atKey kl (.held z) = .held v) :
    (Instr.lookup t (.map (some b)) key false).run P w = .ok v w := by
  obtain ⟨v', ps, hrun, hv⟩ := h.lookup K ht hz (zd := .held z) (zp := []) rfl hkey
  rw [hat] at hv
  unfold asIs at hv
  injection hv with hv
  injection hv with hv _
  injection hv with hv
  subst hv
  exact hrun
def mayV (r1 r2 r3 r4 : Nat) (t : List UInt8) : Value := if t = keyR.data.toList then .slice (some ⟨r1, 0, none⟩) 2 2 else if t = keyT.data.toList then .slice (some ⟨r2, 0, none⟩) 2 2 else if t = keyP.data.toList then .slice (some ⟨r3, 0, none⟩) 1 1 else if t = keyB.data.toList then .slice (some ⟨r4, 0, none⟩) 1 1 else .slice none 0 0
def readV (g : Nat) (t : List UInt8) : Value := if t = keyR.data.toList then .func (.func 97) #[.pointer (some ⟨g, 0, none⟩)] #[] else if t = keyT.data.toList then .func (.func 98) #[.pointer (some ⟨g, 0, none⟩)] #[] else if t = keyP.data.toList then .func (.func 99) #[.pointer (some ⟨g, 0, none⟩)] #[] else if t = keyB.data.toList then .func (.func 100) #[.pointer (some ⟨g, 0, none⟩)] #[] else .nilFunc
theorem eq_bytes (a b : ByteArray) : decide (a = b) = decide (a.data.toList = b.data.toList) := by
  by_cases h : a = b
  · subst h; simp
  · rw [decide_eq_false h, decide_eq_false (fun e => h (tx_inj e))]
theorem has1 (x y : ByteArray) : Lib.containsS [x] y = decide (y.data.toList = x.data.toList) := by
  rw [← eq_bytes, Bool.eq_iff_iff, Lib.containsS_iff]
  simp
theorem has2 (x z y : ByteArray) : Lib.containsS [x, z] y = (decide (y.data.toList = x.data.toList) || decide (y.data.toList = z.data.toList)) := by
  rw [← eq_bytes, ← eq_bytes, Bool.eq_iff_iff, Lib.containsS_iff]
  simp
theorem may_any (r1 r2 r3 r4 : Nat) (t : List UInt8) (ah : ByteArray) (W : World) (h1 : W.heap[r1]? = some (.cells #[.string ⟨#[]⟩, .string keyR] 9 (0, 0))) (h2 : W.heap[r2]? = some (.cells #[.string keyR, .string keyT] 9 (0, 0)))
    (h3 : W.heap[r3]? = some (.cells #[.string keyT] 9 (0, 0))) (h4 : W.heap[r4]? = some (.cells #[.string keyP] 9 (0, 0))) :
    Calls Tryz.prog 101 #[mayV r1 r2 r3 r4 t, .string ah] W fun e w' => e = .returned (.bool (mayB t ah.data.toList)) ∧ w' = W := by
  unfold mayV mayB
  by_cases c1 : t = rcvT
  · rw [if_pos c1, if_pos (show t = keyR.data.toList from c1)]
    refine (Tryz.slices_Contains_string r1 0 2 2 [⟨#[]⟩, keyR] ah W (by decide) (by omega) (fun j hj => ?_)).mono ?_
    · match j, hj with
      | 0, _ => exact blk_cell h1 rfl
      | 1, _ => exact blk_cell h1 rfl
    · rintro e w' ⟨rfl, rfl⟩
      exact ⟨congrArg (fun b => Ending.returned (.bool b)) (has2 _ _ _), rfl⟩
  rw [if_neg c1, if_neg (show ¬ t = keyR.data.toList from c1)]
  by_cases c2 : t = rteT
  · rw [if_pos c2, if_pos (show t = keyT.data.toList from c2)]
    refine (Tryz.slices_Contains_string r2 0 2 2 [keyR, keyT] ah W (by decide) (by omega) (fun j hj => ?_)).mono ?_
    · match j, hj with
      | 0, _ => exact blk_cell h2 rfl
      | 1, _ => exact blk_cell h2 rfl
    · rintro e w' ⟨rfl, rfl⟩
      exact ⟨congrArg (fun b => Ending.returned (.bool b)) (has2 _ _ _), rfl⟩
  rw [if_neg c2, if_neg (show ¬ t = keyT.data.toList from c2)]
  by_cases c3 : t = repT
  · rw [if_pos c3, if_pos (show t = keyP.data.toList from c3)]
    refine (Tryz.slices_Contains_string r3 0 1 1 [keyT] ah W (by decide) (by omega) (fun j hj => ?_)).mono ?_
    · match j, hj with
      | 0, _ => exact blk_cell h3 rfl
    · rintro e w' ⟨rfl, rfl⟩
      exact ⟨congrArg (fun b => Ending.returned (.bool b)) (has1 _ _), rfl⟩
  rw [if_neg c3, if_neg (show ¬ t = keyP.data.toList from c3)]
  by_cases c4 : t = beatT
  · rw [if_pos c4, if_pos (show t = keyB.data.toList from c4)]
    refine (Tryz.slices_Contains_string r4 0 1 1 [keyP] ah W (by decide) (by omega) (fun j hj => ?_)).mono ?_
    · match j, hj with
      | 0, _ => exact blk_cell h4 rfl
    · rintro e w' ⟨rfl, rfl⟩
      exact ⟨congrArg (fun b => Ending.returned (.bool b)) (has1 _ _), rfl⟩
  rw [if_neg c4, if_neg (show ¬ t = keyB.data.toList from c4)]
  exact Tryz.slices_Contains_string_empty none 0 ah W
theorem may_keys {f : ByteArray} {a : List UInt8} (h : mayB f.data.toList a = true) : f = keyR ∨ f = keyT ∨ f = keyP ∨ f = keyB := by
  unfold mayB at h
  by_cases c1 : f.data.toList = rcvT
  · exact .inl (tx_inj c1)
  rw [if_neg c1] at h
  by_cases c2 : f.data.toList = rteT
  · exact .inr (.inl (tx_inj c2))
  rw [if_neg c2] at h
  by_cases c3 : f.data.toList = repT
  · exact .inr (.inr (.inl (tx_inj c3)))
  rw [if_neg c3] at h
  by_cases c4 : f.data.toList = beatT
  · exact .inr (.inr (.inr (tx_inj c4)))
  rw [if_neg c4] at h
  cases h
def LnS (g M : Nat) (ah first : ByteArray) (mv : Value) (w : World) : Prop :=
  w.cell? ⟨g, 5, none⟩ = some (.string ah) ∧ (Instr.lookup 131 (.map (some M)) (.string first) false).run Tryz.prog w = .ok mv w
set_option maxHeartbeats 8000000 in
set_option maxRecDepth 100000 in
theorem line_any (g : Nat) (rv tv wv : Value) (c : Cfg) (ah : ByteArray) (s : ByteArray) (w : World) (h : RdA w g rv tv wv c ah) (hG : ∀ W, Below g w W → GOK W) (hs : s.size ≤ 100000) :
    Calls Tryz.prog 55 #[.pointer (some ⟨g, 0, none⟩), .string s] w fun e w' => e = .returned (.int .i64 (lineS c ah.data.toList (wordsT 32 s)).2.2) ∧ Below g w w' ∧
      ∃ rv' tv' wv' ah', ah'.data.toList = (lineS c ah.data.toList (wordsT 32 s)).2.1 ∧ RdA w' g rv' tv' wv' (lineS c ah.data.toList (wordsT 32 s)).1 ah' := by
  have hmm := @run_makeMap Tryz.prog
  have HH := Lib.hid h
  have HG := Lib.hid hG
  have hgl := h.lt
  obtain ⟨res, hres⟩ : ∃ res, res = lineS c ah.data.toList (wordsT 32 s) := ⟨_, rfl⟩
  rw [← hres]
  clear h hG
  go_enter Tryz.func55, Tryz.ntmps55
  go_wp2_with (first | ((with_reducible refine gate_insert (v := .tmp 9) rfl ?_); refine Hid.out ?_))
  refine Lib.hid ?_
  refine wpList_insert_asIs _ rfl _ _ _ 131 rfl 9 67 lawS undMay w.heap.size 0 (.map []) rfl ?o1 (by unfold maxLen; omega) keyR (.slice (some ⟨w.heap.size + 1, 0, none⟩) 2 2) rfl rfl (keyOf_text Tryz.underlying9 (by decide)) ?_
  case o1 => exact (World.ownsMap_made w Tryz.prog 9 asIs).alloc _
  intro w1 own gr
  have O1 := Lib.hid own
  have hsz0 : (w.alloc (.map #[] 0)).heap.size = w.heap.size + 1 := size_alloc _ _
  have R1 := Lib.hid (blk_grown (blk_new (w.alloc (.map #[] 0)) (.cells #[.string ⟨#[]⟩, .string ⟨#[114, 101, 99, 101, 105, 118, 101, 114]⟩] 9)) gr (by rw [hsz0]; intro e; injection e with e; omega))
  rw [hsz0] at R1
  have B1 := Lib.hid ((((Below.refl w.heap.size w).alloc (Nat.le_refl _) (.map #[] 0)).alloc (by rw [hsz0]; omega) (.cells #[.string ⟨#[]⟩, .string ⟨#[114, 101, 99, 101, 105, 118, 101, 114]⟩] 9)).grown gr (by rw [size_alloc, hsz0]; omega) (fun k e => by injection e with e; omega))
  have L1 := blk_lt R1.out
  clear own gr
  go_wp2_with (first | ((with_reducible refine gate_insert (v := .tmp 10) rfl ?_); refine Hid.out ?_))
  refine Lib.hid ?_
  refine wpList_insert_asIs _ rfl _ _ _ 131 rfl 9 67 lawS undMay w.heap.size 1 (putS (.map []) keyR (.slice (some ⟨w.heap.size + 1, 0, none⟩) 2 2)) rfl ?o1 (by unfold maxLen; omega) keyT (.slice (some ⟨w1.heap.size, 0, none⟩) 2 2) rfl rfl (keyOf_text Tryz.underlying9 (by decide)) ?_
  case o1 => exact O1.out.alloc _
  intro w2 own gr
  have O2 := Lib.hid own
  have R1 := Lib.hid (blk_grown (blk_alloc (.cells #[.string ⟨#[114, 101, 99, 101, 105, 118, 101, 114]⟩, .string ⟨#[114, 111, 117, 116, 101]⟩] 9) R1.out) gr (by intro e; injection e with e; omega))
  have R2 := Lib.hid (blk_grown (blk_new w1 (.cells #[.string ⟨#[114, 101, 99, 101, 105, 118, 101, 114]⟩, .string ⟨#[114, 111, 117, 116, 101]⟩] 9)) gr (by intro e; injection e with e; omega))
  have B2 := Lib.hid ((B1.out.alloc (by omega) (.cells #[.string ⟨#[114, 101, 99, 101, 105, 118, 101, 114]⟩, .string ⟨#[114, 111, 117, 116, 101]⟩] 9)).grown gr (by rw [size_alloc]; omega) (fun k e => by injection e with e; omega))
  have L2 := blk_lt R2.out
  clear own gr
  go_wp2_with (first | ((with_reducible refine gate_insert (v := .tmp 11) rfl ?_); refine Hid.out ?_))
  refine Lib.hid ?_
  refine wpList_insert_asIs _ rfl _ _ _ 131 rfl 9 67 lawS undMay w.heap.size 2 (putS (putS (.map []) keyR (.slice (some ⟨w.heap.size + 1, 0, none⟩) 2 2)) keyT (.slice (some ⟨w1.heap.size, 0, none⟩) 2 2)) rfl ?o1 (by unfold maxLen; omega) keyP (.slice (some ⟨w2.heap.size, 0, none⟩) 1 1) rfl rfl (keyOf_text Tryz.underlying9 (by decide)) ?_
  case o1 => exact O2.out.alloc _
  intro w3 own gr
  have O3 := Lib.hid own
  have R1 := Lib.hid (blk_grown (blk_alloc (.cells #[.string ⟨#[114, 111, 117, 116, 101]⟩] 9) R1.out) gr (by intro e; injection e with e; omega))
  have R2 := Lib.hid (blk_grown (blk_alloc (.cells #[.string ⟨#[114, 111, 117, 116, 101]⟩] 9) R2.out) gr (by intro e; injection e with e; omega))
  have R3 := Lib.hid (blk_grown (blk_new w2 (.cells #[.string ⟨#[114, 111, 117, 116, 101]⟩] 9)) gr (by intro e; injection e with e; omega))
  have B3 := Lib.hid ((B2.out.alloc (by omega) (.cells #[.string ⟨#[114, 111, 117, 116, 101]⟩] 9)).grown gr (by rw [size_alloc]; omega) (fun k e => by injection e with e; omega))
  have L3 := blk_lt R3.out
  clear own gr
  go_wp2_with (first | ((with_reducible refine gate_insert (v := .tmp 12) rfl ?_); refine Hid.out ?_))
  refine Lib.hid ?_
  refine wpList_insert_asIs _ rfl _ _ _ 131 rfl 9 67 lawS undMay w.heap.size 3 (putS (putS (putS (.map []) keyR (.slice (some ⟨w.heap.size + 1, 0, none⟩) 2 2)) keyT (.slice (some ⟨w1.heap.size, 0, none⟩) 2 2)) keyP (.slice (some ⟨w2.heap.size, 0, none⟩) 1 1)) rfl ?o1 (by unfold maxLen; omega) keyB (.slice (some ⟨w3.heap.size, 0, none⟩) 1 1) rfl rfl (keyOf_text Tryz.underlying9 (by decide)) ?_
  case o1 => exact O3.out.alloc _
  intro w4 own gr
  have O4 := Lib.hid own
  have R1 := Lib.hid (blk_grown (blk_alloc (.cells #[.string ⟨#[114, 101, 112, 101, 97, 116]⟩] 9) R1.out) gr (by intro e; injection e with e; omega))
  have R2 := Lib.hid (blk_grown (blk_alloc (.cells #[.string ⟨#[114, 101, 112, 101, 97, 116]⟩] 9) R2.out) gr (by intro e; injection e with e; omega))
  have R3 := Lib.hid (blk_grown (blk_alloc (.cells #[.string ⟨#[114, 101, 112, 101, 97, 116]⟩] 9) R3.out) gr (by intro e; injection e with e; omega))
  have R4 := Lib.hid (blk_grown (blk_new w3 (.cells #[.string ⟨#[114, 101, 112, 101, 97, 116]⟩] 9)) gr (by intro e; injection e with e; omega))
  have B4 := Lib.hid ((B3.out.alloc (by omega) (.cells #[.string ⟨#[114, 101, 112, 101, 97, 116]⟩] 9)).grown gr (by rw [size_alloc]; omega) (fun k e => by injection e with e; omega))
  have L4 := blk_lt R4.out
  clear own gr
  go_wp2_with (first | ((with_reducible refine gate_insert (v := .tmp 16) rfl ?_); refine Hid.out ?_))
  refine Lib.hid ?_
  refine wpList_insert_asIs _ rfl _ _ _ 133 rfl 9 132 lawS undRead w4.heap.size 0 (.map []) rfl ?o1 (by unfold maxLen; omega) keyR (.func (.func 97) #[.pointer (some ⟨g, 0, none⟩)] #[]) rfl rfl (keyOf_text Tryz.underlying9 (by decide)) ?_
  case o1 => exact World.ownsMap_made w4 Tryz.prog 9 asIs
  intro w5 own gr
  have O5 := Lib.hid own
  have O4 := Lib.hid ((O4.out.alloc (.map #[] 0)).kept gr (by intro e; injection e with e; omega))
  have R1 := Lib.hid (blk_grown (blk_alloc (.map #[] 0) R1.out) gr (by intro e; injection e with e; omega))
  have R2 := Lib.hid (blk_grown (blk_alloc (.map #[] 0) R2.out) gr (by intro e; injection e with e; omega))
  have R3 := Lib.hid (blk_grown (blk_alloc (.map #[] 0) R3.out) gr (by intro e; injection e with e; omega))
  have R4 := Lib.hid (blk_grown (blk_alloc (.map #[] 0) R4.out) gr (by intro e; injection e with e; omega))
  have B5 := Lib.hid ((B4.out.alloc (by omega) (.map #[] 0)).grown gr (by rw [size_alloc]; omega) (fun k e => by injection e with e; omega))
  have L5 := own.lt
  clear own gr
  go_wp2_with (first | ((with_reducible refine gate_insert (v := .tmp 18) rfl ?_); refine Hid.out ?_))
  refine Lib.hid ?_
  refine wpList_insert_asIs _ rfl _ _ _ 133 rfl 9 132 lawS undRead w4.heap.size 1 (putS (.map []) keyR (.func (.func 97) #[.pointer (some ⟨g, 0, none⟩)] #[])) rfl ?o1 (by unfold maxLen; omega) keyT (.func (.func 98) #[.pointer (some ⟨g, 0, none⟩)] #[]) rfl rfl (keyOf_text Tryz.underlying9 (by decide)) ?_
  case o1 => exact O5.out
  intro w6 own gr
  have O6 := Lib.hid own
  have O4 := Lib.hid (O4.out.kept gr (by intro e; injection e with e; omega))
  have R1 := Lib.hid (blk_grown R1.out gr (by intro e; injection e with e; omega))
  have R2 := Lib.hid (blk_grown R2.out gr (by intro e; injection e with e; omega))
  have R3 := Lib.hid (blk_grown R3.out gr (by intro e; injection e with e; omega))
  have R4 := Lib.hid (blk_grown R4.out gr (by intro e; injection e with e; omega))
  have B6 := Lib.hid (B5.out.grown gr (by omega) (fun k e => by injection e with e; omega))
  have L6 := own.lt
  clear own gr
  go_wp2_with (first | ((with_reducible refine gate_insert (v := .tmp 20) rfl ?_); refine Hid.out ?_))
  refine Lib.hid ?_
  refine wpList_insert_asIs _ rfl _ _ _ 133 rfl 9 132 lawS undRead w4.heap.size 2 (putS (putS (.map []) keyR (.func (.func 97) #[.pointer (some ⟨g, 0, none⟩)] #[])) keyT (.func (.func 98) #[.pointer (some ⟨g, 0, none⟩)] #[])) rfl ?o1 (by unfold maxLen; omega) keyP (.func (.func 99) #[.pointer (some ⟨g, 0, none⟩)] #[]) rfl rfl (keyOf_text Tryz.underlying9 (by decide)) ?_
  case o1 => exact O6.out
  intro w7 own gr
  have O7 := Lib.hid own
  have O4 := Lib.hid (O4.out.kept gr (by intro e; injection e with e; omega))
  have R1 := Lib.hid (blk_grown R1.out gr (by intro e; injection e with e; omega))
  have R2 := Lib.hid (blk_grown R2.out gr (by intro e; injection e with e; omega))
  have R3 := Lib.hid (blk_grown R3.out gr (by intro e; injection e with e; omega))
  have R4 := Lib.hid (blk_grown R4.out gr (by intro e; injection e with e; omega))
  have B7 := Lib.hid (B6.out.grown gr (by omega) (fun k e => by injection e with e; omega))
  have L7 := own.lt
  clear own gr
  go_wp2_with (first | ((with_reducible refine gate_insert (v := .tmp 22) rfl ?_); refine Hid.out ?_))
  refine Lib.hid ?_
  refine wpList_insert_asIs _ rfl _ _ _ 133 rfl 9 132 lawS undRead w4.heap.size 3 (putS (putS (putS (.map []) keyR (.func (.func 97) #[.pointer (some ⟨g, 0, none⟩)] #[])) keyT (.func (.func 98) #[.pointer (some ⟨g, 0, none⟩)] #[])) keyP (.func (.func 99) #[.pointer (some ⟨g, 0, none⟩)] #[])) rfl ?o1 (by unfold maxLen; omega) keyB (.func (.func 100) #[.pointer (some ⟨g, 0, none⟩)] #[]) rfl rfl (keyOf_text Tryz.underlying9 (by decide)) ?_
  case o1 => exact O7.out
  intro w8 own gr
  have O8 := Lib.hid own
  have O4 := Lib.hid (O4.out.kept gr (by intro e; injection e with e; omega))
  have R1 := Lib.hid (blk_grown R1.out gr (by intro e; injection e with e; omega))
  have R2 := Lib.hid (blk_grown R2.out gr (by intro e; injection e with e; omega))
  have R3 := Lib.hid (blk_grown R3.out gr (by intro e; injection e with e; omega))
  have R4 := Lib.hid (blk_grown R4.out gr (by intro e; injection e with e; omega))
  have B8 := Lib.hid (B7.out.grown gr (by omega) (fun k e => by injection e with e; omega))
  have L8 := own.lt
  clear own gr
  have hf : strings_Split.f s ⟨#[32]⟩ = some (wordsT 32 s) := if_pos ⟨by omega, rfl⟩
  have hgM : g < w8.heap.size := Nat.lt_of_lt_of_le hgl B8.out.size
  obtain ⟨ws, hws⟩ : ∃ ws, ws = wordsT 32 s := ⟨_, rfl⟩
  rw [← hws] at hf hres
  obtain ⟨hwz, hwn⟩ := words_in hs
  rw [← hws] at hwz hwn
  have hw1 : 1 ≤ ws.length := by
    rw [hws]
    unfold wordsT
    rw [List.length_map]
    have := splitL_ne 32 s.data.toList
    cases e : splitL 32 s.data.toList with
    | nil => exact absurd e this
    | cons a b => simp
  have HWZ := Lib.hid hwz
  have HSP := Lib.hid (strings_Split.calls s ⟨#[32]⟩ ws w8 (HG.out _ (bel_low (Nat.le_of_lt hgl) B8.out)) hf)
  clear hf hws hwz
  go_wp2_with fail
  refine HSP.out.mono ?_
  rintro e w9 ⟨v0, rfl, hR, hb⟩
  have HRS := Lib.hid hR
  obtain ⟨A0, c0, rfl⟩ := Kd.R_slice hR
  clear hR
  have R9 := HH.out.stay (bel B8.out hb)
  have BB := Lib.hid hb
  have q9 : w9.cell? ⟨g, 4, none⟩ = some wv := blk_cell R9.blk rfl
  have f9 : w9.frozen? ⟨g, 4, none⟩ = false := blk_free R9.blk 4
  have HR9 := Lib.hid R9
  clear hb R9
  go_wp2_with (first | ((with_reducible refine gate_dst (N := 33) rfl ?_); refine Hid.out ?_))
  refine Lib.hid ?_
  refine name_worldL (fun W hW => ?_)
  have hW9 : ∀ k, k < w9.heap.size → k ≠ g → W.heap[k]? = w9.heap[k]? := fun k hk hn => by rw [hW]; exact Below.heap_setCell w9 ⟨g, 4, none⟩ _ k hn
  have hWW : ∀ k, k < w8.heap.size → k ≠ g → W.heap[k]? = w8.heap[k]? := fun k hk hn => (hW9 k (Nat.lt_of_lt_of_le hk BB.out.size) hn).trans (BB.out.block k hk)
  have RW := Lib.hid (show RdA W g rv tv (.slice A0 ws.length c0) c ah from by rw [hW]; exact HR9.out.put 4 _ rfl rfl rfl rfl rfl)
  have BW := Lib.hid (show Below g w W from by rw [hW]; exact (bel_low (Nat.le_of_lt hgl) (bel B8.out BB.out)).trans (set_low _ _ _ _))
  have KW := Lib.hid (show Kd.R Kd.string 9 W w8.heap.size (fun _ => True) (.slice A0 ws.length c0) ws from by rw [hW]; exact Kd.R_set HRS.out HR9.out.blk (by decide) 4 _)
  have GW := Lib.hid (HG.out _ BW.out)
  have R1W := Lib.hid ((hWW _ (by omega) (by omega)).trans R1.out)
  have R2W := Lib.hid ((hWW _ (by omega) (by omega)).trans R2.out)
  have R3W := Lib.hid ((hWW _ (by omega) (by omega)).trans R3.out)
  have R4W := Lib.hid ((hWW _ (by omega) (by omega)).trans R4.out)
  have O4W := Lib.hid (owns_move O4.out (hWW w.heap.size (by omega) (by omega)))
  have O8W := Lib.hid (owns_move O8.out (hWW w4.heap.size (by omega) (by omega)))
  clear hW hW9 hWW HRS BB q9 f9 HR9 R1 R2 R3 R4 O1 O2 O3 O4 O5 O6 O7 O8 B1 B2 B3 B4 B5 B6 B7 HSP
  obtain ⟨_, hc0, hC⟩ := Kd.R_reads' KW.out
  have hSW := strs_k hC hc0
  obtain ⟨b, o, hA0, hbl, hcell⟩ := hSW.at hw1
  subst hA0
  obtain ⟨f, hf⟩ : ∃ f, f = ws[0]'hw1 := ⟨_, rfl⟩
  have cf : W.cell? ⟨b, o, none⟩ = some (.string f) := by
    rw [hf]
    exact hcell 0 _ (strs_get ws 0 hw1)
  have hfs : f.size ≤ maxLen := by
    rw [hf]
    exact Nat.le_trans (HWZ.out _ (List.getElem_mem _)) (by unfold maxLen; omega)
  have hfd : ws.getD 0 ⟨#[]⟩ = f := by
    rw [hf, List.getD_eq_getElem?_getD, List.getElem?_eq_getElem hw1]
    rfl
  obtain ⟨mv, hmv⟩ : ∃ mv, mv = mayV (w.heap.size + 1) w1.heap.size w2.heap.size w3.heap.size f.data.toList := ⟨_, rfl⟩
  have hkf : keyOf Tryz.prog 9 (.string f) = some (.string f.data.toList) := keyOf_text Tryz.underlying9 hfs
  have LK1 := Lib.hid fun W' (e : W'.heap[w.heap.size]? = W.heap[w.heap.size]?) => (show (Instr.lookup 131 (.map (some w.heap.size)) (.string f) false).run Tryz.prog W' = .ok mv W' from
    look_asIs (owns_move O4W.out e) lawS undMay (zeroMay W') hkf (by rw [hmv]; exact D4_at (by decide) (by decide) (by decide) (by decide) (by decide) (by decide) _ _ _ _ _ _))
  have LK2 := Lib.hid fun W' (e : W'.heap[w4.heap.size]? = W.heap[w4.heap.size]?) => (show (Instr.lookup 133 (.map (some w4.heap.size)) (.string f) false).run Tryz.prog W' = .ok (readV g f.data.toList) W' from
    look_asIs (owns_move O8W.out e) lawS undRead (zeroRead W') hkf (D4_at (by decide) (by decide) (by decide) (by decide) (by decide) (by decide) _ _ _ _ _ _))
  have HMA := Lib.hid (show Calls Tryz.prog 101 #[mv, .string ah] W.drew fun e w' => e = .returned (.bool (mayB f.data.toList ah.data.toList)) ∧ w' = W.drew from by
    rw [hmv]
    exact may_any _ _ _ _ f.data.toList ah W.drew R1W.out R2W.out R3W.out R4W.out)
  have HRES := Lib.hid hres
  have HFD := Lib.hid hfd
  have HM4 := Lib.hid fun (h : mayB f.data.toList ah.data.toList = true) => may_keys h
  have HNO := Lib.hid fun (h : mayB f.data.toList ah.data.toList = false) => (show res = (c, ah.data.toList, 10) from by
    rw [hres]
    unfold lineS
    rw [hfd]
    exact if_pos h)
  have HYES := Lib.hid fun (h : mayB f.data.toList ah.data.toList = true) => (show res = (if f.data.toList = rcvT then ({ c with rs := (rcvS c.rs ws).1 }, rcvT, (rcvS c.rs ws).2) else
      if f.data.toList = rteT then ({ c with ts := (rteS c.rs c.ts ws).1 }, rteT, (rteS c.rs c.ts ws).2) else
      if f.data.toList = repT then ({ c with rep := (timeS c.rep ws).1 }, repT, (timeS c.rep ws).2) else ({ c with beat := (timeS c.beat ws).1 }, beatT, (timeS c.beat ws).2)) from by
    rw [hres]
    unfold lineS
    rw [hfd, if_neg (by rw [h]; decide)])
  have HCW := Lib.hid hC
  have HSW := Lib.hid hSW
  have HC0 := Lib.hid hc0
  clear hmv hkf hfs hfd hres hC hSW hc0 hcell hf hs
  go_wp2_with fail
  generalize mayB f.data.toList ah.data.toList = mb at *
  refine start_ (n := 9) (S := LnS g w.heap.size ah f mv) (ds := []) #[false, false, false, false, false, false, false, false, false] (by kernel_rfl) rfl rfl (⟨blk_cell RW.out.blk rfl, LK1.out W.drew rfl⟩) (fun hHeld => ?_)
  refine pure_ (i := 0) (N := some 35) (v := ?_) (a' := ?_) #[true, false, false, false, false, false, false, false, false] rfl rfl (by kernel_rfl) (fun _ _ _ h => h) (Or.inl ⟨by rfl, ?_⟩) ?_ ?_
  rotate_left
  · intro w'
    go_simp
    with_reducible rfl
  rotate_left
  · simp only [Act.put, List.setIfInBounds_toArray, List.set_cons_zero, List.set_cons_succ, i64_w, i32_w]
    rfl
  refine pure_ (i := 1) (N := some 36) (v := ?_) (a' := ?_) #[true, true, false, false, false, false, false, false, false] rfl rfl (by kernel_rfl) (fun _ _ _ h => h) (Or.inl ⟨by rfl, ?_⟩) ?_ ?_
  rotate_left
  · intro w'
    go_simp
    with_reducible rfl
  rotate_left
  · simp only [Act.put, List.setIfInBounds_toArray, List.set_cons_zero, List.set_cons_succ, i64_w, i32_w]
    rfl
  refine take_ (i := 2) (N := some 37) (v := ?_) (a' := ?_) #[true, true, true, false, false, false, false, false, false] rfl rfl (by kernel_rfl) (fun _ _ _ h => h) (Or.inl ⟨by rfl, ?_⟩) hHeld ?_ ?_
  rotate_left
  · rintro w' ⟨e1, e2⟩
    go_simp
    with_reducible rfl
  rotate_left
  · simp only [Act.put, List.setIfInBounds_toArray, List.set_cons_zero, List.set_cons_succ, i64_w, i32_w]
    rfl
  refine pure_ (i := 3) (N := some 38) (v := ?_) (a' := ?_) #[true, true, true, true, false, false, false, false, false] rfl rfl (by kernel_rfl) (fun _ _ _ h => h) (Or.inl ⟨by rfl, ?_⟩) ?_ ?_
  rotate_left
  · intro w'
    go_simp
    with_reducible rfl
  rotate_left
  · simp only [Act.put, List.setIfInBounds_toArray, List.set_cons_zero, List.set_cons_succ, i64_w, i32_w]
    rfl
  refine pure_ (i := 4) (N := some 39) (v := ?_) (a' := ?_) #[true, true, true, true, true, false, false, false, false] rfl rfl (by kernel_rfl) (fun _ _ _ h => h) (Or.inl ⟨by rfl, ?_⟩) ?_ ?_
  rotate_left
  · intro w'
    go_simp
    with_reducible rfl
  rotate_left
  · simp only [Act.put, List.setIfInBounds_toArray, List.set_cons_zero, List.set_cons_succ, i64_w, i32_w]
    rfl
  refine pure_ (i := 5) (N := some 40) (v := ?_) (a' := ?_) #[true, true, true, true, true, true, false, false, false] rfl rfl (by kernel_rfl) (fun _ _ _ h => h) (Or.inl ⟨by rfl, ?_⟩) ?_ ?_
  rotate_left
  · intro w'
    go_simp
    with_reducible rfl
  rotate_left
  · simp only [Act.put, List.setIfInBounds_toArray, List.set_cons_zero, List.set_cons_succ, i64_w, i32_w]
    rfl
  refine take_ (i := 6) (N := some 41) (v := ?_) (a' := ?_) #[true, true, true, true, true, true, true, false, false] rfl rfl (by kernel_rfl) (fun _ _ _ h => h) (Or.inl ⟨by rfl, ?_⟩) hHeld ?_ ?_
  rotate_left
  · rintro w' ⟨e1, e2⟩
    go_simp
    with_reducible rfl
  rotate_left
  · simp only [Act.put, List.setIfInBounds_toArray, List.set_cons_zero, List.set_cons_succ, i64_w, i32_w]
    rfl
  refine one_ (i := 7) (N := some 42) #[true, true, true, true, true, true, true, true, false] rfl rfl (by kernel_rfl) (by decide) (fun K hK => ?_)
  refine goes_ Tryz.func101 (by kernel_rfl) rfl #[mv, .string ah] (by rfl) rfl rfl (by simp only [List.map_toArray, List.map_cons, List.map_nil]; rfl) ?_
  with_reducible refine HMA.out.mono ?_
  rintro e w' ⟨rfl, rfl⟩
  refine ⟨_, rfl, ?_⟩
  refine hK.out _ _ ⟨blk_cell RW.out.blk rfl, LK1.out W.drew rfl⟩ (fun hHeld => ?_)
  clear hK K
  refine norm_ (a' := ?_) ?_ ?_
  rotate_left
  · show Act.put _ (some 42) _ = _
    simp only [Act.put, List.setIfInBounds_toArray, List.set_cons_zero, List.set_cons_succ, i64_w, i32_w]
    rfl
  refine pure_ (i := 8) (N := some 43) (v := ?_) (a' := ?_) #[true, true, true, true, true, true, true, true, true] rfl rfl (by kernel_rfl) (fun _ _ _ h => h) (Or.inl ⟨by rfl, ?_⟩) ?_ ?_
  rotate_left
  · intro w'
    go_simp
    with_reducible rfl
  rotate_left
  · simp only [Act.put, List.setIfInBounds_toArray, List.set_cons_zero, List.set_cons_succ, i64_w, i32_w]
    rfl
  refine done_ (by kernel_rfl) ?_
  have RD := Lib.hid (RW.out.stay (Below.refl _ _).drew)
  have hDW : ∀ k : Nat, W.drew.heap[k]? = W.heap[k]? := fun _ => rfl
  have hB5 : Below g w W.drew := BW.out.drew
  have HB5 := Lib.hid hB5
  have HGD := Lib.hid (HG.out _ hB5)
  have KD := Lib.hid (Kd.R_below KW.out (Below.refl _ _).drew)
  clear hB5
  generalize W.drew = W6 at *
  have q5 : W6.cell? ⟨g, 5, none⟩ = some (.string ah) := blk_cell RD.out.blk rfl
  have f5 : W6.frozen? ⟨g, 5, none⟩ = false := blk_free RD.out.blk 5
  cases mb
  · have HR0 := Lib.hid (HNO.out rfl)
    clear hDW
    go_wp2_with fail
    go_ret
    rw [HR0.out]
    exact ⟨rfl, HB5.out, rv, tv, _, ah, rfl, RD.out⟩
  have hM4 := HM4.out rfl
  have l2 := LK2.out (W6.setCell ⟨g, 5, none⟩ (.string f)) ((Below.heap_setCell W6 ⟨g, 5, none⟩ _ w4.heap.size (show w4.heap.size ≠ g by omega)).trans (hDW _))
  have RS := Lib.hid (show RdA (W6.setCell ⟨g, 5, none⟩ (.string f)) g rv tv (.slice (some ⟨b, o, none⟩) ws.length c0) c f from RD.out.put 5 _ rfl rfl rfl rfl rfl)
  have BS := Lib.hid (show Below g w (W6.setCell ⟨g, 5, none⟩ (.string f)) from HB5.out.trans (set_low _ _ _ _))
  have GS := Lib.hid (HG.out _ BS.out)
  have KS := Lib.hid (show Kd.R Kd.string 9 (W6.setCell ⟨g, 5, none⟩ (.string f)) w8.heap.size (fun _ => True) (.slice (some ⟨b, o, none⟩) ws.length c0) ws from Kd.R_set KD.out RD.out.blk (by decide) 5 _)
  obtain ⟨_, hc0, hC⟩ := Kd.R_reads' KS.out
  have HCS := Lib.hid hC
  have HSS := Lib.hid (strs_k hC hc0)
  have HC0' := Lib.hid hc0
  clear hc0 hC HNO HM4 hDW
  have hY := HYES.out rfl
  have hwn' : ws.length ≤ 200000 := by omega
  clear hwn
  rcases hM4 with rfl | rfl | rfl | rfl
  · have hrv : readV g keyR.data.toList = .func (.func 97) #[.pointer (some ⟨g, 0, none⟩)] #[] := rfl
    rw [hrv] at l2
    rw [if_pos (show keyR.data.toList = rcvT from rfl)] at hY
    have HY := Lib.hid hY
    have HC := Lib.hid (receiver_any g rv tv _ c keyR ws _ RS.out HSS.out GS.out HWZ.out (by omega))
    clear hrv hY
    go_wp2_with fail
    refine HC.out.mono ?_
    rintro e w' ⟨rfl, hbel, rv', hR'⟩
    have HB := Lib.hid hbel
    have HR' := Lib.hid hR'
    clear hbel hR'
    go_wp2_with fail
    go_ret
    rw [HY.out]
    exact ⟨rfl, BS.out.trans HB.out, rv', tv, _, keyR, rfl, HR'.out⟩
  · have hrv : readV g keyT.data.toList = .func (.func 98) #[.pointer (some ⟨g, 0, none⟩)] #[] := rfl
    rw [hrv] at l2
    rw [if_neg (show ¬ keyT.data.toList = rcvT by decide), if_pos (show keyT.data.toList = rteT from rfl)] at hY
    have HY := Lib.hid hY
    have HC := Lib.hid (route_any g rv tv c keyT ws _ _ _ RS.out HCS.out HC0'.out HWZ.out ⟨hw1, by omega⟩)
    clear hrv hY
    go_wp2_with fail
    refine HC.out.mono ?_
    rintro e w' ⟨rfl, hbel, tv', hR'⟩
    have HB := Lib.hid hbel
    have HR' := Lib.hid hR'
    clear hbel hR'
    go_wp2_with fail
    go_ret
    rw [HY.out]
    exact ⟨rfl, BS.out.trans HB.out, rv, tv', _, keyT, rfl, HR'.out⟩
  · have hrv : readV g keyP.data.toList = .func (.func 99) #[.pointer (some ⟨g, 0, none⟩)] #[] := rfl
    rw [hrv] at l2
    rw [if_neg (show ¬ keyP.data.toList = rcvT by decide), if_neg (show ¬ keyP.data.toList = rteT by decide), if_pos (show keyP.data.toList = repT from rfl)] at hY
    have HY := Lib.hid hY
    have HC := Lib.hid (repeat_any g rv tv _ c keyP ws _ RS.out HSS.out GS.out HWZ.out)
    clear hrv hY
    go_wp2_with fail
    refine HC.out.mono ?_
    rintro e w' ⟨rfl, hbel, hR'⟩
    have HB := Lib.hid hbel
    have HR' := Lib.hid hR'
    clear hbel hR'
    go_wp2_with fail
    go_ret
    rw [HY.out]
    exact ⟨rfl, BS.out.trans HB.out, rv, tv, _, keyP, rfl, HR'.out⟩
  · have hrv : readV g keyB.data.toList = .func (.func 100) #[.pointer (some ⟨g, 0, none⟩)] #[] := rfl
    rw [hrv] at l2
    rw [if_neg (show ¬ keyB.data.toList = rcvT by decide), if_neg (show ¬ keyB.data.toList = rteT by decide), if_neg (show ¬ keyB.data.toList = repT by decide)] at hY
    have HY := Lib.hid hY
    have HC := Lib.hid (beat_any g rv tv _ c keyB ws _ RS.out HSS.out GS.out HWZ.out)
    clear hrv hY
    go_wp2_with fail
    refine HC.out.mono ?_
    rintro e w' ⟨rfl, hbel, hR'⟩
    have HB := Lib.hid hbel
    have HR' := Lib.hid hR'
    clear hbel hR'
    go_wp2_with fail
    go_ret
    rw [HY.out]
    exact ⟨rfl, BS.out.trans HB.out, rv, tv, _, keyB, rfl, HR'.out⟩
end Go.Proofs.YtjfknmlchdifjaaGreatDoor
namespace Go.Proofs.YtjfknmlchdifjaaGreatDoor
open Go.RowKit
theorem linesS_bad : ∀ {L : List ByteArray} {c : Cfg} {a : List UInt8} {i : Int} (M : List ByteArray), (linesS c a i L).2.2 ≠ 0 →
    (linesS c a i L).1 = Cfg.zero ∧ i ≤ (linesS c a i L).2.1 ∧ ((linesS c a i L).2.1 = i + L.length ∨ (linesS c a i L).2.1 < i + L.length ∧ linesS c a i (L ++ M) = linesS c a i L) := by
  intro L
  induction L with
  | nil =>
    intro c a i M h
    unfold linesS at h ⊢
    by_cases ha : a = beatT
    · rw [if_pos ha] at h
      exact absurd rfl h
    · rw [if_neg ha]
      refine ⟨rfl, Int.le_refl _, .inl ?_⟩
      show i = i + ((0 : Nat) : Int)
      omega
  | cons s r ih =>
    intro c a i M h
    rw [List.cons_append]
    unfold linesS at h ⊢
    generalize lineS c a ((splitL 32 s.data.toList).map tx) = x at h ⊢
    by_cases hx : x.2.2 = 0
    · rw [if_pos hx] at h
      rw [if_pos hx, if_pos hx]
      obtain ⟨h1, h2, h3⟩ := ih M h
      refine ⟨h1, by omega, ?_⟩
      rw [List.length_cons]
      rcases h3 with h3 | ⟨h3, h4⟩
      · exact .inl (by omega)
      · exact .inr ⟨by omega, h4⟩
    · rw [if_neg hx, if_neg hx]
      exact ⟨rfl, Int.le_refl _, .inr ⟨by rw [List.length_cons]; show i < _; omega, rfl⟩⟩
theorem linesT_nl (x : List UInt8) : linesT (x ++ [10]) = (splitL 10 x).map tx := by
  unfold linesT
  rw [if_neg (by simp), if_pos (by simp), List.dropLast_concat]
end Go.Proofs.YtjfknmlchdifjaaGreatDoor
namespace Go.Proofs.YtjfknmlchdifjaaGreatDoor
open Go.RowKit Go.Proofs.YtjfknmlchdifjaaGreatDoorQ Go.Proofs.YtjfknmlchdifjaaGreatDoorQ.P Go.Proofs.YtjfknmlchdifjaaGreatDoorW.PrintWords Go.Proofs.YtjfknmlchdifjaaGreatDoorW.PrintLast Go.Proofs.YtjfknmlchdifjaaGreatDoorW.PrintMore
attribute [local go_sem high] ext_size ext_cell ext_frozen alloc_cell alloc_frozen
attribute [local go_sem] lt_more lt_suc drew_size drew_cell
theorem trim_nl (l : List UInt8) : Lib.trimSuffix l [10] = if l.getLast? = some 10 then l.dropLast else l := by
  unfold Lib.trimSuffix Lib.hasSuffix
  by_cases h : l.getLast? = some 10
  · rw [if_pos h, if_pos]
    · rw [List.dropLast_eq_take]
      rfl
    · rw [List.isSuffixOf_iff_suffix]
      obtain ⟨ys, rfl⟩ := List.getLast?_eq_some_iff.1 h
      exact ⟨ys, rfl⟩
  · rw [if_neg h, if_neg]
    intro e
    rw [List.isSuffixOf_iff_suffix] at e
    obtain ⟨ys, rfl⟩ := e
    exact h (by simp)
theorem trim_len (l : List UInt8) : (Lib.trimSuffix l [10]).length ≤ l.length := by
  rw [trim_nl]
  split
  · rw [List.length_dropLast]; omega
  · exact Nat.le_refl _
theorem lines_of {l : List UInt8} (h : l ≠ []) : linesT l = wordsT 10 ⟨(Lib.trimSuffix l [10]).toArray⟩ := by
  unfold linesT wordsT
  rw [if_neg h, ← trim_nl]
theorem words_inC (c : UInt8) {s : ByteArray} {n : Nat} (h : s.size ≤ n) : (∀ w ∈ wordsT c s, w.size ≤ n) ∧ (wordsT c s).length ≤ n + 1 := by
  have hl := len_data s
  refine ⟨fun w hw => ?_, ?_⟩
  · obtain ⟨x, hx, rfl⟩ := List.mem_map.1 hw
    have := (splitL_mem c _ x hx).2
    have e := len_data (tx x)
    rw [tx_data] at e
    omega
  · have := splitL_len c s.data.toList
    unfold wordsT
    rw [List.length_map]
    omega
def PL (w1 : World) (L : List ByteArray) (k : Nat) (wr : World) : Prop :=
  ∃ rv tv wv c ah, RdA wr w1.heap.size rv tv wv c ah ∧ Below w1.heap.size w1 wr ∧ linesS Cfg.zero [] 0 L = linesS c ah.data.toList k (L.drop k)
set_option maxHeartbeats 8000000 in
set_option maxRecDepth 100000 in
theorem parse_any (a0 : ByteArray) (w : World) (hG : GOK w) (h1 : a0.size ≤ 100000) :
    Calls Tryz.prog 25 #[.string a0] w fun e w' => ∃ v0_ v1_ : Value, e = .returned (.tuple #[.agg #[v0_, v1_, .int .i64 (cfgP a0.data.toList).1.rep, .int .i64 (cfgP a0.data.toList).1.beat], .int .i64 (cfgP a0.data.toList).2.1, .int .i64 (cfgP a0.data.toList).2.2]) ∧ Kd.R k90 90 w' w.heap.size (fun _ => True) v0_ ((cfgP a0.data.toList).1.rs.map ofRcv) ∧ Kd.S k93 93 w' w.heap.size (fun _ => True) v1_ ((cfgP a0.data.toList).1.ts.map ofRte) ∧ Below w.heap.size w w' := by
  obtain ⟨tb, htb⟩ : ∃ tb : ByteArray, tb = ⟨(Lib.trimSuffix a0.data.toList [10]).toArray⟩ := ⟨_, rfl⟩
  have HT := Lib.hid fun W => (show Calls Tryz.prog 54 #[.string a0, .string ⟨#[10]⟩] W fun e w' => e = .returned (.string tb) ∧ w' = W from by
    rw [htb]
    exact Tryz.strings_TrimSuffix a0 ⟨#[10]⟩ W (by omega))
  have HG := Lib.hid hG
  obtain ⟨res, hres⟩ : ∃ res, res = cfgP a0.data.toList := ⟨_, rfl⟩
  rw [← hres]
  clear hG
  by_cases he : a0 = ⟨#[]⟩
  · have hz : res = (Cfg.zero, 0, 12) := by rw [hres, he]; rfl
    have HZ := Lib.hid hz
    clear hres htb hz
    subst he
    go_enter Tryz.func25, Tryz.ntmps25
    go_wp2_with fail
    refine (HT.out _).mono ?_
    rintro e w' ⟨rfl, rfl⟩
    go_wp2_with fail
    go_loopw [21] (fun i wr => i = .int .i64 0 ∧ wr = (w.alloc (.cells #[Value.slice none 0 0, Value.slice none 0 0, Value.int .i64 0, Value.int .i64 0] 57)).alloc (.cells #[.slice none 0 0, .slice none 0 0, .int .i64 0, .int .i64 0, .slice none 0 0, .string ⟨#[]⟩] 84)) (fun i _ => 0)
    case atStart => exact ⟨rfl, rfl⟩
    case round =>
      obtain ⟨rfl, rfl⟩ := hrel
      go_wp2_with fail
      refine bodyPost_ret (results_ctt rfl _ _ w.heap.size 57 #[.slice none 0 0, .slice none 0 0, .int .i64 0, .int .i64 0] (0, 0) _ rfl (blk_alloc _ (blk_new w _)) Tryz.underlying57 rfl (by kernel_rfl)) rfl ?_
      rw [HZ.out]
      exact ⟨.slice none 0 0, .slice none 0 0, rfl, Kd.R_nil _ _ _ _ _, Kd.S_nil _ _ _ _ _, (by repeat (first | exact Below.refl _ _ | apply bal | apply bext | apply bdr | apply bdrN | (refine bst ?_ _ (by simp only [ext_size, size_alloc, size_set]; omega))))⟩
  · obtain ⟨L, hL⟩ : ∃ L, L = wordsT 10 tb := ⟨_, rfl⟩
    have hne : a0.data.toList ≠ [] := fun e => he (tx_inj e)
    have htz : tb.size ≤ 100000 := by
      have e1 := len_data tb
      have e2 := len_data a0
      have e3 : tb.data.toList = Lib.trimSuffix a0.data.toList [10] := by rw [htb]
      have := trim_len a0.data.toList
      rw [e3] at e1
      omega
    have hf : strings_Split.f tb ⟨#[10]⟩ = some L := by
      rw [hL]
      exact if_pos ⟨by omega, rfl⟩
    have HLZ := Lib.hid (show (∀ x ∈ L, x.size ≤ 100000) ∧ L.length ≤ 100001 from by rw [hL]; exact words_inC 10 htz)
    have HRE := Lib.hid (show res = linesS Cfg.zero [] 0 L from by rw [hres, hL, htb]; unfold cfgP; rw [lines_of hne])
    have hem : a0.toList.isEmpty = false := by
      rw [ByteArray.toList_eq]
      cases e : a0.data.toList with
      | nil => exact absurd e hne
      | cons a b => rfl
    clear hres htb hL he hne htz
    go_enter Tryz.func25, Tryz.ntmps25
    go_wp2_with fail
    refine (HT.out _).mono ?_
    rintro e w' ⟨rfl, rfl⟩
    go_wp2_with fail
    refine (strings_Split.calls tb ⟨#[10]⟩ L _ (gok_below HG.out (by repeat (first | exact Below.refl _ _ | apply bal | apply bext | apply bdr | apply bdrN | (refine bst ?_ _ (by simp only [ext_size, size_alloc, size_set]; omega))))) hf).mono ?_
    rintro e w1 ⟨v0, rfl, hR, hb⟩
    obtain ⟨A0, c0, rfl⟩ := Kd.R_slice hR
    obtain ⟨_, hc0, hC⟩ := Kd.R_reads' hR
    have HS := Lib.hid (strs_k hC hc0)
    have hsz : (w.alloc (.cells #[Value.slice none 0 0, Value.slice none 0 0, Value.int .i64 0, Value.int .i64 0] 57)).heap.size = w.heap.size + 1 := size_alloc _ _
    have B1 := Lib.hid (show Below w.heap.size w w1 from bel (by repeat (first | exact Below.refl _ _ | apply bal | apply bext | apply bdr | apply bdrN | (refine bst ?_ _ (by simp only [ext_size, size_alloc, size_set]; omega)))) hb)
    have RB := Lib.hid (blk_call hb (blk_new w (.cells #[Value.slice none 0 0, Value.slice none 0 0, Value.int .i64 0, Value.int .i64 0] 57)))
    have L1 := blk_lt RB.out
    have GB := Lib.hid (gok_below HG.out B1.out)
    have hLn := HLZ.out.2
    clear hR hC hc0 hb hsz
    go_wp2_with fail
    go_loopw [21] (fun i wr => ∃ k : Nat, k ≤ L.length ∧ i = .int .i64 k ∧ PL w1 L k wr) (fun i _ => L.length - (intOf i).toNat)
    case atStart =>
      refine ⟨0, Nat.zero_le _, rfl, .slice none 0 0, .slice none 0 0, .slice none 0 0, Cfg.zero, ⟨#[]⟩, ⟨?_, Kd.R_nil _ _ _ _ _, Kd.S_nil _ _ _ _ _, Nat.zero_le _, Nat.zero_le _⟩, ?_, rfl⟩
      · exact blk_new w1 (.cells #[.slice none 0 0, .slice none 0 0, .int .i64 0, .int .i64 0, .slice none 0 0, .string ⟨#[]⟩] 84)
      · exact (Below.refl _ _).alloc (Nat.le_refl _) _
    case round =>
      obtain ⟨k, hk, rfl, rv, tv, wv, c, ah, hRd, hBw, hln⟩ := hrel
      have RD := Lib.hid hRd
      have HB := Lib.hid hBw
      have hlg := hRd.lt
      obtain ⟨ra, rc, rfl⟩ : ∃ a b, rv = .slice a c.rs.length b := by
        obtain ⟨a, b, e⟩ := Kd.R_slice hRd.rs
        rw [List.length_map] at e
        exact ⟨a, b, e⟩
      obtain ⟨ta, tc, rfl⟩ : ∃ a b, tv = .slice a c.ts.length b := by
        obtain ⟨a, b, e⟩ := Kd.S_slice hRd.ts
        rw [List.length_map] at e
        exact ⟨a, b, e⟩
      have HLN := Lib.hid hln
      have BB := Lib.hid (show Below w.heap.size w wr from B1.out.trans (bel_to (Nat.le_of_lt (Nat.lt_of_lt_of_le (Nat.lt_succ_self _) L1)) hBw))
      have RW := Lib.hid (blk_below hBw L1 RB.out)
      clear hRd hBw hln
      by_cases hlt : k < L.length
      · obtain ⟨b, o, hA0, hbl, hcell⟩ := HS.out.at (by omega)
        subst hA0
        obtain ⟨x, hx⟩ : ∃ x, x = L[k] := ⟨_, rfl⟩
        have ck : wr.cell? ⟨b, o + k, none⟩ = some (.string x) := by
          rw [hx]
          exact (HB.out.cell (p := ⟨b, o + k, none⟩) hbl).trans (hcell k _ (strs_get L k hlt))
        have hxs : x.size ≤ 100000 := by
          rw [hx]
          exact HLZ.out.1 _ (List.getElem_mem _)
        have hdr : L.drop k = x :: L.drop (k + 1) := by
          rw [hx]
          exact List.drop_eq_getElem_cons hlt
        have HX := Lib.hid (show linesS Cfg.zero [] 0 L = if (lineS c ah.data.toList (wordsT 32 x)).2.2 = 0 then linesS (lineS c ah.data.toList (wordsT 32 x)).1 (lineS c ah.data.toList (wordsT 32 x)).2.1 (k + 1) (L.drop (k + 1)) else (Cfg.zero, k, (lineS c ah.data.toList (wordsT 32 x)).2.2) from by
          rw [HLN.out, hdr]
          rfl)
        have HC := Lib.hid (line_any w1.heap.size _ _ wv c ah x wr RD.out (fun W hW => gok_below GB.out (HB.out.trans hW)) hxs)
        clear hx hcell hxs hdr
        generalize lineS c ah.data.toList (wordsT 32 x) = y at HX HC
        by_cases hy : y.2.2 = 0
        · rw [hy] at HC
          have HX' := Lib.hid (HX.out.trans (if_pos hy))
          clear HX hy
          go_wp2_with fail
          refine HC.out.mono ?_
          rintro e w' ⟨rfl, hbel, rv', tv', wv', ah', ha, hR'⟩
          have HB' := Lib.hid hbel
          have HR' := Lib.hid hR'
          have HA' := Lib.hid ha
          clear hbel hR' ha
          go_wp2_with fail
          refine ⟨⟨k + 1, by omega, by go_num, rv', tv', wv', y.1, ah', HR'.out, HB.out.trans HB'.out, ?_⟩, by simp [intOf]; omega⟩
          rw [HA'.out]
          exact HX'.out.trans (by push_cast; rfl)
        · have HX' := Lib.hid (HX.out.trans (if_neg hy))
          clear HX
          go_wp2_with fail
          refine HC.out.mono ?_
          rintro e w' ⟨rfl, hbel, rv', tv', wv', ah', ha, hR'⟩
          have RB' := Lib.hid (blk_below hbel L1 RW.out)
          have BB' := Lib.hid (show Below w.heap.size w w' from BB.out.trans (bel_to (by omega) hbel))
          have q0 : w'.cell? ⟨w.heap.size, 0, none⟩ = some (.slice none 0 0) := blk_cell RB'.out rfl
          have q1 : w'.cell? ⟨w.heap.size, 1, none⟩ = some (.slice none 0 0) := blk_cell RB'.out rfl
          have q2 : w'.cell? ⟨w.heap.size, 2, none⟩ = some (.int .i64 0) := blk_cell RB'.out rfl
          have q3 : w'.cell? ⟨w.heap.size, 3, none⟩ = some (.int .i64 0) := blk_cell RB'.out rfl
          have f0 : w'.frozen? ⟨w.heap.size, 0, none⟩ = false := blk_free RB'.out 0
          have f1 : w'.frozen? ⟨w.heap.size, 1, none⟩ = false := blk_free RB'.out 1
          have f2 : w'.frozen? ⟨w.heap.size, 2, none⟩ = false := blk_free RB'.out 2
          have f3 : w'.frozen? ⟨w.heap.size, 3, none⟩ = false := blk_free RB'.out 3
          clear hbel hR' ha
          go_wp2_with fail
          refine bodyPost_ret (results_ctt rfl _ _ w.heap.size 57 #[.slice none 0 0, .slice none 0 0, .int .i64 0, .int .i64 0] (0, 0) _ rfl (blk_put (blk_put (blk_put (blk_put RB'.out 0 _ rfl) 1 _ rfl) 2 _ rfl) 3 _ rfl) Tryz.underlying57 rfl (by kernel_rfl)) rfl ?_
          rw [HRE.out, HX'.out]
          exact ⟨.slice none 0 0, .slice none 0 0, rfl, Kd.R_nil _ _ _ _ _, Kd.S_nil _ _ _ _ _, (((BB'.out.setCell (Nat.le_refl _) _).setCell (Nat.le_refl _) _).setCell (Nat.le_refl _) _).setCell (Nat.le_refl _) _⟩
      · obtain rfl : k = L.length := by omega
        have HX := Lib.hid (show res = if ah.data.toList = beatT then (c, 0, 0) else (Cfg.zero, (L.length : Int), 12) from by
          rw [HRE.out, HLN.out, List.drop_length]
          rfl)
        have q0 : wr.cell? ⟨w.heap.size, 0, none⟩ = some (.slice none 0 0) := blk_cell RW.out rfl
        have q1 : wr.cell? ⟨w.heap.size, 1, none⟩ = some (.slice none 0 0) := blk_cell RW.out rfl
        have q2 : wr.cell? ⟨w.heap.size, 2, none⟩ = some (.int .i64 0) := blk_cell RW.out rfl
        have q3 : wr.cell? ⟨w.heap.size, 3, none⟩ = some (.int .i64 0) := blk_cell RW.out rfl
        have f0 : wr.frozen? ⟨w.heap.size, 0, none⟩ = false := blk_free RW.out 0
        have f1 : wr.frozen? ⟨w.heap.size, 1, none⟩ = false := blk_free RW.out 1
        have f2 : wr.frozen? ⟨w.heap.size, 2, none⟩ = false := blk_free RW.out 2
        have f3 : wr.frozen? ⟨w.heap.size, 3, none⟩ = false := blk_free RW.out 3
        have g5 : wr.cell? ⟨w1.heap.size, 5, none⟩ = some (.string ah) := blk_cell RD.out.blk rfl
        clear hlt
        by_cases hb : ah = ⟨#[98, 101, 97, 116]⟩
        · subst hb
          have HX' := Lib.hid (HX.out.trans (if_pos rfl))
          have g0 : wr.cell? ⟨w1.heap.size, 0, none⟩ = some (.slice ra c.rs.length rc) := blk_cell RD.out.blk rfl
          have g1 : wr.cell? ⟨w1.heap.size, 1, none⟩ = some (.slice ta c.ts.length tc) := blk_cell RD.out.blk rfl
          have g2 : wr.cell? ⟨w1.heap.size, 2, none⟩ = some (.int .i64 c.rep) := blk_cell RD.out.blk rfl
          have g3 : wr.cell? ⟨w1.heap.size, 3, none⟩ = some (.int .i64 c.beat) := blk_cell RD.out.blk rfl
          go_wp2_with fail
          have b0 := blk_put RW.out 0 (.slice ra c.rs.length rc) rfl
          have b1 := blk_put b0 1 (.slice ta c.ts.length tc) rfl
          have b2 := blk_put b1 2 (.int .i64 c.rep) rfl
          have b3 := blk_put b2 3 (.int .i64 c.beat) rfl
          refine bodyPost_ret (results_ctt rfl _ _ w.heap.size 57 #[.slice ra c.rs.length rc, .slice ta c.ts.length tc, .int .i64 c.rep, .int .i64 c.beat] (0, 0) _ rfl b3 Tryz.underlying57 rfl (by kernel_rfl)) rfl ?_
          rw [HX'.out]
          refine ⟨.slice ra c.rs.length rc, .slice ta c.ts.length tc, rfl, ?_, ?_, (((BB.out.setCell (Nat.le_refl _) _).setCell (Nat.le_refl _) _).setCell (Nat.le_refl _) _).setCell (Nat.le_refl _) _⟩
          · exact Kd.R_set (Kd.R_set (Kd.R_set (Kd.R_set (Kd.R_lower RD.out.rs (Nat.le_of_lt L1)) RW.out (by decide) 0 _) b0 (by decide) 1 _) b1 (by decide) 2 _) b2 (by decide) 3 _
          · exact Kd.S_set (Kd.S_set (Kd.S_set (Kd.S_set (Kd.S_lower RD.out.ts (Nat.le_of_lt L1)) RW.out (by decide) 0 _) b0 (by decide) 1 _) b1 (by decide) 2 _) b2 (by decide) 3 _
        · have HX' := Lib.hid (HX.out.trans (if_neg (fun e => hb (tx_inj e))))
          have hbl : (ah.toList == [98, 101, 97, 116]) = false := by
            rw [ByteArray.toList_eq]
            exact beq_eq_false_iff_ne.2 (fun e => hb (tx_inj e))
          go_wp2_with fail
          refine bodyPost_ret (results_ctt rfl _ _ w.heap.size 57 #[.slice none 0 0, .slice none 0 0, .int .i64 0, .int .i64 0] (0, 0) _ rfl (blk_put (blk_put (blk_put (blk_put RW.out 0 _ rfl) 1 _ rfl) 2 _ rfl) 3 _ rfl) Tryz.underlying57 rfl (by kernel_rfl)) rfl ?_
          rw [HX'.out]
          exact ⟨.slice none 0 0, .slice none 0 0, rfl, Kd.R_nil _ _ _ _ _, Kd.S_nil _ _ _ _ _, (((BB.out.setCell (Nat.le_refl _) _).setCell (Nat.le_refl _) _).setCell (Nat.le_refl _) _).setCell (Nat.le_refl _) _⟩
end Go.Proofs.YtjfknmlchdifjaaGreatDoor
namespace Go.Proofs.YtjfknmlchdifjaaGreatDoorQ.P
open Go.RowKit Go.Proofs.YtjfknmlchdifjaaGreatDoorW.PrintWords Go.Proofs.YtjfknmlchdifjaaGreatDoor
def config_Parse.f (a0 : ByteArray) : Option ((List (S90)) × (List (S93)) × Int × Int × Int × Int) :=
  if a0.size ≤ 100000 then some ((cfgP a0.data.toList).1.rs.map ofRcv, (cfgP a0.data.toList).1.ts.map ofRte, (cfgP a0.data.toList).1.rep, (cfgP a0.data.toList).1.beat, (cfgP a0.data.toList).2.1, (cfgP a0.data.toList).2.2) else none
theorem config_Parse.calls (a0 : ByteArray) (r1 : List (S90)) (r2 : List (S93)) (r3 : Int) (r4 : Int) (r5 : Int) (r6 : Int) (w : World) (hG : GOK w) (h : config_Parse.f a0 = some (r1, r2, r3, r4, r5, r6)) :
    Calls Tryz.prog 25 #[.string a0] w fun e w' => ∃ v0_ v1_ : Value, e = .returned (.tuple #[.agg #[v0_, v1_, .int .i64 r3, .int .i64 r4], .int .i64 r5, .int .i64 r6]) ∧ Kd.R k90 90 w' w.heap.size (fun _ => True) v0_ r1 ∧ Kd.S k93 93 w' w.heap.size (fun _ => True) v1_ r2 ∧ Below w.heap.size w w' := by
  obtain ⟨h1, h2⟩ := if_someP h
  simp only [Prod.mk.injEq] at h2
  obtain ⟨rfl, rfl, rfl, rfl, rfl, rfl⟩ := h2
  exact parse_any a0 w hG h1
end Go.Proofs.YtjfknmlchdifjaaGreatDoorQ.P
namespace Go.Proofs.YtjfknmlchdifjaaGreatDoorQ.P
open Go.RowKit Go.Proofs.YtjfknmlchdifjaaGreatDoorW.PrintWords Go.Proofs.YtjfknmlchdifjaaGreatDoorW.PrintLast Go.Proofs.YtjfknmlchdifjaaGreatDoorW.PrintMore
attribute [local go_sem] max2_int min2_int max_two min_two max_three min_three max_four min_four
def foghornlaw13_alive.f  : Option (Bool) := (config_Parse.f (⟨#[114, 101, 99, 101, 105, 118, 101, 114, 32, 97, 32, 49, 32, 56, 32, 48, 32, 51, 32, 53, 32, 49, 48, 32, 50, 32, 52, 10, 114, 111, 117, 116, 101, 32, 97, 32, 105, 102, 10, 114, 101, 112, 101, 97, 116, 32, 54, 48, 10, 98, 101, 97, 116, 32, 51, 48, 10]⟩ : ByteArray)).bind fun bt101 => (if bt101.2.2.2.2.2 = 0 then (if bt101.2.2.2.2.1 = 0 then (if (bt101.1.length : Int) = 1 then (if 0 < (bt101.1.length : Int) then (if ((rd_T90 bt101.1 0).f1.f1) = 8 then (if ((rd_T90 bt101.1 0).f6) = 4 then (some (bt101.2.2.2.1 == 30)) else (some false)) else (some false)) else (none)) else (some false)) else (some false)) else (some false))
set_option maxHeartbeats 8000000 in
set_option maxRecDepth 100000 in
theorem foghornlaw13_alive.callsT  (r : Bool) (w : World) (hG : GOK w) (h : foghornlaw13_alive.f  = some r) (hrt_ : r = true) :
  Calls Tryz.prog 27 #[] w fun e w' => e = .returned (.bool r) ∧ Below w.heap.size w w' := by
 have hu57 := Tryz.underlying57
 have HG := aA hG
 clear hG
 have HB := aA (Below.refl w.heap.size w)
 have H : ((config_Parse.f (⟨#[114, 101, 99, 101, 105, 118, 101, 114, 32, 97, 32, 49, 32, 56, 32, 48, 32, 51, 32, 53, 32, 49, 48, 32, 50, 32, 52, 10, 114, 111, 117, 116, 101, 32, 97, 32, 105, 102, 10, 114, 101, 112, 101, 97, 116, 32, 54, 48, 10, 98, 101, 97, 116, 32, 51, 48, 10]⟩ : ByteArray)).bind fun bt101 => (if bt101.2.2.2.2.2 = 0 then (if bt101.2.2.2.2.1 = 0 then (if (bt101.1.length : Int) = 1 then (if 0 < (bt101.1.length : Int) then (if ((rd_T90 bt101.1 0).f1.f1) = 8 then (if ((rd_T90 bt101.1 0).f6) = 4 then (some (bt101.2.2.2.1 == 30)) else (some false)) else (some false)) else (none)) else (some false)) else (some false)) else (some false))) = some r := h
 clear h
 replace H := Option.bind_eq_some_iff.mp H
 obtain ⟨⟨t101, t104, t107, t108, t109, t110⟩, A10, H⟩ := H
 have A1 := aA A10
 clear A10
 by_cases c2 : t110 = 0
 ·rw [if_pos c2] at H
  have c2b0 : (t110 == 0) = true := beq_iff_eq.mpr c2
  have c2b1 : (t110 != 0) = false := bne_eq_false_iff_eq.mpr c2
  clear c2
  by_cases c3 : t109 = 0
  ·rw [if_pos c3] at H
   have c3b0 : (t109 == 0) = true := beq_iff_eq.mpr c3
   have c3b1 : (t109 != 0) = false := bne_eq_false_iff_eq.mpr c3
   clear c3
   by_cases c4 : (t101.length : Int) = 1
   ·rw [if_pos c4] at H
    have c4b0 : ((t101.length : Int) == 1) = true := beq_iff_eq.mpr c4
    have c4b1 : ((t101.length : Int) != 1) = false := bne_eq_false_iff_eq.mpr c4
    clear c4
    by_cases c5 : 0 < (t101.length : Int)
    ·rw [if_pos c5] at H
     have c5b0 : decide (0 < (t101.length : Int)) = true := decide_eq_true c5
     have c5b1 : decide (0 < t101.length) = true := decide_eq_true (by omega)
     clear c5
     by_cases c6 : ((rd_T90 t101 0).f1.f1) = 8
     ·rw [if_pos c6] at H
      have c6b0 : (((rd_T90 t101 0).f1.f1) == 8) = true := beq_iff_eq.mpr c6
      have c6b1 : (((rd_T90 t101 0).f1.f1) != 8) = false := bne_eq_false_iff_eq.mpr c6
      clear c6
      by_cases c7 : ((rd_T90 t101 0).f6) = 4
      ·rw [if_pos c7] at H
       have c7b0 : (((rd_T90 t101 0).f6) == 4) = true := beq_iff_eq.mpr c7
       have c7b1 : (((rd_T90 t101 0).f6) != 4) = false := bne_eq_false_iff_eq.mpr c7
       clear c7
       obtain rfl := Option.some.inj H
       go_enter Tryz.func27, Tryz.ntmps27
       go_wp2_with (first | ((with_reducible refine gate_callee (f := 25) rfl ?_); refine goesL_ (some 5) rfl rfl Tryz.func25 (by kernel_rfl) rfl #[.string (⟨#[114, 101, 99, 101, 105, 118, 101, 114, 32, 97, 32, 49, 32, 56, 32, 48, 32, 51, 32, 53, 32, 49, 48, 32, 50, 32, 52, 10, 114, 111, 117, 116, 101, 32, 97, 32, 105, 102, 10, 114, 101, 112, 101, 97, 116, 32, 54, 48, 10, 98, 101, 97, 116, 32, 51, 48, 10]⟩ : ByteArray)] rfl mS ?_; (with_reducible refine (config_Parse.calls (⟨#[114, 101, 99, 101, 105, 118, 101, 114, 32, 97, 32, 49, 32, 56, 32, 48, 32, 51, 32, 53, 32, 49, 48, 32, 50, 32, 52, 10, 114, 111, 117, 116, 101, 32, 97, 32, 105, 102, 10, 114, 101, 112, 101, 97, 116, 32, 54, 48, 10, 98, 101, 97, 116, 32, 51, 48, 10]⟩ : ByteArray) t101 t104 t107 t108 t109 t110 _ ?side1 A1.out).mono ?_); (case side1 => exact gok_below HG.out mB); rintro e w8 ⟨v102, v105, rfl, ho0, ho1, hb⟩; refine ⟨_, rfl, ?_⟩; have n0_ := aA (Kd.R_lower ho0 (below_size mB)); have n1_ := aA (Kd.S_lower ho1 (below_size mB)); have n2_ := aA (below_step mB hb); clear HB; have HO103 := n0_; have HO106 := n1_; have HB := n2_; clear n0_ n1_ n2_; (try clear hb); (try clear hb2); (try clear hk); (try clear hi); (try clear ho0); (try clear ho1)) | ((with_reducible refine gate_dst (N := 1) rfl ?_); (try (refine gate_guard (by rfl) ?_; dsimp only)); refine box_event ?hg (N := 1) ?hd (cs := #[.slice none 0 0, .slice none 0 0, .int .i64 0, .int .i64 0]) (t := 57) ?hr ?_; (case hd => rfl); (case hg => rfl); (case hr => first | (go_simp; done) | (go_simp; rfl)); intro gb111 hg w9 hbox hb; have n0_ := aA (Kd.R_below (mR HO103.out) hb); have n1_ := aA (Kd.S_below (by (with_reducible repeat (first | apply Kd.S_alloc | apply Kd.S_drewN | apply Kd.S_drew)); exact HO106.out) hb); have n2_ := aA (below_step mB hb); have n3_ := aA (hbox); have n4_ := aA ((bZ hg mB)); have n5_ := aA ((bZ hg mB)); clear HO103 HO106 HB; have HO103 := n0_; have HO106 := n1_; have HB := n2_; have BK111 := n3_; have GW111 := n4_; have GE111 := n5_; clear n0_ n1_ n2_ n3_ n4_ n5_ hb hbox hg; obtain ⟨Ao10, co10, eo10⟩ := Kd.R_slice HO103.out; subst eo10; obtain ⟨hcz11_0, hcz11_1, hcz11_2, hcz11_3⟩ := bC4 BK111.out; obtain ⟨hfz11_0, hfz11_1, hfz11_2, hfz11_3⟩ := bF4 BK111.out; obtain ⟨Ao12, co12, eo12⟩ := Kd.S_slice HO106.out; subst eo12; have p112 : 0 ≤ (0 : Int) := (by omega); have q112 : 0 < (t101.length : Int) := of_decide_eq_true (by first | (with_reducible assumption) | assumption); obtain ⟨ad112, e112, hx112_0, hx112_1, hx112_2, hx112_3, hx112_4, hx112_5, hx112_6, hx112_7, hx112_8⟩ := at_T90 (Kd.R_reads' HO103.out).2.2 0 p112 q112; cases e112; have qi112 : (0 < t101.length) = True := eq_true (by omega); (try rw [show ((0 : Int)).toNat = 0 from rfl] at hx112_0); (try rw [show 0 * 9 = 0 from rfl] at hx112_0); (try rw [Addr.add_zero'] at hx112_0); (try rw [show ((0 : Int)).toNat = 0 from rfl] at hx112_1); (try rw [show 0 * 9 = 0 from rfl] at hx112_1); (try rw [Addr.add_zero'] at hx112_1); (try rw [show ((0 : Int)).toNat = 0 from rfl] at hx112_2); (try rw [show 0 * 9 = 0 from rfl] at hx112_2); (try rw [Addr.add_zero'] at hx112_2); (try rw [show ((0 : Int)).toNat = 0 from rfl] at hx112_3); (try rw [show 0 * 9 = 0 from rfl] at hx112_3); (try rw [Addr.add_zero'] at hx112_3); (try rw [show ((0 : Int)).toNat = 0 from rfl] at hx112_4); (try rw [show 0 * 9 = 0 from rfl] at hx112_4); (try rw [Addr.add_zero'] at hx112_4); (try rw [show ((0 : Int)).toNat = 0 from rfl] at hx112_5); (try rw [show 0 * 9 = 0 from rfl] at hx112_5); (try rw [Addr.add_zero'] at hx112_5); (try rw [show ((0 : Int)).toNat = 0 from rfl] at hx112_6); (try rw [show 0 * 9 = 0 from rfl] at hx112_6); (try rw [Addr.add_zero'] at hx112_6); (try rw [show ((0 : Int)).toNat = 0 from rfl] at hx112_7); (try rw [show 0 * 9 = 0 from rfl] at hx112_7); (try rw [Addr.add_zero'] at hx112_7); (try rw [show ((0 : Int)).toNat = 0 from rfl] at hx112_8); (try rw [show 0 * 9 = 0 from rfl] at hx112_8); (try rw [Addr.add_zero'] at hx112_8); have hn112_0 : ad112.block ≠ gb111 := Kd.own_blk (Kd.R_ne HO103.out BK111.out (by decide)); have hn112_1 : ad112.block ≠ gb111 := Kd.own_blk (Kd.R_ne HO103.out BK111.out (by decide)); have hn112_2 : ad112.block ≠ gb111 := Kd.own_blk (Kd.R_ne HO103.out BK111.out (by decide)); have hn112_3 : ad112.block ≠ gb111 := Kd.own_blk (Kd.R_ne HO103.out BK111.out (by decide)); replace hx112_0 := (cell_far (p := ⟨gb111, 0, none⟩) (by first | (rw [add_block]; exact hn112_0) | (show (Addr.add _ _).block ≠ _; rw [add_block]; exact hn112_0) | exact hn112_0) (.slice (some ad112) t101.length co10)).trans hx112_0; replace hx112_1 := (cell_far (p := ⟨gb111, 0, none⟩) (by first | (rw [add_block]; exact hn112_0) | (show (Addr.add _ _).block ≠ _; rw [add_block]; exact hn112_0) | exact hn112_0) (.slice (some ad112) t101.length co10)).trans hx112_1; replace hx112_2 := (cell_far (p := ⟨gb111, 0, none⟩) (by first | (rw [add_block]; exact hn112_0) | (show (Addr.add _ _).block ≠ _; rw [add_block]; exact hn112_0) | exact hn112_0) (.slice (some ad112) t101.length co10)).trans hx112_2; replace hx112_3 := (cell_far (p := ⟨gb111, 0, none⟩) (by first | (rw [add_block]; exact hn112_0) | (show (Addr.add _ _).block ≠ _; rw [add_block]; exact hn112_0) | exact hn112_0) (.slice (some ad112) t101.length co10)).trans hx112_3; replace hx112_4 := (cell_far (p := ⟨gb111, 0, none⟩) (by first | (rw [add_block]; exact hn112_0) | (show (Addr.add _ _).block ≠ _; rw [add_block]; exact hn112_0) | exact hn112_0) (.slice (some ad112) t101.length co10)).trans hx112_4; replace hx112_5 := (cell_far (p := ⟨gb111, 0, none⟩) (by first | (rw [add_block]; exact hn112_0) | (show (Addr.add _ _).block ≠ _; rw [add_block]; exact hn112_0) | exact hn112_0) (.slice (some ad112) t101.length co10)).trans hx112_5; replace hx112_6 := (cell_far (p := ⟨gb111, 0, none⟩) (by first | (rw [add_block]; exact hn112_0) | (show (Addr.add _ _).block ≠ _; rw [add_block]; exact hn112_0) | exact hn112_0) (.slice (some ad112) t101.length co10)).trans hx112_6; replace hx112_7 := (cell_far (p := ⟨gb111, 0, none⟩) (by first | (rw [add_block]; exact hn112_0) | (show (Addr.add _ _).block ≠ _; rw [add_block]; exact hn112_0) | exact hn112_0) (.slice (some ad112) t101.length co10)).trans hx112_7; replace hx112_8 := (cell_far (p := ⟨gb111, 0, none⟩) (by first | (rw [add_block]; exact hn112_0) | (show (Addr.add _ _).block ≠ _; rw [add_block]; exact hn112_0) | exact hn112_0) (.slice (some ad112) t101.length co10)).trans hx112_8; replace hx112_0 := (cell_far (p := ⟨gb111, 1, none⟩) (by first | (rw [add_block]; exact hn112_1) | (show (Addr.add _ _).block ≠ _; rw [add_block]; exact hn112_1) | exact hn112_1) (.slice Ao12 t104.length co12)).trans hx112_0; replace hx112_1 := (cell_far (p := ⟨gb111, 1, none⟩) (by first | (rw [add_block]; exact hn112_1) | (show (Addr.add _ _).block ≠ _; rw [add_block]; exact hn112_1) | exact hn112_1) (.slice Ao12 t104.length co12)).trans hx112_1; replace hx112_2 := (cell_far (p := ⟨gb111, 1, none⟩) (by first | (rw [add_block]; exact hn112_1) | (show (Addr.add _ _).block ≠ _; rw [add_block]; exact hn112_1) | exact hn112_1) (.slice Ao12 t104.length co12)).trans hx112_2; replace hx112_3 := (cell_far (p := ⟨gb111, 1, none⟩) (by first | (rw [add_block]; exact hn112_1) | (show (Addr.add _ _).block ≠ _; rw [add_block]; exact hn112_1) | exact hn112_1) (.slice Ao12 t104.length co12)).trans hx112_3; replace hx112_4 := (cell_far (p := ⟨gb111, 1, none⟩) (by first | (rw [add_block]; exact hn112_1) | (show (Addr.add _ _).block ≠ _; rw [add_block]; exact hn112_1) | exact hn112_1) (.slice Ao12 t104.length co12)).trans hx112_4; replace hx112_5 := (cell_far (p := ⟨gb111, 1, none⟩) (by first | (rw [add_block]; exact hn112_1) | (show (Addr.add _ _).block ≠ _; rw [add_block]; exact hn112_1) | exact hn112_1) (.slice Ao12 t104.length co12)).trans hx112_5; replace hx112_6 := (cell_far (p := ⟨gb111, 1, none⟩) (by first | (rw [add_block]; exact hn112_1) | (show (Addr.add _ _).block ≠ _; rw [add_block]; exact hn112_1) | exact hn112_1) (.slice Ao12 t104.length co12)).trans hx112_6; replace hx112_7 := (cell_far (p := ⟨gb111, 1, none⟩) (by first | (rw [add_block]; exact hn112_1) | (show (Addr.add _ _).block ≠ _; rw [add_block]; exact hn112_1) | exact hn112_1) (.slice Ao12 t104.length co12)).trans hx112_7; replace hx112_8 := (cell_far (p := ⟨gb111, 1, none⟩) (by first | (rw [add_block]; exact hn112_1) | (show (Addr.add _ _).block ≠ _; rw [add_block]; exact hn112_1) | exact hn112_1) (.slice Ao12 t104.length co12)).trans hx112_8; replace hx112_0 := (cell_far (p := ⟨gb111, 2, none⟩) (by first | (rw [add_block]; exact hn112_2) | (show (Addr.add _ _).block ≠ _; rw [add_block]; exact hn112_2) | exact hn112_2) (.int .i64 t107)).trans hx112_0; replace hx112_1 := (cell_far (p := ⟨gb111, 2, none⟩) (by first | (rw [add_block]; exact hn112_2) | (show (Addr.add _ _).block ≠ _; rw [add_block]; exact hn112_2) | exact hn112_2) (.int .i64 t107)).trans hx112_1; replace hx112_2 := (cell_far (p := ⟨gb111, 2, none⟩) (by first | (rw [add_block]; exact hn112_2) | (show (Addr.add _ _).block ≠ _; rw [add_block]; exact hn112_2) | exact hn112_2) (.int .i64 t107)).trans hx112_2; replace hx112_3 := (cell_far (p := ⟨gb111, 2, none⟩) (by first | (rw [add_block]; exact hn112_2) | (show (Addr.add _ _).block ≠ _; rw [add_block]; exact hn112_2) | exact hn112_2) (.int .i64 t107)).trans hx112_3; replace hx112_4 := (cell_far (p := ⟨gb111, 2, none⟩) (by first | (rw [add_block]; exact hn112_2) | (show (Addr.add _ _).block ≠ _; rw [add_block]; exact hn112_2) | exact hn112_2) (.int .i64 t107)).trans hx112_4; replace hx112_5 := (cell_far (p := ⟨gb111, 2, none⟩) (by first | (rw [add_block]; exact hn112_2) | (show (Addr.add _ _).block ≠ _; rw [add_block]; exact hn112_2) | exact hn112_2) (.int .i64 t107)).trans hx112_5; replace hx112_6 := (cell_far (p := ⟨gb111, 2, none⟩) (by first | (rw [add_block]; exact hn112_2) | (show (Addr.add _ _).block ≠ _; rw [add_block]; exact hn112_2) | exact hn112_2) (.int .i64 t107)).trans hx112_6; replace hx112_7 := (cell_far (p := ⟨gb111, 2, none⟩) (by first | (rw [add_block]; exact hn112_2) | (show (Addr.add _ _).block ≠ _; rw [add_block]; exact hn112_2) | exact hn112_2) (.int .i64 t107)).trans hx112_7; replace hx112_8 := (cell_far (p := ⟨gb111, 2, none⟩) (by first | (rw [add_block]; exact hn112_2) | (show (Addr.add _ _).block ≠ _; rw [add_block]; exact hn112_2) | exact hn112_2) (.int .i64 t107)).trans hx112_8; replace hx112_0 := (cell_far (p := ⟨gb111, 3, none⟩) (by first | (rw [add_block]; exact hn112_3) | (show (Addr.add _ _).block ≠ _; rw [add_block]; exact hn112_3) | exact hn112_3) (.int .i64 t108)).trans hx112_0; replace hx112_1 := (cell_far (p := ⟨gb111, 3, none⟩) (by first | (rw [add_block]; exact hn112_3) | (show (Addr.add _ _).block ≠ _; rw [add_block]; exact hn112_3) | exact hn112_3) (.int .i64 t108)).trans hx112_1; replace hx112_2 := (cell_far (p := ⟨gb111, 3, none⟩) (by first | (rw [add_block]; exact hn112_3) | (show (Addr.add _ _).block ≠ _; rw [add_block]; exact hn112_3) | exact hn112_3) (.int .i64 t108)).trans hx112_2; replace hx112_3 := (cell_far (p := ⟨gb111, 3, none⟩) (by first | (rw [add_block]; exact hn112_3) | (show (Addr.add _ _).block ≠ _; rw [add_block]; exact hn112_3) | exact hn112_3) (.int .i64 t108)).trans hx112_3; replace hx112_4 := (cell_far (p := ⟨gb111, 3, none⟩) (by first | (rw [add_block]; exact hn112_3) | (show (Addr.add _ _).block ≠ _; rw [add_block]; exact hn112_3) | exact hn112_3) (.int .i64 t108)).trans hx112_4; replace hx112_5 := (cell_far (p := ⟨gb111, 3, none⟩) (by first | (rw [add_block]; exact hn112_3) | (show (Addr.add _ _).block ≠ _; rw [add_block]; exact hn112_3) | exact hn112_3) (.int .i64 t108)).trans hx112_5; replace hx112_6 := (cell_far (p := ⟨gb111, 3, none⟩) (by first | (rw [add_block]; exact hn112_3) | (show (Addr.add _ _).block ≠ _; rw [add_block]; exact hn112_3) | exact hn112_3) (.int .i64 t108)).trans hx112_6; replace hx112_7 := (cell_far (p := ⟨gb111, 3, none⟩) (by first | (rw [add_block]; exact hn112_3) | (show (Addr.add _ _).block ≠ _; rw [add_block]; exact hn112_3) | exact hn112_3) (.int .i64 t108)).trans hx112_7; replace hx112_8 := (cell_far (p := ⟨gb111, 3, none⟩) (by first | (rw [add_block]; exact hn112_3) | (show (Addr.add _ _).block ≠ _; rw [add_block]; exact hn112_3) | exact hn112_3) (.int .i64 t108)).trans hx112_8; clear hn112_0 hn112_1 hn112_2 hn112_3; replace p112 := eq_true p112; replace q112 := eq_true q112; have p113 : 0 ≤ (0 : Int) := (by omega); have q113 : 0 < (t101.length : Int) := of_decide_eq_true (by first | (with_reducible assumption) | assumption); obtain ⟨ad113, e113, hx113_0, hx113_1, hx113_2, hx113_3, hx113_4, hx113_5, hx113_6, hx113_7, hx113_8⟩ := at_T90 (Kd.R_reads' HO103.out).2.2 0 p113 q113; obtain rfl : ad112 = ad113 := (by injection e113); have qi113 : (0 < t101.length) = True := eq_true (by omega); (try rw [show ((0 : Int)).toNat = 0 from rfl] at hx113_0); (try rw [show 0 * 9 = 0 from rfl] at hx113_0); (try rw [Addr.add_zero'] at hx113_0); (try rw [show ((0 : Int)).toNat = 0 from rfl] at hx113_1); (try rw [show 0 * 9 = 0 from rfl] at hx113_1); (try rw [Addr.add_zero'] at hx113_1); (try rw [show ((0 : Int)).toNat = 0 from rfl] at hx113_2); (try rw [show 0 * 9 = 0 from rfl] at hx113_2); (try rw [Addr.add_zero'] at hx113_2); (try rw [show ((0 : Int)).toNat = 0 from rfl] at hx113_3); (try rw [show 0 * 9 = 0 from rfl] at hx113_3); (try rw [Addr.add_zero'] at hx113_3); (try rw [show ((0 : Int)).toNat = 0 from rfl] at hx113_4); (try rw [show 0 * 9 = 0 from rfl] at hx113_4); (try rw [Addr.add_zero'] at hx113_4); (try rw [show ((0 : Int)).toNat = 0 from rfl] at hx113_5); (try rw [show 0 * 9 = 0 from rfl] at hx113_5); (try rw [Addr.add_zero'] at hx113_5); (try rw [show ((0 : Int)).toNat = 0 from rfl] at hx113_6); (try rw [show 0 * 9 = 0 from rfl] at hx113_6); (try rw [Addr.add_zero'] at hx113_6); (try rw [show ((0 : Int)).toNat = 0 from rfl] at hx113_7); (try rw [show 0 * 9 = 0 from rfl] at hx113_7); (try rw [Addr.add_zero'] at hx113_7); (try rw [show ((0 : Int)).toNat = 0 from rfl] at hx113_8); (try rw [show 0 * 9 = 0 from rfl] at hx113_8); (try rw [Addr.add_zero'] at hx113_8); have hn113_0 : ad112.block ≠ gb111 := Kd.own_blk (Kd.R_ne HO103.out BK111.out (by decide)); have hn113_1 : ad112.block ≠ gb111 := Kd.own_blk (Kd.R_ne HO103.out BK111.out (by decide)); have hn113_2 : ad112.block ≠ gb111 := Kd.own_blk (Kd.R_ne HO103.out BK111.out (by decide)); have hn113_3 : ad112.block ≠ gb111 := Kd.own_blk (Kd.R_ne HO103.out BK111.out (by decide)); replace hx113_0 := (cell_far (p := ⟨gb111, 0, none⟩) (by first | (rw [add_block]; exact hn113_0) | (show (Addr.add _ _).block ≠ _; rw [add_block]; exact hn113_0) | exact hn113_0) (.slice (some ad112) t101.length co10)).trans hx113_0; replace hx113_1 := (cell_far (p := ⟨gb111, 0, none⟩) (by first | (rw [add_block]; exact hn113_0) | (show (Addr.add _ _).block ≠ _; rw [add_block]; exact hn113_0) | exact hn113_0) (.slice (some ad112) t101.length co10)).trans hx113_1; replace hx113_2 := (cell_far (p := ⟨gb111, 0, none⟩) (by first | (rw [add_block]; exact hn113_0) | (show (Addr.add _ _).block ≠ _; rw [add_block]; exact hn113_0) | exact hn113_0) (.slice (some ad112) t101.length co10)).trans hx113_2; replace hx113_3 := (cell_far (p := ⟨gb111, 0, none⟩) (by first | (rw [add_block]; exact hn113_0) | (show (Addr.add _ _).block ≠ _; rw [add_block]; exact hn113_0) | exact hn113_0) (.slice (some ad112) t101.length co10)).trans hx113_3; replace hx113_4 := (cell_far (p := ⟨gb111, 0, none⟩) (by first | (rw [add_block]; exact hn113_0) | (show (Addr.add _ _).block ≠ _; rw [add_block]; exact hn113_0) | exact hn113_0) (.slice (some ad112) t101.length co10)).trans hx113_4; replace hx113_5 := (cell_far (p := ⟨gb111, 0, none⟩) (by first | (rw [add_block]; exact hn113_0) | (show (Addr.add _ _).block ≠ _; rw [add_block]; exact hn113_0) | exact hn113_0) (.slice (some ad112) t101.length co10)).trans hx113_5; replace hx113_6 := (cell_far (p := ⟨gb111, 0, none⟩) (by first | (rw [add_block]; exact hn113_0) | (show (Addr.add _ _).block ≠ _; rw [add_block]; exact hn113_0) | exact hn113_0) (.slice (some ad112) t101.length co10)).trans hx113_6; replace hx113_7 := (cell_far (p := ⟨gb111, 0, none⟩) (by first | (rw [add_block]; exact hn113_0) | (show (Addr.add _ _).block ≠ _; rw [add_block]; exact hn113_0) | exact hn113_0) (.slice (some ad112) t101.length co10)).trans hx113_7; replace hx113_8 := (cell_far (p := ⟨gb111, 0, none⟩) (by first | (rw [add_block]; exact hn113_0) | (show (Addr.add _ _).block ≠ _; rw [add_block]; exact hn113_0) | exact hn113_0) (.slice (some ad112) t101.length co10)).trans hx113_8; replace hx113_0 := (cell_far (p := ⟨gb111, 1, none⟩) (by first | (rw [add_block]; exact hn113_1) | (show (Addr.add _ _).block ≠ _; rw [add_block]; exact hn113_1) | exact hn113_1) (.slice Ao12 t104.length co12)).trans hx113_0; replace hx113_1 := (cell_far (p := ⟨gb111, 1, none⟩) (by first | (rw [add_block]; exact hn113_1) | (show (Addr.add _ _).block ≠ _; rw [add_block]; exact hn113_1) | exact hn113_1) (.slice Ao12 t104.length co12)).trans hx113_1; replace hx113_2 := (cell_far (p := ⟨gb111, 1, none⟩) (by first | (rw [add_block]; exact hn113_1) | (show (Addr.add _ _).block ≠ _; rw [add_block]; exact hn113_1) | exact hn113_1) (.slice Ao12 t104.length co12)).trans hx113_2; replace hx113_3 := (cell_far (p := ⟨gb111, 1, none⟩) (by first | (rw [add_block]; exact hn113_1) | (show (Addr.add _ _).block ≠ _; rw [add_block]; exact hn113_1) | exact hn113_1) (.slice Ao12 t104.length co12)).trans hx113_3; replace hx113_4 := (cell_far (p := ⟨gb111, 1, none⟩) (by first | (rw [add_block]; exact hn113_1) | (show (Addr.add _ _).block ≠ _; rw [add_block]; exact hn113_1) | exact hn113_1) (.slice Ao12 t104.length co12)).trans hx113_4; replace hx113_5 := (cell_far (p := ⟨gb111, 1, none⟩) (by first | (rw [add_block]; exact hn113_1) | (show (Addr.add _ _).block ≠ _; rw [add_block]; exact hn113_1) | exact hn113_1) (.slice Ao12 t104.length co12)).trans hx113_5; replace hx113_6 := (cell_far (p := ⟨gb111, 1, none⟩) (by first | (rw [add_block]; exact hn113_1) | (show (Addr.add _ _).block ≠ _; rw [add_block]; exact hn113_1) | exact hn113_1) (.slice Ao12 t104.length co12)).trans hx113_6; replace hx113_7 := (cell_far (p := ⟨gb111, 1, none⟩) (by first | (rw [add_block]; exact hn113_1) | (show (Addr.add _ _).block ≠ _; rw [add_block]; exact hn113_1) | exact hn113_1) (.slice Ao12 t104.length co12)).trans hx113_7; replace hx113_8 := (cell_far (p := ⟨gb111, 1, none⟩) (by first | (rw [add_block]; exact hn113_1) | (show (Addr.add _ _).block ≠ _; rw [add_block]; exact hn113_1) | exact hn113_1) (.slice Ao12 t104.length co12)).trans hx113_8; replace hx113_0 := (cell_far (p := ⟨gb111, 2, none⟩) (by first | (rw [add_block]; exact hn113_2) | (show (Addr.add _ _).block ≠ _; rw [add_block]; exact hn113_2) | exact hn113_2) (.int .i64 t107)).trans hx113_0; replace hx113_1 := (cell_far (p := ⟨gb111, 2, none⟩) (by first | (rw [add_block]; exact hn113_2) | (show (Addr.add _ _).block ≠ _; rw [add_block]; exact hn113_2) | exact hn113_2) (.int .i64 t107)).trans hx113_1; replace hx113_2 := (cell_far (p := ⟨gb111, 2, none⟩) (by first | (rw [add_block]; exact hn113_2) | (show (Addr.add _ _).block ≠ _; rw [add_block]; exact hn113_2) | exact hn113_2) (.int .i64 t107)).trans hx113_2; replace hx113_3 := (cell_far (p := ⟨gb111, 2, none⟩) (by first | (rw [add_block]; exact hn113_2) | (show (Addr.add _ _).block ≠ _; rw [add_block]; exact hn113_2) | exact hn113_2) (.int .i64 t107)).trans hx113_3; replace hx113_4 := (cell_far (p := ⟨gb111, 2, none⟩) (by first | (rw [add_block]; exact hn113_2) | (show (Addr.add _ _).block ≠ _; rw [add_block]; exact hn113_2) | exact hn113_2) (.int .i64 t107)).trans hx113_4; replace hx113_5 := (cell_far (p := ⟨gb111, 2, none⟩) (by first | (rw [add_block]; exact hn113_2) | (show (Addr.add _ _).block ≠ _; rw [add_block]; exact hn113_2) | exact hn113_2) (.int .i64 t107)).trans hx113_5; replace hx113_6 := (cell_far (p := ⟨gb111, 2, none⟩) (by first | (rw [add_block]; exact hn113_2) | (show (Addr.add _ _).block ≠ _; rw [add_block]; exact hn113_2) | exact hn113_2) (.int .i64 t107)).trans hx113_6; replace hx113_7 := (cell_far (p := ⟨gb111, 2, none⟩) (by first | (rw [add_block]; exact hn113_2) | (show (Addr.add _ _).block ≠ _; rw [add_block]; exact hn113_2) | exact hn113_2) (.int .i64 t107)).trans hx113_7; replace hx113_8 := (cell_far (p := ⟨gb111, 2, none⟩) (by first | (rw [add_block]; exact hn113_2) | (show (Addr.add _ _).block ≠ _; rw [add_block]; exact hn113_2) | exact hn113_2) (.int .i64 t107)).trans hx113_8; replace hx113_0 := (cell_far (p := ⟨gb111, 3, none⟩) (by first | (rw [add_block]; exact hn113_3) | (show (Addr.add _ _).block ≠ _; rw [add_block]; exact hn113_3) | exact hn113_3) (.int .i64 t108)).trans hx113_0; replace hx113_1 := (cell_far (p := ⟨gb111, 3, none⟩) (by first | (rw [add_block]; exact hn113_3) | (show (Addr.add _ _).block ≠ _; rw [add_block]; exact hn113_3) | exact hn113_3) (.int .i64 t108)).trans hx113_1; replace hx113_2 := (cell_far (p := ⟨gb111, 3, none⟩) (by first | (rw [add_block]; exact hn113_3) | (show (Addr.add _ _).block ≠ _; rw [add_block]; exact hn113_3) | exact hn113_3) (.int .i64 t108)).trans hx113_2; replace hx113_3 := (cell_far (p := ⟨gb111, 3, none⟩) (by first | (rw [add_block]; exact hn113_3) | (show (Addr.add _ _).block ≠ _; rw [add_block]; exact hn113_3) | exact hn113_3) (.int .i64 t108)).trans hx113_3; replace hx113_4 := (cell_far (p := ⟨gb111, 3, none⟩) (by first | (rw [add_block]; exact hn113_3) | (show (Addr.add _ _).block ≠ _; rw [add_block]; exact hn113_3) | exact hn113_3) (.int .i64 t108)).trans hx113_4; replace hx113_5 := (cell_far (p := ⟨gb111, 3, none⟩) (by first | (rw [add_block]; exact hn113_3) | (show (Addr.add _ _).block ≠ _; rw [add_block]; exact hn113_3) | exact hn113_3) (.int .i64 t108)).trans hx113_5; replace hx113_6 := (cell_far (p := ⟨gb111, 3, none⟩) (by first | (rw [add_block]; exact hn113_3) | (show (Addr.add _ _).block ≠ _; rw [add_block]; exact hn113_3) | exact hn113_3) (.int .i64 t108)).trans hx113_6; replace hx113_7 := (cell_far (p := ⟨gb111, 3, none⟩) (by first | (rw [add_block]; exact hn113_3) | (show (Addr.add _ _).block ≠ _; rw [add_block]; exact hn113_3) | exact hn113_3) (.int .i64 t108)).trans hx113_7; replace hx113_8 := (cell_far (p := ⟨gb111, 3, none⟩) (by first | (rw [add_block]; exact hn113_3) | (show (Addr.add _ _).block ≠ _; rw [add_block]; exact hn113_3) | exact hn113_3) (.int .i64 t108)).trans hx113_8; clear hn113_0 hn113_1 hn113_2 hn113_3; replace p113 := eq_true p113; replace q113 := eq_true q113))
       go_ret
       exact ⟨by first | rfl | (simp [errW_none, errW_some] <;> rfl) | (simp [*, errW_none, errW_some] <;> rfl), by repeat (first | (with_reducible first | exact HB.out | apply below_alloc | apply pw_below_drewN | apply below_drew1 | refine below_set ?_ GE111.out) | exact HB.out)⟩
      ·rw [if_neg c7] at H
       have c7b0 : (((rd_T90 t101 0).f6) == 4) = false := beq_eq_false_iff_ne.mpr c7
       have c7b1 : (((rd_T90 t101 0).f6) != 4) = true := bne_iff_ne.mpr c7
       exact absurd (Option.some.inj H) (by rw [hrt_]; decide)
     ·rw [if_neg c6] at H
      have c6b0 : (((rd_T90 t101 0).f1.f1) == 8) = false := beq_eq_false_iff_ne.mpr c6
      have c6b1 : (((rd_T90 t101 0).f1.f1) != 8) = true := bne_iff_ne.mpr c6
      exact absurd (Option.some.inj H) (by rw [hrt_]; decide)
    ·rw [if_neg c5] at H
     exact absurd H (by simp)
   ·rw [if_neg c4] at H
    have c4b0 : ((t101.length : Int) == 1) = false := beq_eq_false_iff_ne.mpr c4
    have c4b1 : ((t101.length : Int) != 1) = true := bne_iff_ne.mpr c4
    exact absurd (Option.some.inj H) (by rw [hrt_]; decide)
  ·rw [if_neg c3] at H
   have c3b0 : (t109 == 0) = false := beq_eq_false_iff_ne.mpr c3
   have c3b1 : (t109 != 0) = true := bne_iff_ne.mpr c3
   exact absurd (Option.some.inj H) (by rw [hrt_]; decide)
 ·rw [if_neg c2] at H
  have c2b0 : (t110 == 0) = false := beq_eq_false_iff_ne.mpr c2
  have c2b1 : (t110 != 0) = true := bne_iff_ne.mpr c2
  exact absurd (Option.some.inj H) (by rw [hrt_]; decide)
end Go.Proofs.YtjfknmlchdifjaaGreatDoorQ.P
namespace Go.Proofs.YtjfknmlchdifjaaGreatDoor
open Go.RowKit
theorem rcvsB_snoc {x : Rcv} (hx : rcvB x = true) : ∀ (l seen : List Rcv), rcvsB seen l = true → placeL (seen ++ l) x.name < 0 → rcvsB seen (l ++ [x]) = true := by
  intro l
  induction l with
  | nil =>
    intro seen _ hp
    rw [List.append_nil] at hp
    show (rcvB x && decide (placeL seen x.name < 0) && true) = true
    rw [hx, decide_eq_true hp]
    rfl
  | cons y l ih =>
    intro seen h hp
    rw [List.cons_append]
    unfold rcvsB at h ⊢
    rw [Bool.and_eq_true] at h ⊢
    refine ⟨h.1, ih _ h.2 ?_⟩
    rw [List.append_assoc]
    exact hp
structure CfgI (c : Cfg) (a : List UInt8) : Prop where
  rs : rcvsB [] c.rs = true
  rl : c.rs.length ≤ 4
  ts : ∀ t ∈ c.ts, rteB t c.rs.length = true
  tl : c.ts.length ≤ 4
  none_ : a = [] → c.rs = [] ∧ c.ts = []
  rcv : a = rcvT → 1 ≤ c.rs.length ∧ c.ts = []
  rte : a = rteT → 1 ≤ c.rs.length ∧ 1 ≤ c.ts.length
  rep : a = repT → 1 ≤ c.rs.length ∧ 1 ≤ c.ts.length ∧ oftenB c.rep = true
  beat : a = beatT → 1 ≤ c.rs.length ∧ 1 ≤ c.ts.length ∧ oftenB c.rep = true ∧ oftenB c.beat = true
theorem CfgI.zero : CfgI Cfg.zero [] := ⟨rfl, Nat.zero_le _, fun t h => (by cases h), Nat.zero_le _, fun _ => ⟨rfl, rfl⟩, fun h => (by cases h), fun h => (by cases h), fun h => (by cases h), fun h => (by cases h)⟩
theorem rcvS_ok {rs : List Rcv} {ws : List ByteArray} (h : (rcvS rs ws).2 = 0) : ∃ x, (rcvS rs ws).1 = rs ++ [x] ∧ rcvB x = true ∧ placeL rs x.name < 0 ∧ rs.length ≠ 4 := by
  unfold rcvS at h ⊢
  by_cases h4 : rs.length = 4
  · rw [if_pos h4] at h; cases h
  rw [if_neg h4] at h ⊢
  by_cases h10 : ws.length ≠ 10
  · rw [if_pos h10] at h; cases h
  rw [if_neg h10] at h ⊢
  by_cases hp : 0 ≤ placeL rs (ws.getD 1 ⟨#[]⟩)
  · rw [if_pos hp] at h; cases h
  rw [if_neg hp] at h ⊢
  cases hn : numsP (ws.drop 2) with
  | none => rw [hn] at h; cases h
  | some l =>
    rw [hn] at h
    unfold rcvN at h ⊢
    simp only at h ⊢
    by_cases hr : rcvB (rcvOf (ws.getD 1 ⟨#[]⟩) l) = true
    · rw [if_pos hr]
      exact ⟨_, rfl, hr, by show placeL rs (ws.getD 1 ⟨#[]⟩) < 0; omega, h4⟩
    · rw [if_neg hr] at h; cases h
theorem rteS_ok {rs : List Rcv} {ts : List Rte} {ws : List ByteArray} (h : (rteS rs ts ws).2 = 0) : ∃ t, (rteS rs ts ws).1 = ts ++ [t] ∧ rteB t rs.length = true ∧ ts.length ≠ 4 := by
  unfold rteS at h ⊢
  by_cases h4 : ts.length = 4
  · rw [if_pos h4] at h; cases h
  rw [if_neg h4] at h ⊢
  by_cases h10 : idxOf isIf (ws.drop 1) < 0
  · rw [if_pos h10] at h; cases h
  rw [if_neg h10] at h ⊢
  unfold rteC at h ⊢
  cases hn : placesP rs ((ws.drop 1).take (idxOf isIf (ws.drop 1)).toNat) with
  | none => rw [hn] at h; cases h
  | some l =>
    rw [hn] at h
    unfold rteA at h ⊢
    simp only at h ⊢
    cases ha : asksP (ws.drop (2 + (idxOf isIf (ws.drop 1)).toNat)) with
    | none => rw [ha] at h; cases h
    | some m =>
      rw [ha] at h
      simp only at h ⊢
      by_cases hr : rteB ⟨l, m⟩ rs.length = true
      · rw [if_pos hr]
        exact ⟨_, rfl, hr, h4⟩
      · rw [if_neg hr] at h; cases h
theorem timeS_ok {old : Int} {ws : List ByteArray} (h : (timeS old ws).2 = 0) : oftenB (timeS old ws).1 = true := by
  unfold timeS at h ⊢
  by_cases h2 : ws.length ≠ 2
  · rw [if_pos h2] at h; cases h
  rw [if_neg h2] at h ⊢
  by_cases hb : atoiB (ws.getD 1 ⟨#[]⟩).data.toList = false
  · rw [if_pos hb] at h; cases h
  rw [if_neg hb] at h ⊢
  by_cases ho : oftenB (atoiV (ws.getD 1 ⟨#[]⟩).data.toList) = true
  · rw [if_pos ho]; exact ho
  · rw [if_neg ho] at h; cases h
theorem lineS_ok {c : Cfg} {a : List UInt8} {ws : List ByteArray} (hi : CfgI c a) (h : (lineS c a ws).2.2 = 0) : CfgI (lineS c a ws).1 (lineS c a ws).2.1 := by
  unfold lineS at h ⊢
  by_cases hm : mayB (ws.getD 0 ⟨#[]⟩).data.toList a = false
  · rw [if_pos hm] at h; cases h
  rw [if_neg hm] at h ⊢
  generalize (ws.getD 0 ⟨#[]⟩).data.toList = f at h hm ⊢
  unfold mayB at hm
  by_cases h1 : f = rcvT
  · rw [if_pos h1] at h hm ⊢
    obtain ⟨x, e, hx, hp, h4⟩ := rcvS_ok h
    simp only [e]
    have ha : a = [] ∨ a = rcvT := by simpa [Classical.or_iff_not_imp_left] using hm
    have ht : c.ts = [] := by
      rcases ha with ha | ha
      · exact (hi.none_ ha).2
      · exact (hi.rcv ha).2
    have hrl := hi.rl
    refine ⟨rcvsB_snoc hx _ _ hi.rs (by simpa using hp), by simp only [List.length_append, List.length_singleton]; omega, fun t htm => ?_, hi.tl, fun h => (by cases h), fun _ => ⟨by simp, ht⟩, fun h => (by cases h), fun h => (by cases h), fun h => (by cases h)⟩
    have htm' : t ∈ c.ts := htm
    rw [ht] at htm'
    cases htm'
  rw [if_neg h1] at h hm ⊢
  by_cases h2 : f = rteT
  · rw [if_pos h2] at h hm ⊢
    obtain ⟨t, e, ht, h4⟩ := rteS_ok h
    simp only [e]
    have ha : a = rcvT ∨ a = rteT := by simpa [Classical.or_iff_not_imp_left] using hm
    have hr : 1 ≤ c.rs.length := by
      rcases ha with ha | ha
      · exact (hi.rcv ha).1
      · exact (hi.rte ha).1
    have htl := hi.tl
    refine ⟨hi.rs, hi.rl, fun t' htm => ?_, by simp only [List.length_append, List.length_singleton]; omega, fun h => (by cases h), fun h => (by cases h), fun _ => ⟨hr, by simp⟩, fun h => (by cases h), fun h => (by cases h)⟩
    have htm' : t' ∈ c.ts ++ [t] := htm
    rcases List.mem_append.1 htm' with g | g
    · exact hi.ts t' g
    · rw [List.mem_singleton.1 g]; exact ht
  rw [if_neg h2] at h hm ⊢
  by_cases h3 : f = repT
  · rw [if_pos h3] at h hm ⊢
    have ha : a = rteT := by simpa using hm
    have ho := timeS_ok h
    exact ⟨hi.rs, hi.rl, hi.ts, hi.tl, fun h => (by cases h), fun h => (by cases h), fun h => (by cases h), fun _ => ⟨(hi.rte ha).1, (hi.rte ha).2, ho⟩, fun h => (by cases h)⟩
  rw [if_neg h3] at h hm ⊢
  by_cases h4 : f = beatT
  · rw [if_pos h4] at hm
    have ha : a = repT := by simpa using hm
    have ho := timeS_ok h
    exact ⟨hi.rs, hi.rl, hi.ts, hi.tl, fun h => (by cases h), fun h => (by cases h), fun h => (by cases h), fun h => (by cases h), fun _ => ⟨(hi.rep ha).1, (hi.rep ha).2.1, (hi.rep ha).2.2, ho⟩⟩
  · rw [if_neg h4] at hm
    exact absurd rfl hm
theorem CfgI.okB {c : Cfg} (h : CfgI c beatT) : c.okB = true := by
  obtain ⟨h1, h2, h3, h4⟩ := h.beat rfl
  unfold Cfg.okB
  rw [h.rs, h3, h4, decide_eq_true h1, decide_eq_true h.rl, decide_eq_true h2, decide_eq_true h.tl]
  simp only [Bool.true_and, Bool.and_true, Bool.not_eq_true', List.any_eq_false]
  intro t ht
  rw [h.ts t ht]
  decide
theorem linesS_okB : ∀ {L : List ByteArray} {c : Cfg} {a : List UInt8} {i : Int}, CfgI c a → (linesS c a i L).2.2 = 0 → (linesS c a i L).1.okB = true := by
  intro L
  induction L with
  | nil =>
    intro c a i hi h
    unfold linesS at h ⊢
    by_cases ha : a = beatT
    · rw [if_pos ha]
      subst ha
      exact hi.okB
    · rw [if_neg ha] at h
      cases h
  | cons s r ih =>
    intro c a i hi h
    unfold linesS at h ⊢
    by_cases hx : (lineS c a ((splitL 32 s.data.toList).map tx)).2.2 = 0
    · rw [if_pos hx] at h ⊢
      exact ih (lineS_ok hi hx) h
    · rw [if_neg hx] at h
      exact absurd h hx
theorem cfgP_okB {l : List UInt8} (h : (cfgP l).2.2 = 0) : (cfgP l).1.okB = true := linesS_okB CfgI.zero h
end Go.Proofs.YtjfknmlchdifjaaGreatDoor
namespace Go.Proofs.YtjfknmlchdifjaaGreatDoor
open Go.RowKit
def numW (n : Int) : List UInt8 := Lib.itoa n
def rcvW (x : Rcv) : List (List UInt8) := [rcvT, x.name.data.toList, numW x.base, numW x.top, numW x.jit, numW x.tries, numW x.fails, numW x.opn, numW x.burst, numW x.every]
def nameW (rs : List Rcv) (k : Int) : List UInt8 := ((rs.map Rcv.name).getD k.toNat (⟨#[]⟩ : ByteArray)).data.toList
def rteW (rs : List Rcv) (t : Rte) : List (List UInt8) := rteT :: (t.chain.map (nameW rs) ++ ifT :: t.asked.map askW)
def lineW (ws : List (List UInt8)) : List UInt8 := joinW 32 ws ++ [10]
def Cfg.lines (c : Cfg) : List (List (List UInt8)) := c.rs.map rcvW ++ (c.ts.map (rteW c.rs) ++ [[repT, numW c.rep], [beatT, numW c.beat]])
def Cfg.text (c : Cfg) : List UInt8 := c.lines.flatMap lineW
def NoB (w : List UInt8) : Prop := ∀ c ∈ w, c ≠ 32 ∧ c ≠ 10
theorem lines_join : ∀ {L : List (List (List UInt8))}, L ≠ [] → L.flatMap lineW = joinW 10 (L.map (joinW 32)) ++ [10]
  | [x], _ => by simp [lineW, joinW]
  | x :: y :: r, _ => by
    rw [List.flatMap_cons, lines_join (L := y :: r) (by simp)]
    have e : joinW 10 ((x :: y :: r).map (joinW 32)) = joinW 32 x ++ 10 :: joinW 10 ((y :: r).map (joinW 32)) := joinW_cons 10 (joinW 32 x) (r := (y :: r).map (joinW 32)) (by simp)
    rw [e]
    simp [lineW]
theorem joinW_no {c : UInt8} (h : c ≠ 32) : ∀ {ws : List (List UInt8)}, (∀ w ∈ ws, c ∉ w) → c ∉ joinW 32 ws
  | [], _ => by simp [joinW]
  | [x], h2 => by simpa [joinW] using h2 x (by simp)
  | x :: y :: r, h2 => by
    rw [joinW_cons _ _ (by simp)]
    intro hc
    rcases List.mem_append.1 hc with hc | hc
    · exact h2 x (by simp) hc
    · rcases List.mem_cons.1 hc with hc | hc
      · exact h hc
      · exact joinW_no h (ws := y :: r) (fun w hw => h2 w (List.mem_cons_of_mem _ hw)) hc
theorem linesT_text {L : List (List (List UInt8))} (hL : L ≠ []) (h : ∀ ws ∈ L, ∀ w ∈ ws, NoB w) : linesT (L.flatMap lineW) = L.map fun ws => tx (joinW 32 ws) := by
  rw [lines_join hL, linesT_nl, split_join 10 (by simpa using hL), List.map_map]
  · rfl
  · intro x hx
    obtain ⟨ws, hw, rfl⟩ := List.mem_map.1 hx
    exact joinW_no (by decide) fun w hww hc => (h ws hw w hww 10 hc).2 rfl
theorem words_text {ws : List (List UInt8)} (h0 : ws ≠ []) (h : ∀ w ∈ ws, NoB w) : (splitL 32 (tx (joinW 32 ws)).data.toList).map tx = ws.map tx := by
  have : (tx (joinW 32 ws)).data.toList = joinW 32 ws := by simp [tx]
  rw [this, split_join 32 h0 fun x hx hc => (h x hx 32 hc).1 rfl]
theorem linesS_step {c c' : Cfg} {a a' : List UInt8} {i : Int} {ws : List (List UInt8)} (r : List ByteArray) (h0 : ws ≠ []) (h : ∀ w ∈ ws, NoB w) (hl : lineS c a (ws.map tx) = (c', a', 0)) :
    linesS c a i (tx (joinW 32 ws) :: r) = linesS c' a' (i + 1) r := by
  conv => lhs; unfold linesS
  rw [words_text h0 h, hl]
  exact if_pos rfl
theorem num_ok {n : Int} (h0 : 0 ≤ n) (h1 : n ≤ 1099511627776) : atoiB (tx (numW n)).data.toList = true ∧ atoiV (tx (numW n)).data.toList = n := by
  rw [tx_data]
  unfold numW
  rw [itoa_nat h0]
  have hb : numB (Lib.decDigits n.toNat) = true := numB_dec (by omega)
  rw [atoiB_eq, atoiV_num hb, numV_dec]
  exact ⟨hb, by omega⟩
theorem num_no {n : Int} (h0 : 0 ≤ n) : NoB (numW n) := by
  unfold numW
  rw [itoa_nat h0]
  exact no_blank_dec _
theorem rng_of {n a b : Int} (h : rngB n a b = true) : a ≤ n ∧ n ≤ b := by
  unfold rngB at h
  simpa using h
theorem rcvB_parts {x : Rcv} (h : rcvB x = true) : nameB x.name = true ∧ x.name.data.toList ≠ ifT ∧ (1 ≤ x.base ∧ x.base ≤ 1048576) ∧ (x.base ≤ x.top ∧ x.top ≤ 1073741824) ∧ (0 ≤ x.jit ∧ x.jit ≤ 1048576) ∧ (1 ≤ x.tries ∧ x.tries ≤ 100) ∧
    (1 ≤ x.fails ∧ x.fails ≤ 100) ∧ (1 ≤ x.opn ∧ x.opn ≤ 1048576) ∧ (1 ≤ x.burst ∧ x.burst ≤ 100) ∧ (1 ≤ x.every ∧ x.every ≤ 1048576) := by
  unfold rcvB at h
  simp only [Bool.and_eq_true, decide_eq_true_eq] at h
  obtain ⟨⟨⟨⟨⟨h1, h2⟩, ⟨⟨h3, h4⟩, h5⟩⟩, h6⟩, ⟨h7, h8⟩⟩, ⟨h9, h10⟩⟩ := h
  exact ⟨h1, h2, rng_of h3, rng_of h4, rng_of h5, rng_of h6, rng_of h7, rng_of h8, rng_of h9, rng_of h10⟩
theorem name_blank {n : ByteArray} (h : nameB n = true) : NoB n.data.toList := by
  intro c hc
  have h1 := (nameB_all h).1
  rw [List.all_eq_true] at h1
  exact ⟨(az_sign c (h1 c hc)).2.2.1, (az_sign c (h1 c hc)).2.2.2⟩
theorem const_no : NoB rcvT ∧ NoB rteT ∧ NoB repT ∧ NoB beatT ∧ NoB ifT := by
  unfold NoB
  decide
theorem rcvW_no {x : Rcv} (h : rcvB x = true) : ∀ w ∈ rcvW x, NoB w := by
  obtain ⟨h1, h2, h3, h4, h5, h6, h7, h8, h9, h10⟩ := rcvB_parts h
  intro w hw
  simp only [rcvW, List.mem_cons, List.not_mem_nil, or_false] at hw
  rcases hw with rfl | rfl | rfl | rfl | rfl | rfl | rfl | rfl | rfl | rfl
  · exact const_no.1
  · exact name_blank h1
  · exact num_no (by omega)
  · exact num_no (by omega)
  · exact num_no (by omega)
  · exact num_no (by omega)
  · exact num_no (by omega)
  · exact num_no (by omega)
  · exact num_no (by omega)
  · exact num_no (by omega)
theorem rcvS_text {rs : List Rcv} {x : Rcv} (h : rcvB x = true) (hp : placeL rs x.name < 0) (hl : rs.length ≠ 4) : rcvS rs ((rcvW x).map tx) = (rs ++ [x], 0) := by
  obtain ⟨h1, h2, h3, h4, h5, h6, h7, h8, h9, h10⟩ := rcvB_parts h
  unfold rcvS
  rw [if_neg hl, if_neg (by simp [rcvW])]
  have hn : ((rcvW x).map tx).getD 1 ⟨#[]⟩ = x.name := tx_of x.name
  rw [hn, if_neg (by omega)]
  have hd : numsP (((rcvW x).map tx).drop 2) = some [x.base, x.top, x.jit, x.tries, x.fails, x.opn, x.burst, x.every] := by
    have g := fun {n : Int} (h0 : 0 ≤ n) (h1 : n ≤ 1099511627776) => num_ok h0 h1
    simp only [rcvW, List.map_cons, List.map_nil, List.drop_succ_cons, List.drop_zero, numsP]
    rw [if_pos (g (by omega) (by omega)).1, if_pos (g (by omega) (by omega)).1, if_pos (g (by omega) (by omega)).1, if_pos (g (by omega) (by omega)).1, if_pos (g (by omega) (by omega)).1, if_pos (g (by omega) (by omega)).1, if_pos (g (by omega) (by omega)).1, if_pos (g (by omega) (by omega)).1]
    rw [(g (n := x.base) (by omega) (by omega)).2, (g (n := x.top) (by omega) (by omega)).2, (g (n := x.jit) (by omega) (by omega)).2, (g (n := x.tries) (by omega) (by omega)).2, (g (n := x.fails) (by omega) (by omega)).2, (g (n := x.opn) (by omega) (by omega)).2, (g (n := x.burst) (by omega) (by omega)).2, (g (n := x.every) (by omega) (by omega)).2]
    rfl
  rw [hd]
  unfold rcvN rcvOf
  exact if_pos h
theorem timeS_text {old n : Int} {w : ByteArray} (h : oftenB n = true) : timeS old [w, tx (numW n)] = (n, 0) := by
  have h1 := rng_of h
  obtain ⟨g1, g2⟩ := num_ok (n := n) (by omega) (by omega)
  unfold timeS
  rw [if_neg (by simp)]
  show (if atoiB (tx (numW n)).data.toList = false then _ else _) = _
  rw [if_neg (by rw [g1]; decide)]
  show (if oftenB (atoiV (tx (numW n)).data.toList) = true then _ else _) = _
  rw [g2, if_pos h]
  show (atoiV (tx (numW n)).data.toList, (0 : Int)) = _
  rw [g2]
theorem rcvsB_get : ∀ {l seen : List Rcv}, rcvsB seen l = true → ∀ k (h : k < l.length), rcvB l[k] = true ∧ placeL (seen ++ l.take k) l[k].name < 0 := by
  intro l
  induction l with
  | nil => intro seen _ k h; simp at h
  | cons x l ih =>
    intro seen h k hk
    unfold rcvsB at h
    simp only [Bool.and_eq_true, decide_eq_true_eq] at h
    cases k with
    | zero => exact ⟨h.1.1, by simpa using h.1.2⟩
    | succ k =>
      have := ih h.2 k (by simpa using hk)
      simpa using this
theorem lines_rcvs {rs : List Rcv} (hB : rcvsB [] rs = true) (hl : rs.length ≤ 4) : ∀ (k : Nat) (i : Int) (r : List ByteArray), k ≤ rs.length →
    linesS ⟨rs.take k, [], 0, 0⟩ (if k = 0 then [] else rcvT) i (((rs.drop k).map rcvW).map (fun ws => tx (joinW 32 ws)) ++ r) = linesS ⟨rs, [], 0, 0⟩ (if rs.length = 0 then [] else rcvT) (i + (rs.length - k : Nat)) r := by
  intro k
  induction hn : rs.length - k generalizing k with
  | zero =>
    intro i r hk
    have : k = rs.length := by omega
    subst this
    rw [List.take_length, List.drop_length]
    show linesS _ _ i r = linesS _ _ (i + ((0 : Nat) : Int)) r
    congr 1
    omega
  | succ n ih =>
    intro i r hk
    have hk' : k < rs.length := by omega
    obtain ⟨hx, hp⟩ := rcvsB_get hB k hk'
    rw [List.nil_append] at hp
    rw [List.drop_eq_getElem_cons hk', List.map_cons, List.map_cons, List.cons_append,
      linesS_step (c' := ⟨rs.take (k + 1), [], 0, 0⟩) (a' := rcvT) _ (by simp [rcvW]) (rcvW_no hx)]
    · have := ih (k + 1) (by omega) (i + 1) r (by omega)
      rw [if_neg (by omega)] at this
      rw [this]
      congr 1
      omega
    · unfold lineS
      have h0 : (((rcvW rs[k]).map tx).getD 0 ⟨#[]⟩).data.toList = rcvT := tx_data rcvT
      rw [h0, if_neg (by unfold mayB; rw [if_pos rfl]; by_cases hk0 : k = 0 <;> simp [hk0]), if_pos rfl]
      have hS := rcvS_text (rs := rs.take k) hx hp (by rw [List.length_take]; omega)
      show ((⟨(rcvS (rs.take k) ((rcvW rs[k]).map tx)).1, [], 0, 0⟩ : Cfg), rcvT, (rcvS (rs.take k) ((rcvW rs[k]).map tx)).2) = _
      rw [hS, ← List.take_succ_eq_append_getElem hk']
end Go.Proofs.YtjfknmlchdifjaaGreatDoor
namespace Go.Proofs.YtjfknmlchdifjaaGreatDoor
open Go.RowKit
theorem idxOf_neg {α : Type} {p : α → Bool} {xs : List α} (h : idxOf p xs < 0) : ∀ x ∈ xs, p x = false := by
  have := idxOf_any p xs
  rw [decide_eq_false (by omega)] at this
  have := this.symm
  rw [List.any_eq_false] at this
  intro x hx
  simpa using this x hx
theorem place_at {rs : List Rcv} (hB : rcvsB [] rs = true) {k : Nat} (hk : k < rs.length) : placeL rs rs[k].name = k := by
  refine idxOf_found hk (by unfold namedB; exact beq_self_eq_true _) fun j hj => ?_
  have h2 := (rcvsB_get hB k hk).2
  rw [List.nil_append] at h2
  exact idxOf_neg h2 _ (List.mem_iff_getElem.2 ⟨j, by rw [List.length_take]; omega, by rw [List.getElem_take]⟩)
theorem chain_in {n : Int} : ∀ {l seen : List Int}, chainB n seen l = true → ∀ k ∈ l, 0 ≤ k ∧ k < n := by
  intro l
  induction l with
  | nil => intro seen _ k hk; cases hk
  | cons x l ih =>
    intro seen h k hk
    unfold chainB at h
    simp only [Bool.and_eq_true, decide_eq_true_eq] at h
    rcases List.mem_cons.1 hk with rfl | hk
    · exact ⟨h.1.1.2, h.1.2⟩
    · exact ih h.2 k hk
theorem rteB_parts {t : Rte} {n : Nat} (h : rteB t n = true) : (∀ k ∈ t.chain, 0 ≤ k ∧ k < n) ∧ 1 ≤ t.chain.length ∧ t.chain.length ≤ 4 ∧ t.asked.length ≤ 4 ∧ ∀ m ∈ t.asked, matB m = true := by
  unfold rteB at h
  simp only [Bool.and_eq_true, decide_eq_true_eq, Bool.not_eq_true', List.any_eq_false] at h
  obtain ⟨⟨⟨⟨h1, h2⟩, h3⟩, h4⟩, h5⟩ := h
  exact ⟨chain_in h1, h2, h3, h4, fun m hm => by simpa using h5 m hm⟩
theorem nameW_at {rs : List Rcv} {k : Int} (h0 : 0 ≤ k) (h1 : k < rs.length) : nameW rs k = (rs[k.toNat]'(by omega)).name.data.toList := by
  unfold nameW
  rw [List.getD_eq_getElem?_getD, List.getElem?_map, List.getElem?_eq_getElem (by omega)]
  rfl
theorem places_text {rs : List Rcv} (hB : rcvsB [] rs = true) : ∀ {l : List Int}, (∀ k ∈ l, 0 ≤ k ∧ k < rs.length) → placesP rs (l.map fun k => tx (nameW rs k)) = some l := by
  intro l
  induction l with
  | nil => intro _; rfl
  | cons k l ih =>
    intro h
    obtain ⟨h0, h1⟩ := h k (by simp)
    have hp : placeL rs (tx (nameW rs k)) = k := by
      rw [nameW_at h0 h1, tx_of, place_at hB (by omega)]
      omega
    rw [List.map_cons]
    unfold placesP
    rw [hp, if_pos h0, ih fun j hj => h j (List.mem_cons_of_mem _ hj)]
    rfl
theorem asks_text : ∀ {l : List Mat}, (∀ m ∈ l, matB m = true) → asksP (l.map fun m => tx (askW m)) = some l := by
  intro l
  induction l with
  | nil => intro _; rfl
  | cons m l ih =>
    intro h
    rw [List.map_cons]
    unfold asksP
    rw [tx_data, askP_askW (h m (by simp)), ih fun j hj => h j (List.mem_cons_of_mem _ hj)]
    rfl
theorem rteW_no {rs : List Rcv} {t : Rte} (hB : rcvsB [] rs = true) (h : rteB t rs.length = true) : ∀ w ∈ rteW rs t, NoB w := by
  obtain ⟨h1, h2, h3, h4, h5⟩ := rteB_parts h
  intro w hw
  unfold rteW at hw
  rcases List.mem_cons.1 hw with rfl | hw
  · exact const_no.2.1
  rcases List.mem_append.1 hw with hw | hw
  · obtain ⟨k, hk, rfl⟩ := List.mem_map.1 hw
    rw [nameW_at (h1 k hk).1 (h1 k hk).2]
    exact name_blank (rcvB_parts (rcvsB_get hB _ _).1).1
  rcases List.mem_cons.1 hw with rfl | hw
  · exact const_no.2.2.2.2
  · obtain ⟨m, hm, rfl⟩ := List.mem_map.1 hw
    exact no_blank_ask (h5 m hm)
theorem rteS_text {rs : List Rcv} {ts : List Rte} {t : Rte} (hB : rcvsB [] rs = true) (h : rteB t rs.length = true) (hl : ts.length ≠ 4) : rteS rs ts ((rteW rs t).map tx) = (ts ++ [t], 0) := by
  obtain ⟨h1, h2, h3, h4, h5⟩ := rteB_parts h
  have e1 : ((rteW rs t).map tx).drop 1 = (t.chain.map fun k => tx (nameW rs k)) ++ tx ifT :: t.asked.map fun m => tx (askW m) := by
    simp [rteW, Function.comp_def]
  have hix : idxOf isIf (((rteW rs t).map tx).drop 1) = (t.chain.length : Int) := by
    rw [e1]
    refine (idxOf_found (i := t.chain.length) (by simp) ?_ fun j hj => ?_).trans rfl
    · rw [List.getElem_append_right (by simp)]
      simp only [List.length_map, Nat.sub_self, List.getElem_cons_zero]
      unfold isIf
      rw [tx_data]
      exact beq_self_eq_true _
    · rw [List.getElem_append_left (by simpa using hj), List.getElem_map]
      unfold isIf
      have hk := h1 t.chain[j] (List.getElem_mem _)
      rw [tx_data, nameW_at hk.1 hk.2]
      exact beq_eq_false_iff_ne.2 (rcvB_parts (rcvsB_get hB _ _).1).2.1
  have e2 : ((rteW rs t).map tx).drop (2 + t.chain.length) = t.asked.map fun m => tx (askW m) := by
    have : 2 + t.chain.length = 1 + (t.chain.length + 1) := by omega
    rw [this, ← List.drop_drop, e1, List.drop_append, List.drop_of_length_le (by simp)]
    simp
  unfold rteS
  rw [if_neg hl, hix, if_neg (by omega), Int.toNat_natCast, e2, e1, List.take_left' (by simp), places_text hB h1, asks_text h5]
  unfold rteC rteA
  exact if_pos h
theorem lines_rtes {rs : List Rcv} {ts : List Rte} (hB : rcvsB [] rs = true) (ht : ∀ t ∈ ts, rteB t rs.length = true) (hl : ts.length ≤ 4) : ∀ (k : Nat) (i : Int) (r : List ByteArray), k ≤ ts.length →
    linesS ⟨rs, ts.take k, 0, 0⟩ (if k = 0 then rcvT else rteT) i (((ts.drop k).map (rteW rs)).map (fun ws => tx (joinW 32 ws)) ++ r) = linesS ⟨rs, ts, 0, 0⟩ (if ts.length = 0 then rcvT else rteT) (i + (ts.length - k : Nat)) r := by
  intro k
  induction hn : ts.length - k generalizing k with
  | zero =>
    intro i r hk
    have : k = ts.length := by omega
    subst this
    rw [List.take_length, List.drop_length]
    show linesS _ _ i r = linesS _ _ (i + ((0 : Nat) : Int)) r
    congr 1
    omega
  | succ n ih =>
    intro i r hk
    have hk' : k < ts.length := by omega
    have hx := ht ts[k] (List.getElem_mem hk')
    rw [List.drop_eq_getElem_cons hk', List.map_cons, List.map_cons, List.cons_append,
      linesS_step (c' := ⟨rs, ts.take (k + 1), 0, 0⟩) (a' := rteT) _ (by simp [rteW]) (rteW_no hB hx)]
    · have := ih (k + 1) (by omega) (i + 1) r (by omega)
      rw [if_neg (by omega)] at this
      rw [this]
      congr 1
      omega
    · unfold lineS
      have h0 : (((rteW rs ts[k]).map tx).getD 0 ⟨#[]⟩).data.toList = rteT := tx_data rteT
      rw [h0, if_neg (by unfold mayB; rw [if_neg (by decide), if_pos rfl]; by_cases hk0 : k = 0 <;> simp [hk0]), if_neg (by decide), if_pos rfl]
      have hS := rteS_text (ts := ts.take k) hB hx (by rw [List.length_take]; omega)
      show ((⟨rs, (rteS rs (ts.take k) ((rteW rs ts[k]).map tx)).1, 0, 0⟩ : Cfg), rteT, (rteS rs (ts.take k) ((rteW rs ts[k]).map tx)).2) = _
      rw [hS, ← List.take_succ_eq_append_getElem hk']
theorem okB_parts {c : Cfg} (h : c.okB = true) : rcvsB [] c.rs = true ∧ (∀ t ∈ c.ts, rteB t c.rs.length = true) ∧ 1 ≤ c.rs.length ∧ c.rs.length ≤ 4 ∧ 1 ≤ c.ts.length ∧ c.ts.length ≤ 4 ∧ oftenB c.rep = true ∧ oftenB c.beat = true := by
  unfold Cfg.okB at h
  simp only [Bool.and_eq_true, decide_eq_true_eq, Bool.not_eq_true', List.any_eq_false] at h
  obtain ⟨⟨⟨⟨h1, h2⟩, ⟨⟨⟨h3, h4⟩, h5⟩, h6⟩⟩, h7⟩, h8⟩ := h
  exact ⟨h1, fun t ht => by simpa using h2 t ht, h3, h4, h5, h6, h7, h8⟩
theorem time_no {n : Int} {w : List UInt8} (h : oftenB n = true) (hw : NoB w) : ∀ x ∈ [w, numW n], NoB x := by
  have := rng_of h
  intro x hx
  simp only [List.mem_cons, List.not_mem_nil, or_false] at hx
  rcases hx with rfl | rfl
  · exact hw
  · exact num_no (by omega)
theorem cfg_text {c : Cfg} (h : c.okB = true) : cfgP c.text = (c, 0, 0) := by
  obtain ⟨h1, h2, h3, h4, h5, h6, h7, h8⟩ := okB_parts h
  unfold cfgP Cfg.text
  rw [linesT_text (by unfold Cfg.lines; simp) ?no]
  case no =>
    intro ws hw w hww
    unfold Cfg.lines at hw
    rcases List.mem_append.1 hw with hw | hw
    · obtain ⟨x, hx, rfl⟩ := List.mem_map.1 hw
      obtain ⟨k, hk, rfl⟩ := List.mem_iff_getElem.1 hx
      exact rcvW_no (rcvsB_get h1 k hk).1 w hww
    rcases List.mem_append.1 hw with hw | hw
    · obtain ⟨x, hx, rfl⟩ := List.mem_map.1 hw
      exact rteW_no h1 (h2 x hx) w hww
    · simp only [List.mem_cons, List.not_mem_nil, or_false] at hw
      rcases hw with rfl | rfl
      · exact time_no h7 const_no.2.2.1 w hww
      · exact time_no h8 const_no.2.2.2.1 w hww
  unfold Cfg.lines
  rw [List.map_append, List.map_append]
  have g1 := lines_rcvs h1 h4 0 0 (List.map (fun ws => tx (joinW 32 ws)) (List.map (rteW c.rs) c.ts) ++ List.map (fun ws => tx (joinW 32 ws)) [[repT, numW c.rep], [beatT, numW c.beat]]) (Nat.zero_le _)
  rw [if_neg (show ¬ c.rs.length = 0 by omega), if_pos rfl, List.drop_zero, List.take_zero] at g1
  refine Eq.trans g1 ?_
  have g2 := lines_rtes h1 h2 h6 0 (0 + (c.rs.length - 0 : Nat)) (List.map (fun ws => tx (joinW 32 ws)) [[repT, numW c.rep], [beatT, numW c.beat]]) (Nat.zero_le _)
  rw [if_neg (show ¬ c.ts.length = 0 by omega), if_pos rfl, List.drop_zero, List.take_zero] at g2
  refine Eq.trans g2 ?_
  rw [List.map_cons, List.map_cons, List.map_nil, linesS_step (c' := ⟨c.rs, c.ts, c.rep, 0⟩) (a' := repT) _ (by simp) (time_no h7 const_no.2.2.1), linesS_step (c' := c) (a' := beatT) _ (by simp) (time_no h8 const_no.2.2.2.1)]
  · rfl
  · unfold lineS
    have h0 : (([beatT, numW c.beat].map tx).getD 0 ⟨#[]⟩).data.toList = beatT := tx_data beatT
    rw [h0, if_neg (by decide), if_neg (by decide), if_neg (by decide), if_neg (by decide)]
    have := timeS_text (old := 0) (w := tx beatT) h8
    show ((⟨c.rs, c.ts, c.rep, (timeS 0 [tx beatT, tx (numW c.beat)]).1⟩ : Cfg), beatT, (timeS 0 [tx beatT, tx (numW c.beat)]).2) = _
    rw [this]
  · unfold lineS
    have h0 : (([repT, numW c.rep].map tx).getD 0 ⟨#[]⟩).data.toList = repT := tx_data repT
    rw [h0, if_neg (by decide), if_neg (by decide), if_neg (by decide), if_pos rfl]
    have := timeS_text (old := 0) (w := tx repT) h7
    show ((⟨c.rs, c.ts, (timeS 0 [tx repT, tx (numW c.rep)]).1, 0⟩ : Cfg), repT, (timeS 0 [tx repT, tx (numW c.rep)]).2) = _
    rw [this]
end Go.Proofs.YtjfknmlchdifjaaGreatDoor
namespace Go.Proofs.YtjfknmlchdifjaaGreatDoorQ.P
open Go.RowKit Go.Proofs.YtjfknmlchdifjaaGreatDoorW.PrintWords Go.Proofs.YtjfknmlchdifjaaGreatDoor
def cfg0 : Cfg := ⟨[⟨⟨#[97]⟩, 1, 8, 0, 3, 5, 10, 2, 4⟩], [⟨[0], []⟩], 60, 30⟩
theorem cfg0_ok : cfg0.okB = true := by decide
theorem dig1 {n : Nat} (h : n < 10) : Lib.decDigits n = [UInt8.ofNat (48 + n)] := by rw [Lib.decDigits, dif_pos h]
theorem dig2 {n : Nat} (h : 10 ≤ n) (h2 : n < 100) : Lib.decDigits n = [UInt8.ofNat (48 + n / 10), UInt8.ofNat (48 + n % 10)] := by
  rw [Lib.decDigits, dif_neg (by omega), dig1 (by omega)]
  rfl
theorem cfg0_text : cfg0.text = [114, 101, 99, 101, 105, 118, 101, 114, 32, 97, 32, 49, 32, 56, 32, 48, 32, 51, 32, 53, 32, 49, 48, 32, 50, 32, 52, 10, 114, 111, 117, 116, 101, 32, 97, 32, 105, 102, 10, 114, 101, 112, 101, 97, 116, 32, 54, 48, 10, 98, 101, 97, 116, 32, 51, 48, 10] := by
  have a1 : numW 1 = [49] := dig1 (n := 1) (by omega)
  have a8 : numW 8 = [56] := dig1 (n := 8) (by omega)
  have a0 : numW 0 = [48] := dig1 (n := 0) (by omega)
  have a3 : numW 3 = [51] := dig1 (n := 3) (by omega)
  have a5 : numW 5 = [53] := dig1 (n := 5) (by omega)
  have a10 : numW 10 = [49, 48] := dig2 (n := 10) (by omega) (by omega)
  have a2 : numW 2 = [50] := dig1 (n := 2) (by omega)
  have a4 : numW 4 = [52] := dig1 (n := 4) (by omega)
  have a60 : numW 60 = [54, 48] := dig2 (n := 60) (by omega) (by omega)
  have a30 : numW 30 = [51, 48] := dig2 (n := 30) (by omega) (by omega)
  unfold Cfg.text Cfg.lines cfg0 rcvW
  simp only [List.map_cons, List.map_nil, a1, a8, a0, a3, a5, a10, a2, a4, a60, a30]
  rfl
theorem parse0 {b : ByteArray} {c : Cfg} (hs : b.size ≤ 100000) (hok : c.okB = true) (h : c.text = b.data.toList) : config_Parse.f b = some (c.rs.map ofRcv, c.ts.map ofRte, c.rep, c.beat, 0, 0) := by
  unfold config_Parse.f
  rw [if_pos hs, ← h, cfg_text hok]
theorem alive13_f : foghornlaw13_alive.f = some true := by
  unfold foghornlaw13_alive.f
  refine (congrArg (fun o => Option.bind o _) (parse0 (c := cfg0) ?_ cfg0_ok ?_)).trans ?_
  · show 57 ≤ 100000
    omega
  · exact cfg0_text
  · rfl
theorem alive13_only {r : Bool} (h : foghornlaw13_alive.f = some r) : r = true := by
  rw [alive13_f] at h
  exact (Option.some.inj h).symm
theorem foghornlaw13_alive.calls (r : Bool) (w : World) (hG : GOK w) (h : foghornlaw13_alive.f = some r) :
    Calls Tryz.prog 27 #[] w fun e w' => e = .returned (.bool r) ∧ Below w.heap.size w w' := foghornlaw13_alive.callsT r w hG h (alive13_only h)
end Go.Proofs.YtjfknmlchdifjaaGreatDoorQ.P
namespace Go.Proofs.YtjfknmlchdifjaaGreatDoorQ.P
open Go.RowKit Go.Proofs.YtjfknmlchdifjaaGreatDoorW.PrintWords Go.Proofs.YtjfknmlchdifjaaGreatDoorW.PrintLast Go.Proofs.YtjfknmlchdifjaaGreatDoorW.PrintMore
attribute [local go_sem] max2_int min2_int max_two min_two max_three min_three max_four min_four
theorem eqA88 (d : Nat) (w : World) (x0 y0 : Int) (x1 y1 : Int) (x2 y2 : Int) :
  (Op.equalIn (d + 2) 88 (.agg #[.int .i64 x0, .int .i64 x1, .int .i64 x2]) (.agg #[.int .i64 y0, .int .i64 y1, .int .i64 y2])).run Tryz.prog w = .ok (x0 == y0 && (x1 == y1 && (x2 == y2))) w := by
 refine eqA_of Tryz.underlying88 (by kernel_rfl) ?_
 refine eqf_cons (by rfl) (by go_simp; rfl) (by go_simp; rfl) (by go_simp) ?_
 refine eqf_cons (by rfl) (by go_simp; rfl) (by go_simp; rfl) (by go_simp) ?_
 exact eqf_last (by rfl) (by go_simp; rfl) (by go_simp; rfl) (by go_simp)
theorem eqA90 (d : Nat) (w : World) (x0 y0 : ByteArray) (x1 y1 : Int) (x2 y2 : Int) (x3 y3 : Int) (x4 y4 : Int) (x5 y5 : Int) (x6 y6 : Int) (x7 y7 : Int) (x8 y8 : Int) :
  (Op.equalIn (d + 3) 90 (.agg #[.string x0, .int .i64 x1, .int .i64 x2, .int .i64 x3, .int .i64 x4, .int .i64 x5, .int .i64 x6, .int .i64 x7, .int .i64 x8]) (.agg #[.string y0, .int .i64 y1, .int .i64 y2, .int .i64 y3, .int .i64 y4, .int .i64 y5, .int .i64 y6, .int .i64 y7, .int .i64 y8])).run Tryz.prog w = .ok (x0.toList == y0.toList && ((x1 == y1 && (x2 == y2 && (x3 == y3))) && (x4 == y4 && (x5 == y5 && (x6 == y6 && (x7 == y7 && (x8 == y8))))))) w := by
 refine eqA_of Tryz.underlying90 (by kernel_rfl) ?_
 refine eqf_cons (by rfl) (by go_simp; rfl) (by go_simp; rfl) (by go_simp) ?_
 refine eqf_cons (by rfl) (by go_simp) (by go_simp) (eqA88 (d + 0) w _ _ _ _ _ _) ?_
 refine eqf_cons (by rfl) (by go_simp; rfl) (by go_simp; rfl) (by go_simp) ?_
 refine eqf_cons (by rfl) (by go_simp; rfl) (by go_simp; rfl) (by go_simp) ?_
 refine eqf_cons (by rfl) (by go_simp; rfl) (by go_simp; rfl) (by go_simp) ?_
 refine eqf_cons (by rfl) (by go_simp; rfl) (by go_simp; rfl) (by go_simp) ?_
 exact eqf_last (by rfl) (by go_simp; rfl) (by go_simp; rfl) (by go_simp)
end Go.Proofs.YtjfknmlchdifjaaGreatDoorQ.P
namespace Go.Proofs.YtjfknmlchdifjaaGreatDoorQ.P
open Go.RowKit Go.Proofs.YtjfknmlchdifjaaGreatDoorW.PrintWords Go.Proofs.YtjfknmlchdifjaaGreatDoorW.PrintLast Go.Proofs.YtjfknmlchdifjaaGreatDoorW.PrintMore
attribute [local go_sem] max2_int min2_int max_two min_two max_three min_three max_four min_four
theorem eqA32 (d : Nat) (w : World) (x0 y0 : Int) (x1 y1 : ByteArray) (x2 y2 : ByteArray) :
  (Op.equalIn (d + 2) 32 (.agg #[.int .i64 x0, .string x1, .string x2]) (.agg #[.int .i64 y0, .string y1, .string y2])).run Tryz.prog w = .ok (x0 == y0 && (x1.toList == y1.toList && (x2.toList == y2.toList))) w := by
 refine eqA_of Tryz.underlying32 (by kernel_rfl) ?_
 refine eqf_cons (by rfl) (by go_simp; rfl) (by go_simp; rfl) (by go_simp) ?_
 refine eqf_cons (by rfl) (by go_simp; rfl) (by go_simp; rfl) (by go_simp) ?_
 exact eqf_last (by rfl) (by go_simp; rfl) (by go_simp; rfl) (by go_simp)
end Go.Proofs.YtjfknmlchdifjaaGreatDoorQ.P
