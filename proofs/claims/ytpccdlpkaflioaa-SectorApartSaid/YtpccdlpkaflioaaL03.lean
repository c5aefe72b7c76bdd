/- Helpers of the statements of layer 3: few, alive, stamped. -/
import Derived.Test.YtpccdlpkaflioaaC03r
import Derived.Test.YtpccdlpkaflioaaM05
set_option linter.unusedVariables false
set_option linter.unusedSimpArgs false
namespace Go.Proofs.Ytpccdlpkaflioaa
open Go.RowKit
theorem few03_to (s t : ByteArray) (w : World) (ht : s.size ≤ maxLen) (h : Hid (t = s.extract 0 130)) :
    Calls Try.prog 21 #[.string s] w fun e w' => e = .returned (.string t) ∧ w = w' := by
  rw [h.out]
  clear h
  unfold maxLen at ht
  go_enter Try.func21, Try.ntmps21
  go_wp2
  all_goals
    go_ret
    refine ⟨?_, rfl⟩
    first | rfl | (rw [ext0_all _ _ (by omega)]; rfl)
theorem alive03_any (w : World) :
    Calls Try.prog 25 #[] w fun e w' => e = .returned (.bool true) ∧ Below w.heap.size w w' := by
  obtain ⟨S, hS⟩ : ∃ S, S = ByteArray.mk (sealL 7 3 (bytesOf ⟨#[97, 98, 99]⟩)).toArray := ⟨_, rfl⟩
  obtain ⟨o1, o2, o3, o4, o5⟩ := opened 7 3 ⟨#[97, 98, 99]⟩ (by decide) (by decide) S hS
  have hseal := fun W => seal_ok 7 3 ⟨#[97, 98, 99]⟩ W (by decide) (by decide)
  rw [← hS] at hseal
  have hopen := fun W => open_any S W (by rw [o1]; decide)
  have hpost : ∀ W e W', OpenPost S W e W' → e = .returned (.tuple #[.int .i64 7, .int .i64 3, .string ⟨#[97, 98, 99]⟩, .int .i64 0]) ∧ Below W.heap.size W W' := by
    intro W e W' h
    refine ⟨?_, h.2⟩
    rw [h.1]
    unfold openG openN openP
    rw [if_pos o2, if_pos o2, if_pos o2, o2, o3, o4, o5]
  have HS := Lib.hid hseal
  have HO := Lib.hid hopen
  have HP := Lib.hid hpost
  clear hS o2 o3 o4 o5 hseal hopen hpost
  go_enter Try.func25, Try.ntmps25
  go_wp2_with (first
    | (go_at_call 22; refine (HS.out _).mono ?_; rintro e w1 ⟨rfl, hb1⟩)
    | (go_at_call 23; refine (HO.out _).mono ?_; intro e w2 hq; obtain ⟨rfl, hb2⟩ := HP.out _ _ _ hq; clear hq))
  go_ret
  exact ⟨rfl, bel hb1 hb2⟩
/-- The stamp that is made of any numbers. -/
def stG (x : Int) : Int := 1 + (x.tmod 250 + 250).tmod 250
def stN (x : Int) : Int := (x.tmod 65 + 65).tmod 65
theorem stG_range (x : Int) : 1 ≤ stG x ∧ stG x ≤ 250 := by
  unfold stG
  have h1 := Int.tmod_lt_of_pos x (show (0 : Int) < 250 by omega)
  have h2 := Int.lt_tmod_of_pos x (show (0 : Int) < 250 by omega)
  rw [Int.tmod_eq_emod_of_nonneg (by omega)]
  omega
theorem stN_range (x : Int) : 0 ≤ stN x ∧ stN x ≤ 64 := by
  unfold stN
  have h1 := Int.tmod_lt_of_pos x (show (0 : Int) < 65 by omega)
  have h2 := Int.lt_tmod_of_pos x (show (0 : Int) < 65 by omega)
  rw [Int.tmod_eq_emod_of_nonneg (by omega)]
  omega
theorem st_ok (x y : Int) : stampB (stG x) (stN y) = true := (stampB_iff _ _).2 ⟨stG_range x, stN_range y⟩
theorem stG_walk (x : Int) (hx : (Lit.int .i64 x).wf = true) : wrap64 (1 + (wrap64 (x.tmod 250 + 250)).tmod 250) = stG x := by
  have h1 := Int.tmod_lt_of_pos x (show (0 : Int) < 250 by omega)
  have h2 := Int.lt_tmod_of_pos x (show (0 : Int) < 250 by omega)
  have h3 := stG_range x
  have e : wrap64 (x.tmod 250 + 250) = x.tmod 250 + 250 := by unfold wrap64; omega
  rw [e]
  unfold stG at *
  unfold wrap64
  omega
theorem stN_walk (x : Int) : (wrap64 (x.tmod 65 + 65)).tmod 65 = stN x := by
  have h1 := Int.tmod_lt_of_pos x (show (0 : Int) < 65 by omega)
  have h2 := Int.lt_tmod_of_pos x (show (0 : Int) < 65 by omega)
  have e : wrap64 (x.tmod 65 + 65) = x.tmod 65 + 65 := by unfold wrap64; omega
  rw [e]
  rfl
def cut96 (p : ByteArray) : ByteArray := p.extract 0 96
theorem cut96_size (p : ByteArray) : (cut96 p).size ≤ 96 := by
  unfold cut96
  rw [ByteArray.size_extract]
  omega
theorem stamped_to (gen no g n : Int) (p S : ByteArray) (w : World) (hp : p.size ≤ maxLen) (hg : Hid (stG gen = g)) (hn : Hid (stN no = n)) (hgw : (Lit.int .i64 gen).wf = true) (hS : Hid (S = ⟨(sealL (stG gen) (stN no) (bytesOf (cut96 p))).toArray⟩)) :
    Calls Try.prog 28 #[.int .i64 gen, .int .i64 no, .string p] w fun e w' => e = .returned (.tuple #[.string S, .int .i64 g, .int .i64 n, .bool true]) ∧ Below w.heap.size w w' := by
  obtain ⟨o1, _⟩ := opened _ _ _ (st_ok gen no) (cut96_size p) S hS.out
  have hseal := fun W => seal_ok (stG gen) (stN no) (cut96 p) W (st_ok gen no) (cut96_size p)
  rw [← hS.out, hg.out, hn.out] at hseal
  have HS := Lib.hid hseal
  clear hseal
  have e1 := stG_walk gen hgw
  have e2 := stN_walk no
  rw [hg.out] at e1
  rw [hn.out] at e2
  have HS2 : Hid (p.size ≤ 96 → ∀ W, Calls Try.prog 22 #[.int .i64 g, .int .i64 n, .string p] W fun e w' => e = .returned (.tuple #[.string S, .int .i64 0]) ∧ Below W.heap.size W w') := by
    intro h
    have := HS.out
    rwa [show cut96 p = p from ext0_all p 96 h] at this
  have HS1 : Hid (∀ W, Calls Try.prog 22 #[.int .i64 g, .int .i64 n, .string (p.extract 0 96)] W fun e w' => e = .returned (.tuple #[.string S, .int .i64 0]) ∧ Below W.heap.size W w') := HS.out
  clear HS
  unfold maxLen at hp
  go_enter Try.func28, Try.ntmps28
  go_wp2_with fail
  · refine (HS1.out _).mono ?_
    rintro e w1 ⟨rfl, hb1⟩
    go_wp2
    (try simp only [Exit.inBlock, Exit.then]); refine bodyPost_ret (results_tmp4 rfl _ _ _) rfl ?_
    exact ⟨rfl, hb1⟩
  · refine (HS2.out (by omega) _).mono ?_
    rintro e w1 ⟨rfl, hb1⟩
    go_wp2
    (try simp only [Exit.inBlock, Exit.then]); refine bodyPost_ret (results_tmp4 rfl _ _ _) rfl ?_
    exact ⟨rfl, hb1⟩
theorem stamped_len {g n : Int} {p S : ByteArray} (hS : S = ⟨(sealL (stG g) (stN n) (bytesOf (cut96 p))).toArray⟩) : S.size = 128 := (opened _ _ _ (st_ok g n) (cut96_size p) S hS).1
end Go.Proofs.Ytpccdlpkaflioaa
