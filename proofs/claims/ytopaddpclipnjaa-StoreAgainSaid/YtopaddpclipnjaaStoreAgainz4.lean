/- The statement 'StoreAgain': for every input the law returns true, and each argument reads behind the call as it read before. No condition. -/
import Derived.WideShapes
import Derived.Test.YtopaddpclipnjaaRows
import Derived.WalkKit
import Derived.ProofKit
import Derived.OpenShut
import Derived.ShutString
import Derived.Below
import Derived.Carry
import Derived.Test.YtopaddpclipnjaaStoreAgainz1
import Derived.Test.YtopaddpclipnjaaStoreAgainz2
import Derived.Test.YtopaddpclipnjaaStoreAgainz3
set_option linter.unusedVariables false
set_option linter.unusedSimpArgs false
namespace Go.Proofs.YtopaddpclipnjaaQ.P
open Go.RowKit Go.Proofs.YtopaddpclipnjaaW.PrintWords Go.Proofs.YtopaddpclipnjaaW.PrintLast Go.Proofs.YtopaddpclipnjaaW.PrintMore
attribute [local go_sem] max2_int min2_int max_two min_two max_three min_three max_four min_four
def foghornref04_Texts.l0 : Nat → List ByteArray → List ByteArray → Int → Int → Option (Bool)
 | 0, _, _, _, _ => none
 | k + 1, x0, x1, x12, x13 => if x13 < x12 then (if 0 ≤ x13 then (if x13 < (x0.length : Int) then (if x13 < (x1.length : Int) then (if (rdOf ByteArray.empty x0 x13).toList = (rdOf ByteArray.empty x1 x13).toList then (foghornref04_Texts.l0 k x0 x1 x12 (wrap64 (x13 + 1))) else (some false)) else (none)) else (none)) else (none)) else (some true)
def foghornref04_Texts.f (k : Nat) (l0 : List ByteArray) (l1 : List ByteArray) : Option (Bool) := if (l0.length : Int) = (l1.length : Int) then (foghornref04_Texts.l0 k l0 l1 (l0.length : Int) 0) else (some false)
theorem foghornref04_Texts.mono_l : ∀ k, (∀ y0 y1 y2 y3, LeO (foghornref04_Texts.l0 k y0 y1 y2 y3) (foghornref04_Texts.l0 (k + 1) y0 y1 y2 y3))
 | 0 => fun _ _ _ _ r h => by simp [foghornref04_Texts.l0] at h
 | k + 1 => by
  have ih0 := foghornref04_Texts.mono_l k
  ·intro y0 y1 y2 y3
   unfold foghornref04_Texts.l0
   repeat' first
   | (with_reducible exact ih0 _ _ _ _)
   | (with_reducible exact LeO.refl _)
   | (with_reducible exact LeO.none _)
   | (with_reducible refine LeO.ite ?_ ?_)
   | (with_reducible refine LeO.bind ?_ (fun _ => ?_))
   | exact ih0 _ _ _ _
   | exact LeO.none _
   | refine LeO.ite ?_ ?_
   | refine LeO.bind ?_ (fun _ => ?_)
set_option maxHeartbeats 8000000 in
set_option maxRecDepth 100000 in
theorem foghornref04_Texts.calls (k : Nat) (A0 : Option Addr) (c0 : Nat) (l0 : List ByteArray) (A1 : Option Addr) (c1 : Nat) (l1 : List ByteArray) (r : Bool) (w : World) (hr0 : Kd.C Kd.string w A0 l0.length l0) (hc0 : l0.length ≤ c0) (hr1 : Kd.C Kd.string w A1 l1.length l1) (hc1 : l1.length ≤ c1) (h : foghornref04_Texts.f k l0 l1 = some r) :
  Calls Try.prog 20 #[.slice A0 l0.length c0, .slice A1 l1.length c1] w fun e w' => e = .returned (.bool r) ∧ Drawn0 w w' := by
 have HR0 := aA hr0
 have HC0 := aA hc0
 clear hr0 hc0
 have HR1 := aA hr1
 have HC1 := aA hc1
 clear hr1 hc1
 have H : (if (l0.length : Int) = (l1.length : Int) then (foghornref04_Texts.l0 k l0 l1 (l0.length : Int) 0) else (some false)) = some r := h
 clear h
 by_cases c3 : (l0.length : Int) = (l1.length : Int)
 ·rw [if_pos c3] at H
  have c3b0 : ((l0.length : Int) == (l1.length : Int)) = true := beq_iff_eq.mpr c3
  have c3b1 : ((l0.length : Int) != (l1.length : Int)) = false := bne_eq_false_iff_eq.mpr c3
  have c3b2 : (l0.length == l1.length) = true := by first | simpa using c3 | (simp at c3 ⊢; omega)
  clear c3
  have H' := aA H
  clear H
  go_enter Try.func20, Try.ntmps20
  go_wp2
  repeat (go_quiet (fail); try go_wp2)
  go_loopg [13] k (fun kq v13 w' => ∃ (x13_1 : Int), v13 = .int .i64 x13_1 ∧ Aside0 (foghornref04_Texts.l0 kq l0 l1 (l0.length : Int) x13_1 = some r) ∧ Aside0 (kq ≤ k) ∧ Drawn0 w w')
  case atStart => exact ⟨(0), (by first | rfl | (simp; done) | (simp [*]; done)), H', ⟨Nat.le_refl _⟩, by repeat (first | exact Drawn0.refl _ | apply Drawn0.step)⟩
  case round =>
   clear H'
   try clear c1
   try clear c2
   try clear p2
   try clear c3
   try clear c3b0
   try clear c3b1
   try clear c3b2
   obtain ⟨x13_1, rfl, HA, HK1, ⟨m1, rfl⟩⟩ := hrel
   cases gk with
   | zero => exact absurd HA.out (by simp [foghornref04_Texts.l0])
   | succ k1 =>
    have H := HA.out
    clear HA
    simp only [foghornref04_Texts.l0] at H
    by_cases c4 : x13_1 < (l0.length : Int)
    ·rw [if_pos c4] at H
     have c4b0 : decide (x13_1 < (l0.length : Int)) = true := decide_eq_true c4
     clear c4
     by_cases c5 : 0 ≤ x13_1
     ·rw [if_pos c5] at H
      have c5b0 : decide (0 ≤ x13_1) = true := decide_eq_true c5
      clear c5
      by_cases c6 : x13_1 < (l0.length : Int)
      ·rw [if_pos c6] at H
       have c6b0 : decide (x13_1 < (l0.length : Int)) = true := decide_eq_true c6
       clear c6
       by_cases c7 : x13_1 < (l1.length : Int)
       ·rw [if_pos c7] at H
        have c7b0 : decide (x13_1 < (l1.length : Int)) = true := decide_eq_true c7
        clear c7
        by_cases c8 : (rdOf ByteArray.empty l0 x13_1).toList = (rdOf ByteArray.empty l1 x13_1).toList
        ·rw [if_pos c8] at H
         have c8b0 : ((rdOf ByteArray.empty l0 x13_1).toList == (rdOf ByteArray.empty l1 x13_1).toList) = true := beq_iff_eq.mpr c8
         have c8b1 : ((rdOf ByteArray.empty l0 x13_1).toList != (rdOf ByteArray.empty l1 x13_1).toList) = false := bne_eq_false_iff_eq.mpr c8
         clear c8
         have H' := aA H
         clear H
         have p272 : 0 ≤ (x13_1 : Int) := of_decide_eq_true (by first | (with_reducible assumption) | assumption)
         have q272 : x13_1 < (l0.length : Int) := of_decide_eq_true (by first | (with_reducible assumption) | assumption)
         obtain ⟨ad272, e272, hx272_0⟩ := Kd.at_string HR0.out x13_1 p272 q272
         cases e272
         replace p272 := eq_true p272
         replace q272 := eq_true q272
         have p273 : 0 ≤ (x13_1 : Int) := of_decide_eq_true (by first | (with_reducible assumption) | assumption)
         have q273 : x13_1 < (l1.length : Int) := of_decide_eq_true (by first | (with_reducible assumption) | assumption)
         obtain ⟨ad273, e273, hx273_0⟩ := Kd.at_string HR1.out x13_1 p273 q273
         cases e273
         replace p273 := eq_true p273
         replace q273 := eq_true q273
         go_wp2
         repeat (go_quiet (fail); try go_wp2)
         go_roundg k1
         case measure => have := HK1.out; omega
         case rel => exact ⟨(wrap64 (x13_1 + 1)), (by first | rfl | (simp; done) | (simp [*]; done)), H', ⟨by have := HK1.out; omega⟩, by repeat (first | exact Drawn0.refl _ | apply Drawn0.step)⟩
        ·rw [if_neg c8] at H
         have c8b0 : ((rdOf ByteArray.empty l0 x13_1).toList == (rdOf ByteArray.empty l1 x13_1).toList) = false := beq_eq_false_iff_ne.mpr c8
         have c8b1 : ((rdOf ByteArray.empty l0 x13_1).toList != (rdOf ByteArray.empty l1 x13_1).toList) = true := bne_iff_ne.mpr c8
         obtain rfl := Option.some.inj H
         have p272 : 0 ≤ (x13_1 : Int) := of_decide_eq_true (by first | (with_reducible assumption) | assumption)
         have q272 : x13_1 < (l0.length : Int) := of_decide_eq_true (by first | (with_reducible assumption) | assumption)
         obtain ⟨ad272, e272, hx272_0⟩ := Kd.at_string HR0.out x13_1 p272 q272
         cases e272
         replace p272 := eq_true p272
         replace q272 := eq_true q272
         have p273 : 0 ≤ (x13_1 : Int) := of_decide_eq_true (by first | (with_reducible assumption) | assumption)
         have q273 : x13_1 < (l1.length : Int) := of_decide_eq_true (by first | (with_reducible assumption) | assumption)
         obtain ⟨ad273, e273, hx273_0⟩ := Kd.at_string HR1.out x13_1 p273 q273
         cases e273
         replace p273 := eq_true p273
         replace q273 := eq_true q273
         go_wp2
         repeat (go_quiet (fail); try go_wp2)
         go_ret
         exact ⟨by first | rfl | (simp; done) | (simp [*]; done), by repeat (first | exact Drawn0.refl _ | apply Drawn0.step)⟩
       ·rw [if_neg c7] at H
        exact absurd H (by simp)
      ·rw [if_neg c6] at H
       exact absurd H (by simp)
     ·rw [if_neg c5] at H
      exact absurd H (by simp)
    ·rw [if_neg c4] at H
     have c4b0 : decide (x13_1 < (l0.length : Int)) = false := decide_eq_false c4
     clear c4
     obtain rfl := Option.some.inj H
     go_wp2
     repeat (go_quiet (fail); try go_wp2)
     go_ret
     exact ⟨by first | rfl | (simp; done) | (simp [*]; done), by repeat (first | exact Drawn0.refl _ | apply Drawn0.step)⟩
 ·rw [if_neg c3] at H
  have c3b0 : ((l0.length : Int) == (l1.length : Int)) = false := beq_eq_false_iff_ne.mpr c3
  have c3b1 : ((l0.length : Int) != (l1.length : Int)) = true := bne_iff_ne.mpr c3
  have c3b2 : (l0.length == l1.length) = false := by first | simpa using c3 | (simp at c3 ⊢; omega)
  obtain rfl := Option.some.inj H
  go_enter Try.func20, Try.ntmps20
  go_wp2
  repeat (go_quiet (fail); try go_wp2)
  go_ret
  exact ⟨by first | rfl | (simp; done) | (simp [*]; done), by repeat (first | exact Drawn0.refl _ | apply Drawn0.step)⟩
end Go.Proofs.YtopaddpclipnjaaQ.P
namespace Go.Proofs.Ytopaddpclipnjaa
open Go.RowKit Go.Proofs.YtopaddpclipnjaaW.PrintWords Go.Proofs.YtopaddpclipnjaaW.PrintMore
theorem w64 {x : Int} (h0 : -9223372036854775808 ≤ x) (h1 : x ≤ 9223372036854775807) : wrap64 x = x := by unfold wrap64; omega
theorem w64s {i : Nat} (h : i < 9223372036854775807) : wrap64 ((i : Int) + 1) = ((i + 1 : Nat) : Int) := by rw [w64 (by omega) (by omega)]; omega
theorem drop_cons {α : Type} {xs : List α} {i : Nat} (h : i < xs.length) : xs.drop i = xs[i] :: xs.drop (i + 1) := List.drop_eq_getElem_cons h
theorem drop_end {α : Type} {xs : List α} {i : Nat} (h : xs.length ≤ i) : xs.drop i = [] := List.drop_eq_nil_of_le h
theorem mn_eq (a b : Int) : mn a b = min a b := by unfold mn; omega
theorem mx_eq (a b : Int) : mx a b = max a b := by unfold mx; omega
def cutB (n : Nat) (x : ByteArray) : ByteArray := x.extract 0 n
theorem cutB_mn (n : Nat) (m : Int) (x : ByteArray) (hm : m = n) : x.extract 0 (mn (x.size : Int) m).toNat = cutB n x := by
  subst hm
  unfold cutB
  rw [mn_eq]
  apply ByteArray.ext
  rw [ByteArray.data_extract, ByteArray.data_extract]
  rcases Nat.le_total x.size n with h | h
  · rw [show (min (x.size : Int) n).toNat = x.size by omega]
    rw [Array.extract_eq_self_of_le (show x.data.size ≤ x.size from Nat.le_refl _), Array.extract_eq_self_of_le (show x.data.size ≤ n from h)]
  · rw [show (min (x.size : Int) n).toNat = n by omega]
theorem take_mn {α : Type} (n : Nat) (m : Int) (xs : List α) (hm : m = n) : xs.take (mn (xs.length : Int) m).toNat = xs.take n := by
  subst hm
  rw [mn_eq]
  rcases Nat.le_total xs.length n with h | h
  · rw [List.take_of_length_le (by omega), List.take_of_length_le h]
  · rw [show (min (xs.length : Int) n).toNat = n by omega]
end Go.Proofs.Ytopaddpclipnjaa
namespace Go.Proofs.YtopaddpclipnjaaQ.P
open Go.RowKit Go.Proofs.YtopaddpclipnjaaW.PrintWords Go.Proofs.YtopaddpclipnjaaW.PrintMore Go.Proofs.Ytopaddpclipnjaa
theorem rd_sec (xs : List ByteArray) (i : Int) : rdOf ByteArray.empty xs i = sec xs i := rfl
theorem rd_at {xs : List ByteArray} {i : Nat} (h : i < xs.length) : rdOf ByteArray.empty xs i = xs[i] := sec_get h
theorem bytes_list' {a b : ByteArray} : a.toList = b.toList ↔ a = b := ⟨fun h => bytes_of_eq (by rw [h]; exact beq_self_eq_true _), fun h => by rw [h]⟩
theorem texts_l (xs ys : List ByteArray) (hl : xs.length = ys.length) (hb : xs.length < 1000000) (d : Nat) : ∀ (k i : Nat), i + d = xs.length → d < k →
    foghornref04_Texts.l0 k xs ys (xs.length : Int) i = some (decide (xs.drop i = ys.drop i)) := by
  induction d with
  | zero =>
    intro k i h hk
    obtain ⟨k, rfl⟩ : ∃ m, k = m + 1 := ⟨k - 1, by omega⟩
    simp only [foghornref04_Texts.l0]
    rw [if_neg (by omega), drop_end (by omega), drop_end (by omega)]
    simp
  | succ d ih =>
    intro k i h hk
    obtain ⟨k, rfl⟩ : ∃ m, k = m + 1 := ⟨k - 1, by omega⟩
    have hi : i < xs.length := by omega
    have hj : i < ys.length := by omega
    simp only [foghornref04_Texts.l0]
    rw [if_pos (by omega), if_pos (by omega), if_pos (by omega), if_pos (by omega), rd_at hi, rd_at hj, w64s (by omega), ih k (i + 1) (by omega) (by omega), drop_cons hi, drop_cons hj]
    by_cases h1 : xs[i] = ys[i]
    · rw [if_pos (by rw [h1])]
      simp only [List.cons.injEq, h1, true_and]
    · rw [if_neg (fun h => h1 (bytes_list'.1 h))]
      simp only [List.cons.injEq, h1, false_and, decide_false]
theorem texts_f (xs ys : List ByteArray) (hb : xs.length < 1000000) {k : Nat} (hk : xs.length < k) : foghornref04_Texts.f k xs ys = some (decide (xs = ys)) := by
  unfold foghornref04_Texts.f
  by_cases h : xs.length = ys.length
  · rw [if_pos (by omega), show (0 : Int) = ((0 : Nat) : Int) from rfl, texts_l xs ys h hb xs.length k 0 (by omega) (by omega)]
    simp
  · rw [if_neg (by omega)]
    have : xs ≠ ys := fun e => h (by rw [e])
    simp [this]
theorem dsame_l (xs ys : List ByteArray) (hl : xs.length = ys.length) (hb : xs.length < 1000000) (d : Nat) : ∀ (k i : Nat), i + d = xs.length → d < k →
    foghornref02_Same.l0 k (xs.length : Int) i xs ys = some (decide (xs.drop i = ys.drop i)) := by
  induction d with
  | zero =>
    intro k i h hk
    obtain ⟨k, rfl⟩ : ∃ m, k = m + 1 := ⟨k - 1, by omega⟩
    simp only [foghornref02_Same.l0]
    rw [if_neg (by omega), drop_end (by omega), drop_end (by omega)]
    simp
  | succ d ih =>
    intro k i h hk
    obtain ⟨k, rfl⟩ : ∃ m, k = m + 1 := ⟨k - 1, by omega⟩
    have hi : i < xs.length := by omega
    have hj : i < ys.length := by omega
    simp only [foghornref02_Same.l0]
    rw [if_pos (by omega), if_pos (by omega), if_pos (by omega), if_pos (by omega), rd_at hi, rd_at hj, w64s (by omega), ih k (i + 1) (by omega) (by omega), drop_cons hi, drop_cons hj]
    by_cases h1 : xs[i] = ys[i]
    · rw [if_pos (by rw [h1])]
      simp only [List.cons.injEq, h1, true_and]
    · rw [if_neg (fun h => h1 (bytes_list'.1 h))]
      simp only [List.cons.injEq, h1, false_and, decide_false]
theorem dsame_f (xs ys : List ByteArray) (hb : xs.length < 1000000) {k : Nat} (hk : xs.length < k) : foghornref02_Same.f k xs ys = some (decide (xs = ys)) := by
  unfold foghornref02_Same.f
  by_cases h : xs.length = ys.length
  · rw [if_pos (by omega), show (0 : Int) = ((0 : Nat) : Int) from rfl, dsame_l xs ys h hb xs.length k 0 (by omega) (by omega)]
    simp
  · rw [if_neg (by omega)]
    have : xs ≠ ys := fun e => h (by rw [e])
    simp [this]
theorem few_l (xs : List ByteArray) (hx : xs.length ≤ 1000) (d : Nat) : ∀ (k i : Nat) (acc : List ByteArray), i + d = xs.length → d < k → acc.length ≤ i → foghornlaw04_few.l0 k acc xs (xs.length : Int) i = some (acc ++ (xs.drop i).map (cutB 130)) := by
  induction d with
  | zero =>
    intro k i acc h hk ha
    obtain ⟨k, rfl⟩ : ∃ m, k = m + 1 := ⟨k - 1, by omega⟩
    simp only [foghornlaw04_few.l0]
    rw [if_neg (by omega), drop_end (by omega)]
    simp
  | succ d ih =>
    intro k i acc h hk ha
    obtain ⟨k, rfl⟩ : ∃ m, k = m + 1 := ⟨k - 1, by omega⟩
    have hi : i < xs.length := by omega
    simp only [foghornlaw04_few.l0]
    have e1 := mn_eq ((xs[i]).size : Int) 130
    rw [rd_at hi, if_pos (by omega), if_pos (by omega), if_pos (by omega), if_pos (by omega), if_pos (by omega), if_pos (by omega), w64s (by omega), ih k (i + 1) _ (by omega) (by omega) (by simp; omega), drop_cons hi, cutB_mn 130 130 _ rfl]
    simp only [List.map_cons, List.append_assoc, List.singleton_append]
theorem few_f (xs : List ByteArray) (n : Nat) (hn : n ≤ 1000) {k : Nat} (hk : n < k) : foghornlaw04_few.f k xs (n : Int) = some ((xs.take n).map (cutB 130)) := by
  unfold foghornlaw04_few.f
  have e1 := mn_eq (xs.length : Int) n
  rw [if_pos (by omega), if_pos (by omega), take_mn n n _ rfl]
  have hl : (xs.take n).length ≤ n := List.length_take_le _ _
  have := few_l (xs.take n) (by omega) (xs.take n).length k 0 [] (by omega) (by omega) (by simp)
  simpa using this
def cutD (xs : List ByteArray) : List ByteArray := (xs.take 132).map (cutB 130)
theorem cutD_len (xs : List ByteArray) : (cutD xs).length ≤ 132 := by
  unfold cutD
  rw [List.length_map]
  exact List.length_take_le _ _
end Go.Proofs.YtopaddpclipnjaaQ.P
namespace Go.Proofs.YtopaddpclipnjaaQ.P
open Go.RowKit Go.Proofs.YtopaddpclipnjaaW.PrintWords Go.Proofs.YtopaddpclipnjaaW.PrintMore Go.Proofs.Ytopaddpclipnjaa
theorem area_f {xs : List ByteArray} (hl : xs.length ≤ 9223372036854775807) : store_area.f xs = some (areaD xs) := by
  unfold store_area.f areaD
  congr 1
  unfold wrap64
  omega
theorem tmod2 {g : Int} (h : 0 ≤ g) : Int.tmod g 2 = g % 2 := Int.tmod_eq_emod_of_nonneg h
theorem place_f {xs : List ByteArray} (hl : xs.length ≤ 1000) {g i : Int} (g0 : 0 ≤ g) (i0 : 0 ≤ i) (i1 : i ≤ 1000) : store_place.f xs g i = some (placeD xs g i) := by
  unfold store_place.f placeD
  rw [area_f (by omega), Option.bind_some, tmod2 g0]
  congr 1
  have ha : -1 ≤ areaD xs ∧ areaD xs ≤ 500 := by unfold areaD; omega
  obtain ⟨A, hA⟩ : ∃ A, A = areaD xs := ⟨_, rfl⟩
  rw [← hA] at ha ⊢
  rcases (by omega : g % 2 = 0 ∨ g % 2 = 1) with e | e <;> rw [e] <;> unfold wrap64 <;> omega
theorem open_f {x : ByteArray} (h : x.size = 128) : openF x = some (openG x, openN x, openP x, openE x) := by
  unfold openF
  rw [if_pos (by unfold maxLen; omega)]
theorem sopen_f {x : ByteArray} (h : x.size = 128) : seal_Open.f x = some (openG x, openN x, openP x, openE x) := open_f h
theorem boot_l1 {xs : List ByteArray} (hlog : logB xs = true) {G T : Int} (g0 : 0 ≤ G) (d : Nat) : ∀ (k i : Nat) (acc : List ByteArray), (i : Int) + d = areaD xs → d < k → acc.length ≤ i →
    store_Boot.l1 k acc xs xs G i T false = some (xs, G, ((i + (foundD xs G d i).length : Nat) : Int), T, false, acc ++ foundD xs G d i, 0) := by
  obtain ⟨n1, n2, _, hsz, _, _, hlen, a1, a2⟩ := logB_nums hlog
  induction d with
  | zero =>
    intro k i acc h hk ha
    obtain ⟨k, rfl⟩ : ∃ m, k = m + 1 := ⟨k - 1, by omega⟩
    simp only [store_Boot.l1]
    rw [area_f (by omega), Option.bind_some, if_neg (by omega)]
    simp [foundD]
  | succ d ih =>
    intro k i acc h hk ha
    obtain ⟨k, rfl⟩ : ∃ m, k = m + 1 := ⟨k - 1, by omega⟩
    have hp := placeD_in hlog (g := G) (i := i) (by omega) (by omega)
    simp only [store_Boot.l1]
    rw [area_f (by omega), Option.bind_some, if_pos (by omega), place_f (by omega) g0 (by omega) (by omega), Option.bind_some, if_pos (by omega), if_pos (by omega), rd_sec, sopen_f (sec_size hlog (by omega) (by omega)), Option.bind_some, w64s (by omega)]
    simp only
    unfold foundD
    by_cases h1 : openE (sec xs (placeD xs G i)) = 0
    · by_cases h2 : openG (sec xs (placeD xs G i)) = G
      · by_cases h3 : openN (sec xs (placeD xs G i)) = ((i + 1 : Nat) : Int)
        · rw [if_pos h1, if_pos h2, if_pos h3, if_pos (by omega), ih k (i + 1) _ (by omega) (by omega) (by simp; omega), if_pos ⟨h1, h2, by rw [h3]; omega⟩]
          simp only [List.append_assoc, List.singleton_append, List.length_cons, Option.some.injEq, Prod.mk.injEq, true_and, and_true]
          omega
        · rw [if_pos h1, if_pos h2, if_neg h3, if_neg (fun h => h3 (by rw [h.2.2]; omega))]
          simp
      · rw [if_pos h1, if_neg h2, if_neg (fun h => h2 h.2.1)]
        simp
    · rw [if_neg h1, if_neg (fun h => h1 h.1)]
      simp
def genFrom (i : Nat) (m : Int) : List ByteArray → Int
  | [] => m
  | x :: xs => genFrom (i + 1) (if i < 2 then max m (hdrG x i) else m) xs
theorem genFrom_late (xs : List ByteArray) : ∀ i m, 2 ≤ i → genFrom i m xs = m := by
  induction xs with
  | nil => intro i m _; rfl
  | cons x xs ih =>
    intro i m h
    unfold genFrom
    rw [if_neg (by omega)]
    exact ih _ _ (by omega)
theorem genFrom_all {xs : List ByteArray} (h : 2 ≤ xs.length) : genFrom 0 0 xs = newestD xs := by
  match xs, h with
  | x :: y :: xs, _ =>
    unfold genFrom genFrom
    rw [genFrom_late xs _ _ (by omega)]
    unfold newestD sec
    have := (hdrG_range x 0).1
    simp
    omega
theorem nil_list : (⟨#[]⟩ : ByteArray).toList = ([] : List UInt8) := by
  rw [ByteArray.toList_eq]
theorem hdr_step {x : ByteArray} {i : Nat} {m : Int} (hi : i < 2) (hm : 0 ≤ m) {α : Type} (f : Int → α) :
    (if openE x = 0 then (if (i : Int) = openG x % 2 then (if openN x = 0 then (if (openP x).toList = ([] : List UInt8) then f (max m (openG x)) else f m) else f m) else f m) else f m) = f (max m (hdrG x i)) := by
  unfold hdrG
  by_cases h1 : openE x = 0
  · by_cases h2 : (i : Int) = openG x % 2
    · by_cases h3 : openN x = 0
      · by_cases h4 : openP x = ⟨#[]⟩
        · rw [if_pos h1, if_pos h2, if_pos h3, if_pos (by rw [h4]; exact nil_list), if_pos ⟨h1, h2.symm, h3, h4⟩]
        · rw [if_pos h1, if_pos h2, if_pos h3, if_neg (fun h => h4 (bytes_list'.1 (h.trans nil_list.symm))), if_neg (fun h => h4 h.2.2.2), Int.max_eq_left hm]
      · rw [if_pos h1, if_pos h2, if_neg h3, if_neg (fun h => h3 h.2.2.1), Int.max_eq_left hm]
    · rw [if_pos h1, if_neg h2, if_neg (fun h => h2 h.2.1.symm), Int.max_eq_left hm]
  · rw [if_neg h1, if_neg (fun h => h1 h.1), Int.max_eq_left hm]
theorem bt_at8 {x : ByteArray} (h : x.size = 128) : wrap64 (bt x 0) = at8 x 0 := by
  have hr := at8_range x 0
  have : bt x 0 = at8 x 0 := by
    unfold bt at8
    rw [dif_pos (show (0 : Int).toNat < x.size by rw [h]; decide), List.getD_eq_getElem?_getD, List.getElem?_eq_getElem (by rw [len_data, h]; omega)]
    rfl
  rw [this]
  unfold wrap64
  omega
theorem boot_l0 {xs : List ByteArray} (hlog : logB xs = true) (d : Nat) : ∀ (k i : Nat) (m t : Int), i + d = xs.length → d + 70 < k → 0 ≤ m →
    store_Boot.l0 k xs (xs.length : Int) i xs xs m 0 t false = (if genFrom i m (xs.drop i) = 0 then some ([], 0, 0, 0, false, [], 4) else some (xs, genFrom i m (xs.drop i), ((foundA xs (genFrom i m (xs.drop i))).length : Int), topF t (xs.drop i), false, foundA xs (genFrom i m (xs.drop i)), 0)) := by
  obtain ⟨n1, n2, _, hsz, _, _, hlen, a1, a2⟩ := logB_nums hlog
  induction d with
  | zero =>
    intro k i m t h hk hm
    obtain ⟨k, rfl⟩ : ∃ m, k = m + 1 := ⟨k - 1, by omega⟩
    simp only [store_Boot.l0]
    rw [if_neg (by omega), drop_end (by omega)]
    unfold genFrom topF
    simp only [List.foldl_nil]
    by_cases h0 : m = 0
    · rw [if_pos h0, if_pos h0]
    · rw [if_neg h0, if_neg h0, show (0 : Int) = ((0 : Nat) : Int) from rfl, boot_l1 hlog hm (areaD xs).toNat k 0 [] (by omega) (by omega) (by simp)]
      simp [foundA]
  | succ d ih =>
    intro k i m t h hk hm
    obtain ⟨k, rfl⟩ : ∃ m, k = m + 1 := ⟨k - 1, by omega⟩
    have hi : i < xs.length := by omega
    have hs : (sec xs i).size = 128 := sec_size hlog (by omega) (by omega)
    simp only [store_Boot.l0]
    rw [if_pos (by omega), if_pos (by omega), if_pos (by omega), rd_sec, if_pos (by rw [hs]; decide), sopen_f hs, Option.bind_some, Option.bind_some, w64s (by omega), bt_at8 hs]
    simp only
    rw [tmod2 (openG_range _).1]
    simp only [mx_eq]
    have hd : xs.drop i = sec xs i :: xs.drop (i + 1) := by rw [sec_get hi]; exact drop_cons hi
    have hg : genFrom i m (xs.drop i) = genFrom (i + 1) (if i < 2 then max m (hdrG (sec xs i) i) else m) (xs.drop (i + 1)) := by rw [hd]; rfl
    have ht : topF t (xs.drop i) = topF (topStep t (sec xs i)) (xs.drop (i + 1)) := by rw [hd]; rfl
    rw [hg, ht]
    have hmn : 0 ≤ (if i < 2 then max m (hdrG (sec xs i) i) else m) := by split <;> omega
    rw [← ih k (i + 1) _ _ (by omega) (by omega) hmn]
    by_cases h2 : i < 2
    · have e := fun (T : Int) => hdr_step (x := sec xs i) h2 hm (fun M => store_Boot.l0 k xs (xs.length : Int) ((i + 1 : Nat) : Int) xs xs M 0 T false)
      rw [if_pos h2, ← e]
      have c2 : (i : Int) < 2 := by omega
      unfold topStep
      by_cases hb : at8 (sec xs i) 0 ≤ 250
      · rw [if_pos hb, if_pos hb, if_pos c2]
      · rw [if_neg hb, if_neg hb, if_pos c2]
    · rw [if_neg h2]
      have c2 : ¬ (i : Int) < 2 := by omega
      unfold topStep
      by_cases hb : at8 (sec xs i) 0 ≤ 250
      · rw [if_pos hb, if_pos hb, if_neg c2]
        split <;> rfl
      · rw [if_neg hb, if_neg hb, if_neg c2]
        split <;> rfl
def bootOut (r : Sto × List ByteArray × Int) : List ByteArray × Int × Int × Int × Bool × List ByteArray × Int := (r.1.xs, r.1.gen, r.1.used, r.1.top, r.1.down, r.2.1, r.2.2)
theorem log_f {xs : List ByteArray} (hl : xs.length ≤ 1000000) : store_hasLog.f xs = some (logB xs) := by
  unfold store_hasLog.f sector_Right.f logB
  cases rightD xs
  · rfl
  · rw [Option.bind_some, if_pos rfl, Bool.true_and]
    congr 1
theorem boot_f (xs : List ByteArray) (hl : xs.length ≤ 1000000) {k : Nat} (hk : 210 < k) : store_Boot.f k xs = some (bootOut (bootS xs)) := by
  unfold store_Boot.f bootS
  rw [log_f hl, Option.bind_some]
  cases hlog : logB xs
  · rfl
  · have := logB_nums hlog
    have hb := boot_l0 hlog xs.length k 0 0 0 (by omega) (by omega) (by omega)
    rw [List.drop_zero, genFrom_all (by omega)] at hb
    rw [if_pos rfl]
    show store_Boot.l0 k xs (xs.length : Int) ((0 : Nat) : Int) xs xs 0 0 0 false = _
    rw [hb]
    by_cases h : newestD xs = 0
    · rw [if_pos h, if_neg (by simp), if_pos h]
      rfl
    · rw [if_neg h, if_neg (by simp), if_neg h]
      rfl
end Go.Proofs.YtopaddpclipnjaaQ.P
namespace Go.Proofs.YtopaddpclipnjaaQ.P
open Go.RowKit Go.Proofs.YtopaddpclipnjaaW.PrintWords Go.Proofs.YtopaddpclipnjaaW.PrintMore Go.Proofs.Ytopaddpclipnjaa
def goodN (n : Int) : Prop := 10 ≤ n ∧ n ≤ 130 ∧ n % 2 = 0
instance (n : Int) : Decidable (goodN n) := by unfold goodN; infer_instance
theorem new_f (n : Int) {k : Nat} (hk : 1 < k) : store_New.f k n = stoOut (if goodN n then (new0 n, 0) else (Sto.zero, 2)) := by
  obtain ⟨k, rfl⟩ : ∃ m, k = m + 1 := ⟨k - 1, by omega⟩
  unfold store_New.f sector_New.f newE
  rw [Option.bind_some]
  simp only
  by_cases h : 10 ≤ n ∧ n ≤ 130
  · rw [if_pos h, if_pos rfl]
    simp only [store_New.j0]
    rw [show Int.tmod n 2 = n % 2 from Int.tmod_eq_emod_of_nonneg (by omega)]
    by_cases h2 : n % 2 = 0
    · rw [if_neg (by simp [h2]), if_pos (show goodN n from ⟨h.1, h.2, h2⟩)]
      rfl
    · rw [if_pos (by simp [h2]), if_neg (fun hh : goodN n => h2 hh.2.2)]
      rfl
  · rw [if_neg h, if_neg (by omega), if_neg (fun hh : goodN n => h ⟨hh.1, hh.2.1⟩)]
    simp only [store_New.j0]
    rfl
theorem app_f (s : Sto) (p : ByteArray) (f : Flt) : store_Append.f s.xs s.gen s.used s.top s.down p f.kind f.k = stoOut (appendS s p f) := rfl
theorem alive_f {k : Nat} (hk : 300 < k) : foghornlaw04_alive.f k = some true := by
  unfold foghornlaw04_alive.f
  have h0 : Has (new0 10) [] := has_new (by omega) (by omega) (by omega)
  rw [new_f 10 (by omega), if_pos (by decide)]
  unfold stoOut
  rw [Option.bind_some]
  simp only
  have ha := app_f (new0 10) ⟨#[97]⟩ ⟨0, 0⟩
  rcases h0.append (p := ⟨#[97]⟩) (f := ⟨0, 0⟩) (by decide) (by decide) with ⟨_, e⟩ | ⟨_, e, c⟩
  · have := (logB_nums h0.inv.log).2.2.2.2.2.2.2.1
    simp at e
    omega
  · rw [e] at ha
    rcases c with ⟨k1, _⟩ | ⟨k1, _⟩ | ⟨_, ys, ey, I⟩
    · exact absurd k1 (by decide)
    · exact absurd k1 (by decide)
    · rw [ey] at ha
      rw [show store_Append.f (new0 10).xs (new0 10).gen (new0 10).used (new0 10).top (new0 10).down ⟨#[97]⟩ 0 0 = _ from ha]
      unfold stoOut
      rw [Option.bind_some]
      simp only
      have h1 : Has ⟨ys, 1, 0 + 1, 1, false⟩ ([] ++ [⟨#[97]⟩]) := I.has rfl
      have hb := app_f ⟨ys, 1, 0 + 1, 1, false⟩ ⟨#[98]⟩ ⟨2, 60⟩
      rcases h1.append (p := ⟨#[98]⟩) (f := ⟨2, 60⟩) (by decide) (by decide) with ⟨_, e⟩ | ⟨_, e, c⟩
      · have := (logB_nums h1.inv.log).2.2.2.2.2.2.2.1
        simp at e this
        omega
      · rw [e] at hb
        rcases c with ⟨k1, _⟩ | ⟨_, zs, ez, I2⟩ | ⟨k1, _⟩
        · exact absurd k1 (by decide)
        · rw [ez] at hb
          rw [show store_Append.f ys (new0 10).gen ((new0 10).used + 1) (new0 10).top (new0 10).down ⟨#[98]⟩ 2 60 = _ from hb]
          unfold stoOut
          rw [Option.bind_some]
          simp only
          rcases I2 with I2 | ⟨_, h⟩
          · have hl := (logB_nums I2.log).2.1
            rw [boot_f zs (by omega) (by omega), I2.boot]
            unfold bootOut
            rw [Option.bind_some]
            simp
            show ((⟨#[97]⟩ : ByteArray)).toList = _
            rw [ByteArray.toList_eq]
          · exact absurd h (by decide)
        · exact absurd k1 (by decide)
end Go.Proofs.YtopaddpclipnjaaQ.P
namespace Go.Proofs.YtopaddpclipnjaaQ.P
open Go.RowKit Go.Proofs.YtopaddpclipnjaaW.PrintWords Go.Proofs.Ytopaddpclipnjaa
theorem alive_only {k : Nat} {r : Bool} (h : foghornlaw04_alive.f k = some r) : r = true := by
  have hm : ∀ d, foghornlaw04_alive.f (k + d) = some r := by
    intro d
    induction d with
    | zero => exact h
    | succ d ih => exact (foghornlaw04_alive.mono (k + d)) _ ih
  have h1 := hm 301
  rw [alive_f (by omega)] at h1
  exact (Option.some.inj h1).symm
theorem foghornlaw04_alive.calls (k : Nat) (r : Bool) (w : World) (h : foghornlaw04_alive.f k = some r) :
    Calls Try.prog 15 #[] w fun e w' => e = .returned (.bool r) ∧ Below w.heap.size w w' := foghornlaw04_alive.callsT k r w h (alive_only h)
end Go.Proofs.YtopaddpclipnjaaQ.P
namespace Go.Proofs.YtopaddpclipnjaaQ.P
open Go.RowKit Go.Proofs.YtopaddpclipnjaaW.PrintWords Go.Proofs.Ytopaddpclipnjaa
theorem slat_of_R {w : World} {e base : Nat} {ok : Nat → Prop} {v : Value} {xs : List ByteArray} (h : Kd.R Kd.string e w base ok v xs) : SlAt w v 1 xs.length (strs xs) := by
  obtain ⟨A, c, rfl⟩ := Kd.R_slice h
  obtain ⟨_, h2, h3⟩ := Kd.R_reads' h
  exact strs_c h3 h2
theorem slat_of_V {w : World} {e base : Nat} {ok : Nat → Prop} {v : Value} {xs : List ByteArray} (h : Kd.V Kd.string e w base ok v xs) : SlAt w v 1 xs.length (strs xs) := by
  obtain ⟨A, c, rfl, _, _⟩ := id h
  obtain ⟨_, h2, h3⟩ := Kd.V_reads' h
  exact strs_c h3 h2
theorem fresh_of_R {w : World} {e base : Nat} {ok : Nat → Prop} {v : Value} {xs : List ByteArray} (h : Kd.R Kd.string e w base ok v xs) : FreshV base v := by
  obtain ⟨_, inner, ho, _⟩ := h
  exact FreshV.of_own ho
theorem few04_any (v : Value) (xs : List ByteArray) (n : Nat) (hn : n ≤ 1000) (w : World) (hS : SlAt w v 1 xs.length (strs xs)) :
    Calls Try.prog 10 #[v, .int .i64 n] w fun e w' => ∃ v', e = .returned v' ∧ SlAt w' v' 1 ((xs.take n).map (cutB 130)).length (strs ((xs.take n).map (cutB 130))) ∧ FreshV w.heap.size v' ∧ Below w.heap.size w w' := by
  obtain ⟨a, c, rfl, hnc, hcm⟩ := hS.form
  have hc := c_of_slat hS
  refine (foghornlaw04_few.calls (n + 1) a c xs n _ w hc.1 hc.2 (few_f xs n hn (by omega))).mono ?_
  rintro e w' ⟨v', rfl, hr, hb⟩
  exact ⟨v', rfl, slat_of_R hr, fresh_of_R hr, hb⟩
theorem boot04_any (v : Value) (xs : List ByteArray) (w : World) (hS : SlAt w v 1 xs.length (strs xs)) (hl : xs.length ≤ 1000000) :
    Calls Try.prog 12 #[.agg #[v]] w fun e w' => ∃ v1 v2, e = .returned (.tuple #[.agg (SC v1 (bootS xs).1.gen (bootS xs).1.used (bootS xs).1.top (bootS xs).1.down), v2, .int .i64 (bootS xs).2.2]) ∧ SlAt w' v1 1 (bootS xs).1.xs.length (strs (bootS xs).1.xs) ∧ SlAt w' v2 1 (bootS xs).2.1.length (strs (bootS xs).2.1) ∧ FreshV w.heap.size v2 ∧ Below w.heap.size w w' := by
  obtain ⟨a, c, rfl, hnc, hcm⟩ := hS.form
  have hV := v_of_fresh (B := 0) (e := 9) (base := w.heap.size) hS (fun _ _ => Nat.zero_le _)
  refine (store_Boot.calls 211 (fun k_ => 0 ≤ k_) a c xs _ _ _ _ _ _ _ w hV (boot_f xs hl (by omega))).mono ?_
  rintro e w' ⟨v1, v2, rfl, h1, h2, hb⟩
  exact ⟨v1, v2, rfl, slat_of_V h1, slat_of_R h2, fresh_of_R h2, hb⟩
theorem texts04_any (v u : Value) (xs ys : List ByteArray) (w : World) (hS : SlAt w v 1 xs.length (strs xs)) (hT : SlAt w u 1 ys.length (strs ys)) (hl : xs.length < 1000000) :
    Calls Try.prog 20 #[v, u] w fun e w' => e = .returned (.bool (decide (xs = ys))) ∧ Below w.heap.size w w' := by
  obtain ⟨a, c, rfl, hnc, hcm⟩ := hS.form
  obtain ⟨b, d, rfl, hnd, hdm⟩ := hT.form
  have h1 := c_of_slat hS
  have h2 := c_of_slat hT
  refine (foghornref04_Texts.calls (xs.length + 1) a c xs b d ys _ w h1.1 h1.2 h2.1 h2.2 (texts_f xs ys hl (by omega))).mono ?_
  rintro e w' ⟨rfl, hd⟩
  exact ⟨rfl, hd.below⟩
theorem same04_any (v u : Value) (xs ys : List ByteArray) (w : World) (hS : SlAt w v 1 xs.length (strs xs)) (hT : SlAt w u 1 ys.length (strs ys)) (hl : xs.length < 1000000) :
    Calls Try.prog 31 #[.agg #[v], .agg #[u]] w fun e w' => e = .returned (.bool (decide (xs = ys))) ∧ Below w.heap.size w w' := by
  obtain ⟨a, c, rfl, hnc, hcm⟩ := hS.form
  obtain ⟨b, d, rfl, hnd, hdm⟩ := hT.form
  have h1 := c_of_slat hS
  have h2 := c_of_slat hT
  exact foghornref02_Same.calls (xs.length + 1) a c xs b d ys _ w h1.1 h1.2 h2.1 h2.2 (dsame_f xs ys hl (by omega))
theorem slat_pre {W : World} {a : Option Addr} {n c : Nat} {xs ys : List ByteArray} (h : SlAt W (.slice a n c) 1 (xs ++ ys).length (strs (xs ++ ys))) : SlAt W (.slice a xs.length c) 1 xs.length (strs xs) := by
  obtain ⟨_, a', c', hv, h1, h2, h3⟩ := h
  injection hv with e1 e2 e3
  subst e1 e3
  simp only [List.length_append] at h1 h2 h3 e2
  refine ⟨by simp [strs], _, _, rfl, by omega, by omega, ?_⟩
  rcases h3 with h3 | ⟨b, o, ha, hlt, hc⟩
  · exact .inl (by omega)
  · refine .inr ⟨b, o, ha, hlt, fun j u hu => hc j u ?_⟩
    have : strs (xs ++ ys) = strs xs ++ strs ys := by simp [strs]
    rw [this, List.getElem?_append_left (List.getElem?_eq_some_iff.1 hu).1]
    exact hu
theorem alive04_any (w : World) : Calls Try.prog 15 #[] w fun e w' => e = .returned (.bool true) ∧ Below w.heap.size w w' := foghornlaw04_alive.calls 301 true w (alive_f (by omega))
theorem app04_any (s : Sto) (v : Value) (p : ByteArray) (f : Flt) (w : World) (hS : SlAt w v 1 s.xs.length (strs s.xs)) :
    Calls Try.prog 21 #[s.val v, .string p, fltV f] w fun e w' => ∃ v', e = .returned (.tuple #[.agg (SC v' (appendS s p f).1.gen (appendS s p f).1.used (appendS s p f).1.top (appendS s p f).1.down), .int .i64 (appendS s p f).2]) ∧ SlAt w' v' 1 (appendS s p f).1.xs.length (strs (appendS s p f).1.xs) ∧ Below w.heap.size w w' := by
  refine (append_any s v p f w hS).mono ?_
  rintro e w' ⟨v', rfl, _, h1, h2⟩
  exact ⟨v', rfl, h1, h2⟩
theorem turn04_any (s : Sto) (v v1 v2 : Value) (l : List ByteArray) (fs : List Flt) (w : World) (hS : SlAt w v 1 s.xs.length (strs s.xs)) (h1 : SlAt w v1 1 l.length (strs l)) (h2 : SlAt w v2 2 fs.length (fltsC fs)) :
    Calls Try.prog 22 #[s.val v, v1, v2] w fun e w' => ∃ v', e = .returned (.tuple #[.agg (SC v' (turnS s l fs).1.gen (turnS s l fs).1.used (turnS s l fs).1.top (turnS s l fs).1.down), .int .i64 (turnS s l fs).2]) ∧ SlAt w' v' 1 (turnS s l fs).1.xs.length (strs (turnS s l fs).1.xs) ∧ Below w.heap.size w w' := by
  refine (turn_any s v v1 v2 l fs w hS h1 h2).mono ?_
  rintro e w' ⟨v', rfl, _, h3, h4⟩
  exact ⟨v', rfl, h3, h4⟩
end Go.Proofs.YtopaddpclipnjaaQ.P
namespace Go.Proofs.Ytopaddpclipnjaa
open Go.RowKit
structure InvF (xs : List ByteArray) (g : Int) (h : List ByteArray) : Prop where
  log : logB xs = true
  g1 : 1 ≤ g
  g2 : g ≤ 250
  len : (h.length : Int) ≤ areaD xs
  head : hdrG (sec xs (g % 2)) (g % 2) = g
  other : hdrG (sec xs (1 - g % 2)) (1 - g % 2) < g
  recs : ∀ (i : Nat) (hi : i < h.length), recB (sec xs (placeD xs g i)) g (i + 1) ∧ openP (sec xs (placeD xs g i)) = h[i]
  next : ∀ i : Nat, h.length ≤ i → (i : Int) < areaD xs → at8 (sec xs (placeD xs g i)) 0 ≠ g
theorem first_rec {x : ByteArray} {g no : Int} (h : at8 x 0 ≠ g) : ¬ recB x g no := by
  rintro ⟨h1, h2, _⟩
  rw [(openG_pos h1).2.2] at h2
  exact h h2
theorem InvF.boot {xs : List ByteArray} {g : Int} {h : List ByteArray} (H : InvF xs g h) : bootS xs = (⟨xs, g, h.length, topF 0 xs, false⟩, h, 0) := by
  have ha := (logB_nums H.log).2.2.2.2.2.2.2
  have hl := H.len
  have hfd : ∀ (d : Nat) (i : Nat), (i : Int) + d = areaD xs → foundD xs g d i = h.drop i := by
    intro d
    induction d with
    | zero =>
      intro i hi
      unfold foundD
      rw [List.drop_of_length_le (by omega)]
    | succ d ih =>
      intro i hi
      unfold foundD
      by_cases h1 : i < h.length
      · obtain ⟨r1, r2⟩ := H.recs i h1
        rw [if_pos r1, r2, ih (i + 1) (by omega)]
        exact (List.drop_eq_getElem_cons h1).symm
      · rw [if_neg (first_rec (H.next i (by omega) (by omega))), List.drop_of_length_le (by omega)]
  have hf : foundA xs g = h := by
    unfold foundA
    rw [hfd _ 0 (by omega), List.drop_zero]
  have hn : newestD xs = g := by
    have h1 := H.head
    have h2 := H.other
    unfold newestD
    rcases par g with e | e <;> rw [e] at h1 h2
    · rw [show (1 : Int) - 0 = 1 by omega] at h2
      omega
    · rw [show (1 : Int) - 1 = 0 by omega] at h2
      omega
  unfold bootS
  rw [hn, hf, if_neg (by rw [H.log]; simp), if_neg (by have := H.g1; omega)]
theorem InvF.append {xs ys : List ByteArray} {g : Int} {h : List ByteArray} (H : InvF xs g h) (hl : (h.length : Int) < areaD xs) {p : ByteArray} {T : ByteArray} (hT : SealT T g (h.length + 1) p) (W : Wrote xs (placeD xs g h.length) T ys) : InvF ys g (h ++ [p]) := by
  have hn := logB_nums H.log
  have hg := H.g1
  have hA : areaD ys = areaD xs := areaD_len W.len
  have hP : ∀ i : Nat, placeD ys g i = placeD xs g i := fun i => placeD_len W.len g i
  have hpl := placeD_in H.log (g := g) (i := h.length) (by omega) hl
  have hfar : ∀ i : Nat, (i : Int) < areaD xs → i ≠ h.length → sec ys (placeD ys g i) = sec xs (placeD xs g i) := by
    intro i hi hne
    have := placeD_in H.log (g := g) (i := i) (by omega) hi
    rw [hP, W.far _ (by omega) (fun e => hne (by have := (placeD_inj H.log (by omega) hi (by omega) hl e).2; omega))]
  refine ⟨W.log, hg, H.g2, by rw [hA]; simp; omega, ?_, ?_, ?_, ?_⟩
  · rw [W.far _ (by omega) (by omega)]
    exact H.head
  · rw [W.far _ (by omega) (by omega)]
    exact H.other
  · intro i hi
    simp only [List.length_append, List.length_singleton] at hi
    by_cases e : i = h.length
    · subst e
      rw [hP, W.here]
      exact ⟨⟨hT.opens, hT.gen, hT.num⟩, by rw [hT.pay]; simp⟩
    · rw [hfar i (by omega) e]
      have := H.recs i (by omega)
      rw [List.getElem_append_left (by omega)]
      exact this
  · intro i hi hia
    simp only [List.length_append, List.length_singleton] at hi
    rw [hA] at hia
    rw [hfar i hia (by omega)]
    exact H.next i (by omega) hia
theorem InvF.more {xs : List ByteArray} {g : Int} {h : List ByteArray} (H : InvF xs g h) (hl : (h.length : Int) < areaD xs) {p : ByteArray} (hp : p.size ≤ 96) : InvF (tearL xs (placeD xs g h.length) (sealS g (h.length + 1) p) 128) g (h ++ [p]) := by
  have hn := logB_nums H.log
  have hpl := placeD_in H.log (g := g) (i := h.length) (by omega) hl
  obtain ⟨hT, hTe⟩ := sealT_is (g := g) (no := (h.length : Int) + 1) (p := p) H.g1 H.g2 (by omega) (by omega) hp
  rw [hTe]
  have W := tear_wrote H.log (q := placeD xs g h.length) (by omega) hpl.2 hT.size (k := 128) (by omega) (by omega)
  rw [show (128 : Int).toNat = 128 from rfl, over_all (sec_size H.log (by omega) hpl.2) hT.size] at W
  exact H.append hl hT W
structure NewF (xs : List ByteArray) (g : Int) (l : List ByteArray) (i : Nat) : Prop where
  log : logB xs = true
  g1 : 1 ≤ g
  g2 : g ≤ 250
  room : (l.length : Int) ≤ areaD xs
  other : hdrG (sec xs (1 - g % 2)) (1 - g % 2) < g
  recs : ∀ (j : Nat) (hj : j < l.length), j < i → recB (sec xs (placeD xs g j)) g (j + 1) ∧ openP (sec xs (placeD xs g j)) = l[j]
  next : ∀ j : Nat, i ≤ j → (j : Int) < areaD xs → at8 (sec xs (placeD xs g j)) 0 ≠ g
theorem turnF {g : Int} {l : List ByteArray} (hs : ∀ p ∈ l, p.size ≤ 96) (d : Nat) : ∀ (xs : List ByteArray) (i : Nat), i + d = l.length → NewF xs g l i → (turnW g xs i (l.drop i) []).2 = 0 ∧ InvF (turnW g xs i (l.drop i) []).1 g l ∧ (turnW g xs i (l.drop i) []).1.length = xs.length := by
  induction d with
  | zero =>
    intro xs i hi N
    obtain rfl : i = l.length := by omega
    have hn := logB_nums N.log
    have g1 := N.g1
    have g2 := N.g2
    obtain ⟨hT, hTe⟩ := sealT_is (g := g) (no := 0) (p := ⟨#[]⟩) (by omega) (by omega) (by omega) (by omega) (by decide)
    have W := tear_wrote N.log (q := g % 2) (by omega) (by omega) hT.size (k := 128) (by omega) (by omega)
    rw [show (128 : Int).toNat = 128 from rfl, over_all (sec_size N.log (by omega) (by omega)) hT.size] at W
    have e : turnW g xs l.length (l.drop l.length) [] = (tearL xs (g % 2) (sealT g 0 ⟨#[]⟩) 128, 0) := by
      rw [List.drop_length]
      unfold turnW wrL
      rw [hTe]
      rfl
    rw [e]
    have hA := areaD_len W.len
    have hfar : ∀ j : Nat, (j : Int) < areaD xs → sec (tearL xs (g % 2) (sealT g 0 ⟨#[]⟩) 128) (placeD (tearL xs (g % 2) (sealT g 0 ⟨#[]⟩) 128) g j) = sec xs (placeD xs g j) := by
      intro j hj
      have := placeD_in N.log (g := g) (i := j) (by omega) hj
      rw [placeD_len W.len, W.far _ (by omega) (by omega)]
    refine ⟨rfl, ⟨W.log, g1, g2, by rw [hA]; exact N.room, ?_, ?_, ?_, ?_⟩, W.len⟩
    · show hdrG (sec (tearL xs (g % 2) (sealT g 0 ⟨#[]⟩) 128) (g % 2)) (g % 2) = g
      rw [W.here]
      unfold hdrG
      rw [if_pos ⟨hT.opens, by rw [hT.gen], hT.num, hT.pay⟩]
      exact hT.gen
    · show hdrG (sec (tearL xs (g % 2) (sealT g 0 ⟨#[]⟩) 128) (1 - g % 2)) (1 - g % 2) < g
      rw [W.far _ (by omega) (by omega)]
      exact N.other
    · intro j hj
      have hr := N.room
      show recB (sec (tearL xs (g % 2) (sealT g 0 ⟨#[]⟩) 128) (placeD (tearL xs (g % 2) (sealT g 0 ⟨#[]⟩) 128) g j)) g (j + 1) ∧ openP (sec (tearL xs (g % 2) (sealT g 0 ⟨#[]⟩) 128) (placeD (tearL xs (g % 2) (sealT g 0 ⟨#[]⟩) 128) g j)) = l[j]
      rw [hfar j (by omega)]
      exact N.recs j hj hj
    · intro j hj hja
      rw [hA] at hja
      show at8 (sec (tearL xs (g % 2) (sealT g 0 ⟨#[]⟩) 128) (placeD (tearL xs (g % 2) (sealT g 0 ⟨#[]⟩) 128) g j)) 0 ≠ g
      rw [hfar j hja]
      exact N.next j hj hja
  | succ d ih =>
    intro xs i hi N
    have hil : i < l.length := by omega
    have hn := logB_nums N.log
    have g1 := N.g1
    have g2 := N.g2
    have hr := N.room
    have hia : (i : Int) < areaD xs := by omega
    have hpl := placeD_in N.log (g := g) (i := i) (by omega) hia
    obtain ⟨hT, hTe⟩ := sealT_is (g := g) (no := (i : Int) + 1) (p := l[i]) (by omega) (by omega) (by omega) (by omega) (hs _ (List.getElem_mem _))
    have W := tear_wrote N.log (q := placeD xs g i) (by omega) hpl.2 hT.size (k := 128) (by omega) (by omega)
    rw [show (128 : Int).toNat = 128 from rfl, over_all (sec_size N.log (by omega) hpl.2) hT.size] at W
    have hA := areaD_len W.len
    have hw : wrL xs (placeD xs g i) (sealT g ((i : Int) + 1) l[i]) fz = (tearL xs (placeD xs g i) (sealT g ((i : Int) + 1) l[i]) 128, 0) := rfl
    have e : turnW g xs i (l.drop i) [] = turnW g (tearL xs (placeD xs g i) (sealT g ((i : Int) + 1) l[i]) 128) (i + 1) (l.drop (i + 1)) [] := by
      rw [List.drop_eq_getElem_cons hil]
      conv => lhs; unfold turnW
      rw [hTe, show ([] : List Flt).headD fz = fz from rfl, hw, if_pos rfl]
      rfl
    rw [e]
    have hfar : ∀ j : Nat, (j : Int) < areaD xs → j ≠ i → sec (tearL xs (placeD xs g i) (sealT g ((i : Int) + 1) l[i]) 128) (placeD (tearL xs (placeD xs g i) (sealT g ((i : Int) + 1) l[i]) 128) g j) = sec xs (placeD xs g j) := by
      intro j hj hne
      have := placeD_in N.log (g := g) (i := j) (by omega) hj
      rw [placeD_len W.len, W.far _ (by omega) (fun e => hne (by have := (placeD_inj N.log (by omega) hj (by omega) hia e).2; omega))]
    obtain ⟨r1, r2, r3⟩ := ih (tearL xs (placeD xs g i) (sealT g ((i : Int) + 1) l[i]) 128) (i + 1) (by omega) ⟨W.log, g1, g2, by rw [hA]; exact hr, by rw [W.far _ (by omega) (by omega)]; exact N.other, fun j hj hji => by
      by_cases e : j = i
      · subst e
        rw [placeD_len W.len, W.here]
        exact ⟨⟨hT.opens, hT.gen, hT.num⟩, hT.pay⟩
      · rw [hfar j (by omega) e]
        exact N.recs j hj (by omega), fun j hj hja => by
      rw [hA] at hja
      rw [hfar j hja (by omega)]
      exact N.next j (by omega) hja⟩
    exact ⟨r1, r2, r3.trans W.len⟩
theorem boot_okB {xs : List ByteArray} (hlog : logB xs = true) (h0 : newestD xs ≠ 0) : (⟨xs, newestD xs, (foundA xs (newestD xs)).length, topF 0 xs, false⟩ : Sto).okB = true ∧ newestD xs ≤ topF 0 xs ∧ 1 ≤ newestD xs ∧ topF 0 xs ≤ 250 := by
  have hn := logB_nums hlog
  have r0 := hdrG_range (sec xs 0) 0
  have r1 := hdrG_range (sec xs 1) 1
  have hm : ∀ s : Nat, s < 2 → hdrG (sec xs s) s ≤ topF 0 xs := by
    intro s hs
    by_cases h : hdrG (sec xs s) s = 0
    · rw [h]; exact topF_mono xs 0
    · have := hdrG_range (sec xs s) s
      have h2 := (hdrG_at h).1
      have := topF_ge (xs := xs) (x := sec xs s) (by rw [sec_get (by omega)]; exact List.getElem_mem _) (by omega) 0
      omega
  have m0 : hdrG (sec xs 0) 0 ≤ topF 0 xs := hm 0 (by omega)
  have m1 : hdrG (sec xs 1) 1 ≤ topF 0 xs := hm 1 (by omega)
  have ht : topF 0 xs ≤ 250 := topF_le xs 250 (fun _ _ h => h) 0 (by omega)
  have hne : newestD xs ≤ topF 0 xs ∧ 1 ≤ newestD xs ∧ newestD xs ≤ 250 := by
    unfold newestD at h0 ⊢
    omega
  have hf := foundD_len xs (newestD xs) (areaD xs).toNat 0
  have hfa : ((foundA xs (newestD xs)).length : Int) ≤ areaD xs := by unfold foundA; omega
  refine ⟨?_, hne.1, hne.2.1, ht⟩
  unfold Sto.okB inB
  rw [hlog]
  simp
  omega
theorem boot_turn {xs : List ByteArray} (hlog : logB xs = true) (h0 : newestD xs ≠ 0) {g : Int} (hg : topF 0 xs < g) (hg2 : g ≤ 250) {l : List ByteArray} (hs : ∀ p ∈ l, p.size ≤ 96) (hl : (l.length : Int) ≤ areaD xs) :
    (turnW g xs 0 l []).2 = 0 ∧ InvF (turnW g xs 0 l []).1 g l ∧ (turnW g xs 0 l []).1.length = xs.length := by
  obtain ⟨_, b1, b2, b3⟩ := boot_okB hlog h0
  have hn := logB_nums hlog
  have hin : ∀ i : Int, 0 ≤ i → i < xs.length → sec xs i ∈ xs := by
    intro i h0 hi
    obtain ⟨n, rfl⟩ : ∃ n : Nat, i = n := ⟨i.toNat, by omega⟩
    rw [sec_get (by omega)]
    exact List.getElem_mem _
  have hf : ∀ i : Int, 0 ≤ i → i < xs.length → at8 (sec xs i) 0 ≤ 250 → at8 (sec xs i) 0 ≤ topF 0 xs := fun i a b c => topF_ge (hin i a b) c 0
  have := turnF hs l.length xs 0 (by omega) ⟨hlog, by omega, hg2, hl, ?_, fun j _ hj => absurd hj (by omega), fun j _ hj => ?_⟩
  · rwa [List.drop_zero] at this
  · by_cases h : hdrG (sec xs (1 - g % 2)) (1 - g % 2) = 0
    · omega
    · have h1 := (hdrG_at h).1
      have h2 := hdrG_range (sec xs (1 - g % 2)) (1 - g % 2)
      have := hf (1 - g % 2) (by omega) (by omega) (by omega)
      omega
  · have hpl := placeD_in hlog (g := g) (i := j) (by omega) hj
    intro e
    have := hf _ (by omega) hpl.2 (by omega)
    omega
end Go.Proofs.Ytopaddpclipnjaa
namespace Go.Proofs.Ytopaddpclipnjaa
open Go.RowKit
theorem foundD_recs (xs : List ByteArray) (g : Int) (d : Nat) : ∀ (i j : Nat) (hj : j < (foundD xs g d i).length), recB (sec xs (placeD xs g ((i + j : Nat) : Int))) g (((i + j : Nat) : Int) + 1) ∧ openP (sec xs (placeD xs g ((i + j : Nat) : Int))) = (foundD xs g d i)[j] := by
  induction d with
  | zero =>
    intro i j hj
    simp [foundD] at hj
  | succ d ih =>
    intro i j hj
    by_cases h : recB (sec xs (placeD xs g i)) g (i + 1)
    · have e : foundD xs g (d + 1) i = openP (sec xs (placeD xs g i)) :: foundD xs g d (i + 1) := by
        conv => lhs; unfold foundD
        rw [if_pos h]
      simp only [e] at hj ⊢
      cases j with
      | zero => exact ⟨h, rfl⟩
      | succ j =>
        have := ih (i + 1) j (by simpa using hj)
        rw [show i + 1 + j = i + (j + 1) by omega] at this
        exact this
    · have e : foundD xs g (d + 1) i = [] := by
        conv => lhs; unfold foundD
        rw [if_neg h]
      simp [e] at hj
theorem foundD_pre {xs : List ByteArray} {g : Int} {h : List ByteArray} (hr : ∀ (i : Nat) (hi : i < h.length), recB (sec xs (placeD xs g i)) g (i + 1) ∧ openP (sec xs (placeD xs g i)) = h[i]) (d : Nat) : ∀ i : Nat, i ≤ h.length → h.length ≤ i + d → ∃ rest, foundD xs g d i = h.drop i ++ rest := by
  induction d with
  | zero =>
    intro i hi hd
    exact ⟨[], by rw [List.drop_of_length_le (by omega)]; rfl⟩
  | succ d ih =>
    intro i hi hd
    by_cases hlt : i < h.length
    · obtain ⟨r1, r2⟩ := hr i hlt
      obtain ⟨rest, e⟩ := ih (i + 1) (by omega) (by omega)
      refine ⟨rest, ?_⟩
      conv => lhs; unfold foundD
      rw [if_pos r1, e, r2, List.drop_eq_getElem_cons hlt]
      rfl
    · exact ⟨foundD xs g (d + 1) i, by rw [List.drop_of_length_le (by omega)]; rfl⟩
theorem boot_more {xs : List ByteArray} (hlog : logB xs = true) (h0 : newestD xs ≠ 0) {p : ByteArray} (hp : p.size ≤ 96) (hl : ((foundA xs (newestD xs)).length : Int) < areaD xs) :
    ∃ rest, logB (tearL xs (placeD xs (newestD xs) (foundA xs (newestD xs)).length) (sealS (newestD xs) ((foundA xs (newestD xs)).length + 1) p) 128) = true ∧ newestD (tearL xs (placeD xs (newestD xs) (foundA xs (newestD xs)).length) (sealS (newestD xs) ((foundA xs (newestD xs)).length + 1) p) 128) = newestD xs ∧
      foundA (tearL xs (placeD xs (newestD xs) (foundA xs (newestD xs)).length) (sealS (newestD xs) ((foundA xs (newestD xs)).length + 1) p) 128) (newestD xs) = (foundA xs (newestD xs) ++ [p]) ++ rest ∧ (tearL xs (placeD xs (newestD xs) (foundA xs (newestD xs)).length) (sealS (newestD xs) ((foundA xs (newestD xs)).length + 1) p) 128).length = xs.length := by
  obtain ⟨_, b1, b2, b3⟩ := boot_okB hlog h0
  have hn := logB_nums hlog
  obtain ⟨g, hg⟩ : ∃ g, g = newestD xs := ⟨_, rfl⟩
  obtain ⟨l, hle⟩ : ∃ l, l = foundA xs g := ⟨_, rfl⟩
  rw [← hg] at hl b1 b2 ⊢
  rw [← hle] at hl ⊢
  have hpl := placeD_in hlog (g := g) (i := l.length) (by omega) hl
  obtain ⟨hT, hTe⟩ := sealT_is (g := g) (no := (l.length : Int) + 1) (p := p) b2 (by omega) (by omega) (by omega) hp
  rw [hTe]
  have W := tear_wrote hlog (q := placeD xs g l.length) (by omega) hpl.2 hT.size (k := 128) (by omega) (by omega)
  rw [show (128 : Int).toNat = 128 from rfl, over_all (sec_size hlog (by omega) hpl.2) hT.size] at W
  obtain ⟨ys, hy⟩ : ∃ ys, ys = tearL xs (placeD xs g l.length) (sealT g (l.length + 1) p) 128 := ⟨_, rfl⟩
  rw [← hy] at W ⊢
  have hA : areaD ys = areaD xs := areaD_len W.len
  have hnew : newestD ys = g := by
    have e0 : sec ys 0 = sec xs 0 := W.far 0 (by omega) (by omega)
    have e1 : sec ys 1 = sec xs 1 := W.far 1 (by omega) (by omega)
    unfold newestD at hg ⊢
    rw [e0, e1]
    exact hg.symm
  have hrecs : ∀ (i : Nat) (hi : i < (l ++ [p]).length), recB (sec ys (placeD ys g i)) g (i + 1) ∧ openP (sec ys (placeD ys g i)) = (l ++ [p])[i] := by
    intro i hi
    simp only [List.length_append, List.length_singleton] at hi
    by_cases e : i = l.length
    · subst e
      rw [placeD_len W.len, W.here]
      exact ⟨⟨hT.opens, hT.gen, hT.num⟩, by rw [hT.pay]; simp⟩
    · have hil : i < l.length := by omega
      have hpi := placeD_in hlog (g := g) (i := i) (by omega) (by omega)
      have hr := foundD_recs xs g (areaD xs).toNat 0 i (by have : l = foundD xs g (areaD xs).toNat 0 := hle; rw [← this]; exact hil)
      rw [placeD_len W.len, W.far _ (by omega) (fun e2 => e (by have := (placeD_inj hlog (by omega) (by omega) (by omega) hl e2).2; omega)), List.getElem_append_left hil]
      simp only [Nat.zero_add] at hr
      refine ⟨hr.1, hr.2.trans ?_⟩
      simp only [hle]
      rfl
  obtain ⟨rest, e⟩ := foundD_pre hrecs (areaD ys).toNat 0 (by omega) (by simp; omega)
  refine ⟨rest, W.log, hnew, ?_, W.len⟩
  unfold foundA
  rw [e, List.drop_zero]
end Go.Proofs.Ytopaddpclipnjaa
namespace Go.Proofs.Ytopaddpclipnjaa
open Go.RowKit Go.ChangeShapes Go.WideShapes Go.ChangeAt Go.Proofs.YtopaddpclipnjaaW.PrintWords
def Opens (P : Program) (W : World) (t : TypeId) {α : Type} (d : Kd α) (Q : α → Prop) : Prop :=
  ∀ {H : Type} (enc : TypeId × Value → H) (base : Nat) (spare : Nat → Bool) (held : Bool) (fuel : Nat) (cs : List Value) (y : DataW H × List MemPlace), DataW.trod enc P W base spare held fuel t cs = some y → cs.length = d.sz → ∃ x, d.K W x cs ∧ Q x
def OpensL (P : Program) (W : World) (fs : List Field) (o : Nat) {α : Type} (d : Kd α) (Q : α → Prop) : Prop :=
  ∀ {H : Type} (enc : TypeId × Value → H) (base : Nat) (spare : Nat → Bool) (held : Bool) (cs : List Value), (∀ (j : Nat) (f : Field), fs[j]? = some f → ∃ fuel y, DataW.trod enc P W base spare held fuel f.type ((cs.drop (f.offset - o)).take (P.cellsOf f.type)) = some y) → cs.length = d.sz → ∃ x, d.K W x cs ∧ Q x
section
variable {P : Program} {W : World} {t e : TypeId} {α β : Type} {d : Kd α} {Q : α → Prop}
theorem opens_string (ht : P.underlying t = some .string) : Opens P W t Kd.string (fun s => s.size ≤ maxLen) := by
  intro H enc base spare held fuel cs y h _
  obtain ⟨n, rfl, _, hw⟩ := DataW.trod_string ht h
  exact ⟨n, rfl, hw⟩
theorem opens_C (hc : P.cellsOf e = d.sz) (h0 : 0 < d.sz) (h : Opens P W e d Q) {H : Type} {enc : TypeId × Value → H} {base : Nat} {spare : Nat → Bool} {held : Bool} {p : List MemPlace} {dd : DataW H} (ht : P.underlying t = some (.slice e)) {v : Value} (ht2 : DataW.Trod enc P W base spare held t v dd p) (hv : ∃ a l c, v = .slice a l c) :
    ∃ (xs : List α) (A : Option Addr) (c : Nat), v = .slice A xs.length c ∧ xs.length ≤ c ∧ d.C W A xs.length xs ∧ ∀ x ∈ xs, Q x := by
  obtain ⟨n, cells, hS, hel⟩ := sl_of_trod ht hc h0 ht2 hv
  have hx : ∀ i, i < n → ∃ x, d.K W x ((cells.drop (i * d.sz)).take d.sz) ∧ Q x := by
    intro i hi
    obtain ⟨f, y, hy⟩ := hel i hi
    refine h enc base spare held f _ y hy ?_
    have hle : i * d.sz + d.sz ≤ n * d.sz := by rw [← Nat.succ_mul]; exact Nat.mul_le_mul_right _ hi
    rw [List.length_take, List.length_drop, hS.1]
    omega
  have hxs : ∀ m, m ≤ n → ∃ xs : List α, xs.length = m ∧ ∀ i x, xs[i]? = some x → d.K W x ((cells.drop (i * d.sz)).take d.sz) ∧ Q x := by
    intro m
    induction m with
    | zero => exact fun _ => ⟨[], rfl, fun i x hx => by simp at hx⟩
    | succ m ih =>
      intro hm
      obtain ⟨xs, hl, hq⟩ := ih (by omega)
      obtain ⟨x, hk, hqx⟩ := hx m (by omega)
      refine ⟨xs ++ [x], by simp [hl], fun i y hy => ?_⟩
      rcases Nat.lt_or_ge i xs.length with hi | hi
      · rw [List.getElem?_append_left hi] at hy
        exact hq i y hy
      · rw [List.getElem?_append_right hi] at hy
        obtain ⟨h1, h2⟩ := List.getElem?_eq_some_iff.1 hy
        have hi2 : i = m := by simp at h1; omega
        subst hi2
        simp at h2
        subst h2
        exact ⟨hk, hqx⟩
  obtain ⟨xs, hl, hq⟩ := hxs n (Nat.le_refl _)
  obtain ⟨a, c, hv2, hnc, hnm⟩ := hS.form
  subst hv2
  subst hl
  refine ⟨xs, a, c, rfl, hnc, ⟨rfl, by unfold maxLen at hnm; omega, fun hp => ?_⟩, fun x hx => ?_⟩
  · obtain ⟨b, o, rfl, _, hcell⟩ := hS.at hp
    refine ⟨_, rfl, fun j p hj => ⟨_, ?_, (hq j p hj).1, fun i u hu => ?_⟩⟩
    · exact d.K_len (hq j p hj).1
    · rw [List.getElem?_take] at hu
      split at hu
      · rw [List.getElem?_drop] at hu
        rw [add_off]
        exact hcell _ _ hu
      · cases hu
  · obtain ⟨i, hi, rfl⟩ := List.mem_iff_getElem.1 hx
    exact (hq i _ (List.getElem?_eq_getElem hi)).2
theorem opens_slice (ht : P.underlying t = some (.slice e)) (hc : P.cellsOf e = d.sz) (h0 : 0 < d.sz) (h : Opens P W e d Q) : Opens P W t (Kd.slice e d) (fun xs => ∀ x ∈ xs, Q x) := by
  intro H enc base spare held fuel cs y hy hl
  obtain ⟨u, rfl⟩ : ∃ u, cs = [u] := by
    match cs, hl with
    | [u], _ => exact ⟨u, rfl⟩
  obtain ⟨hv, h2⟩ := slice_of_trod ht hy
  obtain ⟨xs, A, c, rfl, h3, h4, h5⟩ := opens_C hc h0 h ht h2 hv
  exact ⟨xs, ⟨A, c, rfl, h3, h4⟩, h5⟩
theorem opensL_one {f : Field} (h : Opens P W f.type d Q) (hc : P.cellsOf f.type = d.sz) : OpensL P W [f] f.offset d Q := by
  intro H enc base spare held cs hf hl
  obtain ⟨fuel, y, hy⟩ := hf 0 f rfl
  rw [Nat.sub_self, List.drop_zero, hc, List.take_of_length_le (by omega)] at hy
  exact h enc base spare held fuel cs y hy hl
theorem opens_struct {fs : Array Field} (ht : P.underlying t = some (.struct fs)) (h : OpensL P W fs.toList 0 d Q) : Opens P W t d Q := by
  intro H enc base spare held fuel cs y hy hl
  obtain ⟨xs, n, _, _, _, hlx, hx⟩ := DataW.trod_struct ht hy
  refine h enc base spare held cs (fun j f hf => ?_) hl
  have hf' : fs[j]? = some f := by simpa using hf
  have h1 := hx j f hf'
  have hj : j < xs.length := by rw [hlx]; exact (Array.getElem?_eq_some_iff.1 hf').1
  rw [List.getElem?_eq_getElem hj] at h1
  exact ⟨n, _, h1⟩
theorem Opens.imp {Q' : α → Prop} (h : Opens P W t d Q) (hq : ∀ x, Q x → Q' x) : Opens P W t d Q' := by
  intro H enc base spare held fuel cs y hy hl
  obtain ⟨x, hk, hx⟩ := h enc base spare held fuel cs y hy hl
  exact ⟨x, hk, hq x hx⟩
theorem arg_struct (h : Opens P W t d Q) {fs : Array Field} (hc : P.cellsOf t = d.sz) {H : Type} {enc : TypeId × Value → H} {r : Reach} {base bb : Nat} {spare : Nat → Bool} {held : Bool} {p : List MemPlace} {dd : DataW H} (ht : P.underlying t = some (.struct fs)) {v : Value} (hv : Value.okWide P W r bb t v) (h2 : DataW.Trod enc P W base spare held t v dd p) :
    ∃ x : α, (∃ cs : List Value, v = .agg cs.toArray ∧ d.K W x cs) ∧ Q x := by
  obtain ⟨cs, rfl, hsz⟩ := okWide_struct ht hv
  obtain ⟨fuel, hf⟩ := h2
  obtain ⟨x, hk, hq⟩ := h enc base spare held fuel cs.toList _ hf (by simpa [hc] using hsz)
  exact ⟨x, ⟨cs.toList, by simp, hk⟩, hq⟩
end
end Go.Proofs.Ytopaddpclipnjaa
namespace Go.Proofs.YtopaddpclipnjaaQ.P
open Go.RowKit Go.ChangeShapes Go.WideShapes Go.ChangeAt Go.Proofs.YtopaddpclipnjaaW.PrintWords Go.Proofs.Ytopaddpclipnjaa
theorem anyO4 {P : Program} {W : World} {t : TypeId} {α : Type} {d : Kd α} {Q : α → Prop} (h : Opens P W t d Q) : Opens P W t d (fun _ => True) := h.imp fun _ _ => trivial
theorem opensS4 (W : World) : Opens Try.prog W 9 Kd.string (fun _ => True) := anyO4 (opens_string Try.underlying9)
theorem opensSs4 (W : World) : Opens Try.prog W 22 (Kd.slice 9 Kd.string) (fun _ => True) := anyO4 (opens_slice Try.underlying22 (by kernel_rfl) (by decide) (opensS4 W))
theorem opensDsk4 (W : World) : Opens Try.prog W 24 (Kd.slice 9 Kd.string) (fun _ => True) := opens_struct Try.underlying24 (opensL_one (opensSs4 W) (by kernel_rfl))
def DskR (v : Value) (W : World) (xs : List ByteArray) : Prop := ∃ (A : Option Addr) (c : Nat), v = .agg #[.slice A xs.length c] ∧ Kd.C Kd.string W A xs.length xs ∧ xs.length ≤ c
section
variable {W : World} {H : Type} {enc : TypeId × Value → H} {r : Reach} {base bb : Nat} {spare : Nat → Bool} {held : Bool} {p : List MemPlace} {dd : DataW H} {v : Value}
set_option maxRecDepth 100000 in
theorem argDsk (hv : Value.okWide Try.prog W r bb 24 v) (h2 : DataW.Trod enc Try.prog W base spare held 24 v dd p) : ∃ xs : List ByteArray, DskR v W xs := by
  obtain ⟨xs, ⟨cs, rfl, hk⟩, _⟩ := arg_struct (opensDsk4 W) (by kernel_rfl) Try.underlying24 hv h2
  obtain ⟨A, c, rfl, h1, k1⟩ := hk
  exact ⟨xs, A, c, rfl, k1, h1⟩
end
end Go.Proofs.YtopaddpclipnjaaQ.P
namespace Go.Proofs.Ytopaddpclipnjaa
open Go.RowKit Go.Proofs.YtopaddpclipnjaaW.PrintLast Go.Proofs.YtopaddpclipnjaaQ.P
attribute [local go_sem high] ext_size ext_cell ext_frozen alloc_cell alloc_frozen
theorem boot_cases (D : List ByteArray) : (∃ k : Int, k ≠ 0 ∧ bootS D = (Sto.zero, [], k)) ∨ (logB D = true ∧ newestD D ≠ 0 ∧ bootS D = (⟨D, newestD D, (foundA D (newestD D)).length, topF 0 D, false⟩, foundA D (newestD D), 0)) := by
  unfold bootS
  cases hl : logB D
  · exact .inl ⟨1, by decide, rfl⟩
  · by_cases h0 : newestD D = 0
    · exact .inl ⟨4, by decide, by simp [h0]⟩
    · exact .inr ⟨rfl, h0, by simp [h0]⟩
theorem again_cases (D : List ByteArray) (p : ByteArray) (hp : p.size ≤ 96) : (∃ k : Int, k ≠ 0 ∧ bootS D = (Sto.zero, [], k)) ∨
    ∃ (g t : Int) (l : List ByteArray), l.length ≤ 100 ∧ bootS D = (⟨D, g, l.length, t, false⟩, l, 0) ∧ (⟨D, g, l.length, t, false⟩ : Sto).okB = true ∧
      (appendS ⟨D, g, l.length, t, false⟩ p ⟨0, 0⟩ = (Sto.zero, 5) ∨ ∃ (E rest : List ByteArray) (u : Int), E.length ≤ 1000 ∧ rest.length ≤ 1000 ∧ appendS ⟨D, g, l.length, t, false⟩ p ⟨0, 0⟩ = (⟨E, g, (l.length : Int) + 1, t, false⟩, 0) ∧ bootS E = (⟨E, g, ((l ++ [p]) ++ rest).length, u, false⟩, (l ++ [p]) ++ rest, 0)) ∧
      (turnS ⟨D, g, l.length, t, false⟩ l [] = (Sto.zero, 5) ∨ ∃ (F : List ByteArray) (g' u : Int), F.length ≤ 1000 ∧ turnS ⟨D, g, l.length, t, false⟩ l [] = (⟨F, g', l.length, g', false⟩, 0) ∧ bootS F = (⟨F, g', l.length, u, false⟩, l, 0)) := by
  rcases boot_cases D with h | ⟨hlog, h0, hb⟩
  · exact .inl h
  · right
    obtain ⟨hok, b1, b2, b3⟩ := boot_okB hlog h0
    have hn := logB_nums hlog
    have hf := foundD_len D (newestD D) (areaD D).toNat 0
    have hfa : ((foundA D (newestD D)).length : Int) ≤ areaD D := by unfold foundA; omega
    have hsz : ∀ x ∈ foundA D (newestD D), x.size ≤ 96 := by
      intro x hx
      obtain ⟨j, hj, rfl⟩ := List.mem_iff_getElem.1 hx
      have hr := foundD_recs D (newestD D) (areaD D).toNat 0 j hj
      rw [show (foundA D (newestD D))[j] = (foundD D (newestD D) (areaD D).toNat 0)[j] from rfl, ← hr.2]
      unfold openP
      rw [if_pos hr.1.1]
      exact (openE_zero hr.1.1).2.2.1
    refine ⟨newestD D, topF 0 D, foundA D (newestD D), by omega, hb, hok, ?_, ?_⟩
    · by_cases hfull : ((foundA D (newestD D)).length : Int) = areaD D
      · left
        unfold appendS
        rw [if_pos (mayS_go hok rfl (by simpa using hp) (by decide)), if_pos hfull]
      · right
        obtain ⟨rest, l1, l2, l3, l4⟩ := boot_more hlog h0 hp (by omega)
        obtain ⟨E, hE⟩ : ∃ E, E = tearL D (placeD D (newestD D) (foundA D (newestD D)).length) (sealS (newestD D) ((foundA D (newestD D)).length + 1) p) 128 := ⟨_, rfl⟩
        rw [← hE] at l1 l2 l3 l4
        have hr2 := foundD_len E (newestD D) (areaD E).toNat 0
        have hl3 : (foundA E (newestD D)).length ≤ 64 := by
          have := (logB_nums l1).2.2.2.2.2.2.2.2
          unfold foundA
          omega
        rw [l3] at hl3
        simp only [List.length_append] at hl3
        refine ⟨E, rest, topF 0 E, by omega, by omega, ?_, ?_⟩
        · unfold appendS
          rw [if_pos (mayS_go hok rfl (by simpa using hp) (by decide)), if_neg hfull]
          unfold appS
          rw [if_neg (by decide), if_neg (by decide), hE]
        · unfold bootS
          rw [if_neg (by rw [l1]; decide), l2, if_neg h0, l3]
    · obtain ⟨n1, n2, n3⟩ := nextG_facts ⟨D, newestD D, (foundA D (newestD D)).length, topF 0 D, false⟩
      simp only at n1 n2 n3
      by_cases hfull : 250 < nextG ⟨D, newestD D, (foundA D (newestD D)).length, topF 0 D, false⟩
      · left
        unfold turnS
        rw [if_pos (mayS_go hok rfl hsz rfl), if_pos (.inr hfull)]
      · right
        obtain ⟨r1, r2, r3⟩ := boot_turn hlog h0 (g := nextG ⟨D, newestD D, (foundA D (newestD D)).length, topF 0 D, false⟩) n1 (by omega) hsz hfa
        refine ⟨(turnW (nextG ⟨D, newestD D, (foundA D (newestD D)).length, topF 0 D, false⟩) D 0 (foundA D (newestD D)) []).1, nextG ⟨D, newestD D, (foundA D (newestD D)).length, topF 0 D, false⟩, topF 0 (turnW (nextG ⟨D, newestD D, (foundA D (newestD D)).length, topF 0 D, false⟩) D 0 (foundA D (newestD D)) []).1, by omega, ?_, r2.boot⟩
        unfold turnS
        rw [if_pos (mayS_go hok rfl hsz rfl), if_neg (by simp only [not_or]; exact ⟨by omega, hfull⟩)]
        simp only
        rw [r1]
        rfl
set_option maxRecDepth 100000 in
set_option maxHeartbeats 8000000 in
theorem again_walk (A : Option Addr) (c : Nat) (xs : List ByteArray) (a1 : ByteArray) (w : World) (h0 : SlAt w (.slice A xs.length c) 1 xs.length (strs xs)) :
    Calls Try.prog 7 #[.agg #[.slice A xs.length c], .string a1] w fun e w' => e = .returned (.bool true) ∧ Below w.heap.size w w' := by
  obtain ⟨D, hD⟩ : ∃ D, D = cutD xs := ⟨_, rfl⟩
  have HF0 : ∀ W, SlAt W (Value.slice A xs.length c) 1 xs.length (strs xs) → Calls Try.prog 10 #[Value.slice A xs.length c, .int .i64 132] W fun e w' => ∃ v', e = .returned v' ∧ SlAt w' v' 1 D.length (strs D) ∧ FreshV W.heap.size v' ∧ Below W.heap.size W w' := by rw [hD]; exact fun W h => few04_any _ xs 132 (by omega) W h
  have HF := Lib.hid HF0
  have hDl : D.length ≤ 132 := by rw [hD]; exact cutD_len _
  have HD := Lib.hid hD
  clear HF0 hD
  have i0 : 0 ≤ min (a1.size : Int) 96 := by omega
  have i1 : min (a1.size : Int) 96 ≤ a1.size := by omega
  obtain ⟨p, hp⟩ : ∃ p, p = a1.extract 0 (min (a1.size : Int) 96).toNat := ⟨_, rfl⟩
  have hps : p.size ≤ 96 := by rw [hp, ByteArray.size_extract]; omega
  have HP := Lib.hid hp
  clear hp
  have HS := Lib.hid h0
  clear h0
  go_enter Try.func7, Try.ntmps7
  go_wp2
  have hd1 : SlAt (w.alloc (.cells #[.slice A xs.length c] 24)).drew (Value.slice A xs.length c) 1 xs.length (strs xs) := HS.out.stay (bdn (bal (Below.refl _ _) _) 1)
  have B1 : Hid ((w.alloc (.cells #[.slice A xs.length c] 24)).drew.heap[w.heap.size]? = _) := Lib.hid (blk_new w _)
  refine start_ (n := 11) (S := fun w' => w'.cell? ⟨w.heap.size, 0, none⟩ = some (Value.slice A xs.length c)) (ds := [9]) #[false, false, false, false, false, false, false, false, false, false, false] (by kernel_rfl) rfl rfl (blk_cell B1.out (j := 0) rfl) (fun hHeld => ?_)
  refine pure_ (i := 0) (N := some 18) (v := ?_) (a' := ?_) #[true, false, false, false, false, false, false, false, false, false, false] rfl rfl (by kernel_rfl) (fun _ _ _ h => h) (Or.inl ⟨by rfl, ?_⟩) ?_ ?_
  rotate_left
  · intro w'
    go_simp
    with_reducible rfl
  rotate_left
  · simp only [Act.put, List.setIfInBounds_toArray, List.set_cons_zero, List.set_cons_succ, i64_w, i32_w]
    rfl
  refine take_ (i := 1) (N := some 19) (v := ?_) (a' := ?_) #[true, true, false, false, false, false, false, false, false, false, false] rfl rfl (by kernel_rfl) (fun _ _ _ h => h) (Or.inl ⟨by rfl, ?_⟩) hHeld ?_ ?_
  rotate_left
  · intro w' s0
    go_simp
    with_reducible rfl
  rotate_left
  · simp only [Act.put, List.setIfInBounds_toArray, List.set_cons_zero, List.set_cons_succ, i64_w, i32_w]
    rfl
  refine pure_ (i := 4) (N := some 22) (v := ?_) (a' := ?_) #[true, true, false, false, true, false, false, false, false, false, false] rfl rfl (by kernel_rfl) (fun _ _ _ h => h) (Or.inl ⟨by rfl, ?_⟩) ?_ ?_
  rotate_left
  · intro w'
    go_simp
    with_reducible rfl
  rotate_left
  · simp only [Act.put, List.setIfInBounds_toArray, List.set_cons_zero, List.set_cons_succ, i64_w, i32_w]
    rfl
  refine pure_ (i := 5) (N := some 23) (v := ?_) (a' := ?_) #[true, true, false, false, true, true, false, false, false, false, false] rfl rfl (by kernel_rfl) (fun _ _ _ h => h) (Or.inl ⟨by rfl, ?_⟩) ?_ ?_
  rotate_left
  · intro w'
    go_simp
    with_reducible rfl
  rotate_left
  · simp only [Act.put, List.setIfInBounds_toArray, List.set_cons_zero, List.set_cons_succ, i64_w, i32_w]
    rfl
  refine pure_ (i := 6) (N := some 24) (v := ?_) (a' := ?_) #[true, true, false, false, true, true, true, false, false, false, false] rfl rfl (by kernel_rfl) (fun _ _ _ h => h) (Or.inl ⟨by rfl, ?_⟩) ?_ ?_
  rotate_left
  · intro w'
    go_simp
    with_reducible rfl
  rotate_left
  · simp only [Act.put, List.setIfInBounds_toArray, List.set_cons_zero, List.set_cons_succ, i64_w, i32_w]
    rfl
  refine pure_ (i := 7) (N := some 25) (v := ?_) (a' := ?_) #[true, true, false, false, true, true, true, true, false, false, false] rfl rfl (by kernel_rfl) (fun _ _ _ h => h) (Or.inl ⟨by rfl, ?_⟩) ?_ ?_
  rotate_left
  · intro w'
    go_simp
    with_reducible rfl
  rotate_left
  · simp only [Act.put, List.setIfInBounds_toArray, List.set_cons_zero, List.set_cons_succ, i64_w, i32_w]
    rfl
  refine pure_ (i := 8) (N := some 26) (v := ?_) (a' := ?_) #[true, true, false, false, true, true, true, true, true, false, false] rfl rfl (by kernel_rfl) (fun _ _ _ h => h) (Or.inl ⟨by rfl, ?_⟩) ?_ ?_
  rotate_left
  · intro w'
    go_simp
    with_reducible rfl
  rotate_left
  · simp only [Act.put, List.setIfInBounds_toArray, List.set_cons_zero, List.set_cons_succ, i64_w, i32_w]
    rfl
  refine one_ (i := 2) (N := some 20) #[true, true, true, false, true, true, true, true, true, false, false] rfl rfl (by kernel_rfl) (by decide) (fun K hK => ?_)
  refine goes_ Try.func10 (by kernel_rfl) rfl #[.slice A xs.length c, .int .i64 132] (by rfl) rfl rfl (by (try simp only [List.map_toArray, List.map_cons, List.map_nil]); first | done | rfl) ?_
  refine (HF.out _ hd1).mono ?_
  rintro e w2 ⟨v2, rfl, hs2, hf2, hb2⟩
  obtain ⟨A2, c2, rfl, _, _⟩ := hs2.form
  refine ⟨_, rfl, ?_⟩
  have J1 := Lib.hid (blk_call hb2 B1.out)
  refine hK.out _ _ (blk_cell J1.out (j := 0) rfl) (fun hHeld => ?_)
  clear hK K
  refine norm_ (a' := ?_) ?_ ?_
  rotate_left
  · show Act.put _ (some 20) _ = _
    simp only [Act.put, List.setIfInBounds_toArray, List.set_cons_zero, List.set_cons_succ, i64_w, i32_w]
    rfl
  refine pure_ (i := 3) (N := some 21) (v := ?_) (a' := ?_) #[true, true, true, true, true, true, true, true, true, false, false] rfl rfl (by kernel_rfl) (fun _ _ _ h => h) (Or.inl ⟨by rfl, ?_⟩) ?_ ?_
  rotate_left
  · intro w'
    go_simp
    with_reducible rfl
  rotate_left
  · simp only [Act.put, List.setIfInBounds_toArray, List.set_cons_zero, List.set_cons_succ, i64_w, i32_w]
    rfl
  refine last_ (i := 9) (N := none) #[true, true, true, true, true, true, true, true, true, true, false] rfl rfl (by kernel_rfl) (by decide) (fun K hK => ?_)
  have q0 := blk_cell J1.out (j := 0) rfl
  have z0 := blk_free J1.out 0
  refine skip_ (w1 := ?_) (by rfl) rfl ?_ ?_
  rotate_left
  · go_simp
    rfl
  refine hK.out _ _ ?_
  clear hK K
  refine pure_ (i := 10) (N := some 1) (v := ?_) (a' := ?_) #[true, true, true, true, true, true, true, true, true, true, true] rfl rfl (by kernel_rfl) (fun _ _ _ h => h) (Or.inl ⟨by rfl, ?_⟩) ?_ ?_
  rotate_left
  · intro w'
    go_simp
    with_reducible rfl
  rotate_left
  · simp only [Act.put, List.setIfInBounds_toArray, List.set_cons_zero, List.set_cons_succ, i64_w, i32_w]
    rfl
  refine done_ (by kernel_rfl) ?_
  rw [← HP.out]
  have S5 := Lib.hid (hs2.store (p := ⟨w.heap.size, 0, none⟩) (fun b hb => by have h1 := hf2 b hb; have h3 : (w.alloc (.cells #[.slice A xs.length c] 24)).drew.heap.size = w.heap.size + 1 := size_alloc _ _; show b ≠ w.heap.size; omega) (.slice A2 D.length c2))
  have B5 := Lib.hid (bset (bel (bdn (bal (Below.refl w.heap.size w) (.cells #[.slice A xs.length c] 24)) 1) hb2) (p := ⟨w.heap.size, 0, none⟩) (Nat.le_refl _) (.slice A2 D.length c2))
  have C5 : (w2.setCell ⟨w.heap.size, 0, none⟩ (.slice A2 D.length c2)).cell? ⟨w.heap.size, 0, none⟩ = some (.slice A2 D.length c2) := blk_cell (blk_set J1.out 0 _) (j := 0) rfl
  have L5 : w.heap.size < (w2.setCell ⟨w.heap.size, 0, none⟩ (.slice A2 D.length c2)).heap.size := blk_lt (blk_set J1.out 0 _)
  generalize w2.setCell ⟨w.heap.size, 0, none⟩ (.slice A2 D.length c2) = W5 at S5 B5 C5 L5 ⊢
  clear J1 hs2 hf2 hb2 B1 hd1 HF HS HD HP
  rcases again_cases D p hps with ⟨k, hk, e⟩ | ⟨g, t, l, hl, e, hok, ha, ht⟩
  · have hB0 := fun W (h : SlAt W (Value.slice A2 D.length c2) 1 D.length (strs D)) => boot04_any _ D W h (by omega)
    rw [e] at hB0
    have HB := Lib.hid hB0
    have hk2 : (k != 0) = true := by simpa using hk
    clear hB0 e hk
    go_wp2_with fail
    refine (HB.out W5 S5.out).mono ?_
    rintro e w' ⟨v1, v2, rfl, hs1, hs2, hf, hb⟩
    obtain ⟨ay1, cy1, rfl, _, _⟩ := hs1.form
    obtain ⟨by1, dy1, rfl, _, _⟩ := hs2.form
    have HS1 := Lib.hid hs1
    have HS2 := Lib.hid hs2
    obtain ⟨y1, rfl⟩ := ext_of hb
    clear hs1 hs2 hf hb
    go_wp2_with fail
    refine (alive04_any _).mono ?_
    rintro e w' ⟨rfl, hb⟩
    obtain ⟨y2, rfl⟩ := ext_of hb
    clear hb
    go_wp2_with fail
    go_ret
    exact ⟨by first | rfl | simp, B5.out.trans (bels (Below.refl _ _) (Nat.le_of_lt L5) (by repeat (first | exact Below.refl _ _ | apply bal | apply bext | apply bdr | apply bdrN | (refine bst ?_ _ (by simp only [ext_size, size_alloc, size_set]; omega)))))⟩
  · have hB0 := fun W (h : SlAt W (Value.slice A2 D.length c2) 1 D.length (strs D)) => boot04_any _ D W h (by omega)
    rw [e] at hB0
    have HB := Lib.hid hB0
    have hR0 : ∀ W v, SlAt W v 1 D.length (strs D) → Calls Try.prog 13 #[.agg (SC v g l.length t false)] W fun e w' => e = .returned (.bool true) ∧ Below W.heap.size W w' := by
      intro W v h
      have := sRight_any ⟨D, g, l.length, t, false⟩ v W h
      rw [hok] at this
      exact this
    have HR := Lib.hid hR0
    have hM0 : ∀ W v u, SlAt W v 1 D.length (strs D) → SlAt W u 1 D.length (strs D) → Calls Try.prog 31 #[.agg #[v], .agg #[u]] W fun e w' => e = .returned (.bool true) ∧ Below W.heap.size W w' := by
      intro W v u h k
      have := same04_any v u D D W h k (by omega)
      rw [decide_eq_true rfl] at this
      exact this
    have HM := Lib.hid hM0
    have hT0 : ∀ W v v1, SlAt W v 1 D.length (strs D) → SlAt W v1 1 l.length (strs l) → Calls Try.prog 22 #[.agg (SC v g l.length t false), v1, .slice none 0 0] W _ := fun W v v1 h k => turn04_any ⟨D, g, l.length, t, false⟩ v v1 (.slice none 0 0) l [] W h k (SlAt.nil _ _)
    have hA0 : ∀ W v, SlAt W v 1 D.length (strs D) → Calls Try.prog 21 #[.agg (SC v g l.length t false), .string p, .agg #[.int .i64 0, .int .i64 0]] W _ := fun W v h => app04_any ⟨D, g, l.length, t, false⟩ v p ⟨0, 0⟩ W h
    clear hB0 e hok hR0 hM0
    rcases ha with ea | ⟨E, rest, u, hE, hrs, ea, eb⟩ <;> rcases ht with et | ⟨F, g', u', hF, et, ef⟩
    · rw [ea] at hA0
      rw [et] at hT0
      have HA := Lib.hid hA0
      have HT := Lib.hid hT0
      clear hA0 hT0 ea et
      go_wp2_with fail
      refine (HB.out W5 S5.out).mono ?_
      rintro e w' ⟨v1, v2, rfl, hs1, hs2, hf, hb⟩
      obtain ⟨ay1, cy1, rfl, _, _⟩ := hs1.form
      obtain ⟨by1, dy1, rfl, _, _⟩ := hs2.form
      have HS1 := Lib.hid hs1
      have HS2 := Lib.hid hs2
      obtain ⟨y1, rfl⟩ := ext_of hb
      clear hs1 hs2 hf hb
      go_wp2_with fail
      refine (HR.out _ _ (HS1.out.stay (by repeat (first | exact Below.refl _ _ | apply bal | apply bext | apply bdr | apply bdrN | (refine bst ?_ _ (by simp only [ext_size, size_alloc, size_set]; omega)))))).mono ?_
      rintro e w' ⟨rfl, hb⟩
      obtain ⟨y2, rfl⟩ := ext_of hb
      clear hb
      go_wp2_with fail
      refine (HM.out _ _ _ (HS1.out.stay (by repeat (first | exact Below.refl _ _ | apply bal | apply bext | apply bdr | apply bdrN | (refine bst ?_ _ (by simp only [ext_size, size_alloc, size_set]; omega))))) (S5.out.stay (by repeat (first | exact Below.refl _ _ | apply bal | apply bext | apply bdr | apply bdrN | (refine bst ?_ _ (by simp only [ext_size, size_alloc, size_set]; omega)))))).mono ?_
      rintro e w' ⟨rfl, hb⟩
      obtain ⟨y3, rfl⟩ := ext_of hb
      clear hb
      go_wp2_with fail
      refine (alive04_any _).mono ?_
      rintro e w' ⟨rfl, hb⟩
      obtain ⟨y4, rfl⟩ := ext_of hb
      clear hb
      go_wp2_with fail
      refine (HA.out _ _ (HS1.out.stay (by repeat (first | exact Below.refl _ _ | apply bal | apply bext | apply bdr | apply bdrN | (refine bst ?_ _ (by simp only [ext_size, size_alloc, size_set]; omega)))))).mono ?_
      rintro e w' ⟨v1, rfl, hs1, hb⟩
      obtain ⟨ay5, cy5, rfl, _, _⟩ := hs1.form
      have HS3 := Lib.hid hs1
      obtain ⟨y5, rfl⟩ := ext_of hb
      clear hs1 hb
      go_wp2_with fail
      refine (HT.out _ _ _ (HS1.out.stay (by repeat (first | exact Below.refl _ _ | apply bal | apply bext | apply bdr | apply bdrN | (refine bst ?_ _ (by simp only [ext_size, size_alloc, size_set]; omega))))) (HS2.out.stay (by repeat (first | exact Below.refl _ _ | apply bal | apply bext | apply bdr | apply bdrN | (refine bst ?_ _ (by simp only [ext_size, size_alloc, size_set]; omega)))))).mono ?_
      rintro e w' ⟨v1, rfl, hs1, hb⟩
      obtain ⟨ay8, cy8, rfl, _, _⟩ := hs1.form
      have HS6 := Lib.hid hs1
      obtain ⟨y8, rfl⟩ := ext_of hb
      clear hs1 hb
      go_wp2_with fail
      go_ret
      exact ⟨by first | rfl | simp, B5.out.trans (bels (Below.refl _ _) (Nat.le_of_lt L5) (by repeat (first | exact Below.refl _ _ | apply bal | apply bext | apply bdr | apply bdrN | (refine bst ?_ _ (by simp only [ext_size, size_alloc, size_set]; omega)))))⟩
    · rw [ea] at hA0
      rw [et] at hT0
      have HA := Lib.hid hA0
      have HT := Lib.hid hT0
      clear hA0 hT0 ea et
      have hF0 := fun W v (h : SlAt W v 1 F.length (strs F)) => boot04_any v F W h (by omega)
      rw [ef] at hF0
      have HFF := Lib.hid hF0
      have hY0 : ∀ W v u, SlAt W v 1 l.length (strs l) → SlAt W u 1 l.length (strs l) → Calls Try.prog 20 #[v, u] W fun e w' => e = .returned (.bool true) ∧ Below W.heap.size W w' := by
        intro W v u h k
        have := texts04_any v u l l W h k (by omega)
        rw [decide_eq_true rfl] at this
        exact this
      have HY := Lib.hid hY0
      clear hF0 ef hY0
      go_wp2_with fail
      refine (HB.out W5 S5.out).mono ?_
      rintro e w' ⟨v1, v2, rfl, hs1, hs2, hf, hb⟩
      obtain ⟨ay1, cy1, rfl, _, _⟩ := hs1.form
      obtain ⟨by1, dy1, rfl, _, _⟩ := hs2.form
      have HS1 := Lib.hid hs1
      have HS2 := Lib.hid hs2
      obtain ⟨y1, rfl⟩ := ext_of hb
      clear hs1 hs2 hf hb
      go_wp2_with fail
      refine (HR.out _ _ (HS1.out.stay (by repeat (first | exact Below.refl _ _ | apply bal | apply bext | apply bdr | apply bdrN | (refine bst ?_ _ (by simp only [ext_size, size_alloc, size_set]; omega)))))).mono ?_
      rintro e w' ⟨rfl, hb⟩
      obtain ⟨y2, rfl⟩ := ext_of hb
      clear hb
      go_wp2_with fail
      refine (HM.out _ _ _ (HS1.out.stay (by repeat (first | exact Below.refl _ _ | apply bal | apply bext | apply bdr | apply bdrN | (refine bst ?_ _ (by simp only [ext_size, size_alloc, size_set]; omega))))) (S5.out.stay (by repeat (first | exact Below.refl _ _ | apply bal | apply bext | apply bdr | apply bdrN | (refine bst ?_ _ (by simp only [ext_size, size_alloc, size_set]; omega)))))).mono ?_
      rintro e w' ⟨rfl, hb⟩
      obtain ⟨y3, rfl⟩ := ext_of hb
      clear hb
      go_wp2_with fail
      refine (alive04_any _).mono ?_
      rintro e w' ⟨rfl, hb⟩
      obtain ⟨y4, rfl⟩ := ext_of hb
      clear hb
      go_wp2_with fail
      refine (HA.out _ _ (HS1.out.stay (by repeat (first | exact Below.refl _ _ | apply bal | apply bext | apply bdr | apply bdrN | (refine bst ?_ _ (by simp only [ext_size, size_alloc, size_set]; omega)))))).mono ?_
      rintro e w' ⟨v1, rfl, hs1, hb⟩
      obtain ⟨ay5, cy5, rfl, _, _⟩ := hs1.form
      have HS3 := Lib.hid hs1
      obtain ⟨y5, rfl⟩ := ext_of hb
      clear hs1 hb
      go_wp2_with fail
      refine (HT.out _ _ _ (HS1.out.stay (by repeat (first | exact Below.refl _ _ | apply bal | apply bext | apply bdr | apply bdrN | (refine bst ?_ _ (by simp only [ext_size, size_alloc, size_set]; omega))))) (HS2.out.stay (by repeat (first | exact Below.refl _ _ | apply bal | apply bext | apply bdr | apply bdrN | (refine bst ?_ _ (by simp only [ext_size, size_alloc, size_set]; omega)))))).mono ?_
      rintro e w' ⟨v1, rfl, hs1, hb⟩
      obtain ⟨ay8, cy8, rfl, _, _⟩ := hs1.form
      have HS6 := Lib.hid hs1
      obtain ⟨y8, rfl⟩ := ext_of hb
      clear hs1 hb
      go_wp2_with fail
      refine (HFF.out _ _ (HS6.out.stay (by repeat (first | exact Below.refl _ _ | apply bal | apply bext | apply bdr | apply bdrN | (refine bst ?_ _ (by simp only [ext_size, size_alloc, size_set]; omega)))))).mono ?_
      rintro e w' ⟨v1, v2, rfl, hs1, hs2, hf, hb⟩
      obtain ⟨ay9, cy9, rfl, _, _⟩ := hs1.form
      obtain ⟨by9, dy9, rfl, _, _⟩ := hs2.form
      have HS7 := Lib.hid hs1
      have HS8 := Lib.hid hs2
      obtain ⟨y9, rfl⟩ := ext_of hb
      clear hs1 hs2 hf hb
      go_wp2_with fail
      refine (HY.out _ _ _ (HS8.out.stay (by repeat (first | exact Below.refl _ _ | apply bal | apply bext | apply bdr | apply bdrN | (refine bst ?_ _ (by simp only [ext_size, size_alloc, size_set]; omega))))) (HS2.out.stay (by repeat (first | exact Below.refl _ _ | apply bal | apply bext | apply bdr | apply bdrN | (refine bst ?_ _ (by simp only [ext_size, size_alloc, size_set]; omega)))))).mono ?_
      rintro e w' ⟨rfl, hb⟩
      obtain ⟨y10, rfl⟩ := ext_of hb
      clear hb
      go_wp2_with fail
      go_ret
      exact ⟨by first | rfl | simp, B5.out.trans (bels (Below.refl _ _) (Nat.le_of_lt L5) (by repeat (first | exact Below.refl _ _ | apply bal | apply bext | apply bdr | apply bdrN | (refine bst ?_ _ (by simp only [ext_size, size_alloc, size_set]; omega)))))⟩
    · rw [ea] at hA0
      rw [et] at hT0
      have HA := Lib.hid hA0
      have HT := Lib.hid hT0
      clear hA0 hT0 ea et
      have hE0 := fun W v (h : SlAt W v 1 E.length (strs E)) => boot04_any v E W h (by omega)
      rw [eb] at hE0
      have HE := Lib.hid hE0
      have hX0 : ∀ W v u, SlAt W v 1 l.length (strs l) → SlAt W u 1 l.length (strs l) → Calls Try.prog 20 #[v, u] W fun e w' => e = .returned (.bool true) ∧ Below W.heap.size W w' := by
        intro W v u h k
        have := texts04_any v u l l W h k (by omega)
        rw [decide_eq_true rfl] at this
        exact this
      have HX := Lib.hid hX0
      clear hE0 eb hX0
      go_wp2_with fail
      refine (HB.out W5 S5.out).mono ?_
      rintro e w' ⟨v1, v2, rfl, hs1, hs2, hf, hb⟩
      obtain ⟨ay1, cy1, rfl, _, _⟩ := hs1.form
      obtain ⟨by1, dy1, rfl, _, _⟩ := hs2.form
      have HS1 := Lib.hid hs1
      have HS2 := Lib.hid hs2
      obtain ⟨y1, rfl⟩ := ext_of hb
      clear hs1 hs2 hf hb
      go_wp2_with fail
      refine (HR.out _ _ (HS1.out.stay (by repeat (first | exact Below.refl _ _ | apply bal | apply bext | apply bdr | apply bdrN | (refine bst ?_ _ (by simp only [ext_size, size_alloc, size_set]; omega)))))).mono ?_
      rintro e w' ⟨rfl, hb⟩
      obtain ⟨y2, rfl⟩ := ext_of hb
      clear hb
      go_wp2_with fail
      refine (HM.out _ _ _ (HS1.out.stay (by repeat (first | exact Below.refl _ _ | apply bal | apply bext | apply bdr | apply bdrN | (refine bst ?_ _ (by simp only [ext_size, size_alloc, size_set]; omega))))) (S5.out.stay (by repeat (first | exact Below.refl _ _ | apply bal | apply bext | apply bdr | apply bdrN | (refine bst ?_ _ (by simp only [ext_size, size_alloc, size_set]; omega)))))).mono ?_
      rintro e w' ⟨rfl, hb⟩
      obtain ⟨y3, rfl⟩ := ext_of hb
      clear hb
      go_wp2_with fail
      refine (alive04_any _).mono ?_
      rintro e w' ⟨rfl, hb⟩
      obtain ⟨y4, rfl⟩ := ext_of hb
      clear hb
      go_wp2_with fail
      refine (HA.out _ _ (HS1.out.stay (by repeat (first | exact Below.refl _ _ | apply bal | apply bext | apply bdr | apply bdrN | (refine bst ?_ _ (by simp only [ext_size, size_alloc, size_set]; omega)))))).mono ?_
      rintro e w' ⟨v1, rfl, hs1, hb⟩
      obtain ⟨ay5, cy5, rfl, _, _⟩ := hs1.form
      have HS3 := Lib.hid hs1
      obtain ⟨y5, rfl⟩ := ext_of hb
      clear hs1 hb
      go_wp2_with fail
      refine (HE.out _ _ (HS3.out.stay (by repeat (first | exact Below.refl _ _ | apply bal | apply bext | apply bdr | apply bdrN | (refine bst ?_ _ (by simp only [ext_size, size_alloc, size_set]; omega)))))).mono ?_
      rintro e w' ⟨v1, v2, rfl, hs1, hs2, hf, hb⟩
      obtain ⟨ay6, cy6, rfl, _, _⟩ := hs1.form
      obtain ⟨by6, dy6, rfl, hn6, _⟩ := hs2.form
      have hcap : (l.length : Int) ≤ dy6 := by simp at hn6; omega
      have HS4 := Lib.hid hs1
      have HS5 := Lib.hid hs2
      have HF6 := Lib.hid hf
      obtain ⟨y6, rfl⟩ := ext_of hb
      clear hs1 hs2 hf hb
      obtain ⟨bb, oo, hby, hblt, hcell⟩ := HS5.out.at (by simp; omega)
      subst hby
      have hge := HF6.out bb rfl
      simp only [ext_size, size_alloc] at hge hblt
      have k6 : cellX y6 ⟨bb, oo + l.length, none⟩ = some (.string p) := hcell l.length _ (by simp [strs])
      have hpp := bytes_eq_self p
      have HS9 := Lib.hid (slat_pre (slat_pre HS5.out))
      clear hcell
      go_wp2_with fail
      refine (HX.out _ _ _ (HS9.out.stay (by repeat (first | exact Below.refl _ _ | apply bal | apply bext | apply bdr | apply bdrN | (refine bst ?_ _ (by simp only [ext_size, size_alloc, size_set]; omega))))) (HS2.out.stay (by repeat (first | exact Below.refl _ _ | apply bal | apply bext | apply bdr | apply bdrN | (refine bst ?_ _ (by simp only [ext_size, size_alloc, size_set]; omega)))))).mono ?_
      rintro e w' ⟨rfl, hb⟩
      obtain ⟨y7, rfl⟩ := ext_of hb
      clear hb
      go_wp2_with fail
      refine (HT.out _ _ _ (HS1.out.stay (by repeat (first | exact Below.refl _ _ | apply bal | apply bext | apply bdr | apply bdrN | (refine bst ?_ _ (by simp only [ext_size, size_alloc, size_set]; omega))))) (HS2.out.stay (by repeat (first | exact Below.refl _ _ | apply bal | apply bext | apply bdr | apply bdrN | (refine bst ?_ _ (by simp only [ext_size, size_alloc, size_set]; omega)))))).mono ?_
      rintro e w' ⟨v1, rfl, hs1, hb⟩
      obtain ⟨ay8, cy8, rfl, _, _⟩ := hs1.form
      have HS6 := Lib.hid hs1
      obtain ⟨y8, rfl⟩ := ext_of hb
      clear hs1 hb
      go_wp2_with fail
      go_ret
      exact ⟨by first | rfl | simp, B5.out.trans (bels (Below.refl _ _) (Nat.le_of_lt L5) (by repeat (first | exact Below.refl _ _ | apply bal | apply bext | apply bdr | apply bdrN | (refine bst ?_ _ (by simp only [ext_size, size_alloc, size_set]; omega)))))⟩
    · rw [ea] at hA0
      rw [et] at hT0
      have HA := Lib.hid hA0
      have HT := Lib.hid hT0
      clear hA0 hT0 ea et
      have hE0 := fun W v (h : SlAt W v 1 E.length (strs E)) => boot04_any v E W h (by omega)
      rw [eb] at hE0
      have HE := Lib.hid hE0
      have hX0 : ∀ W v u, SlAt W v 1 l.length (strs l) → SlAt W u 1 l.length (strs l) → Calls Try.prog 20 #[v, u] W fun e w' => e = .returned (.bool true) ∧ Below W.heap.size W w' := by
        intro W v u h k
        have := texts04_any v u l l W h k (by omega)
        rw [decide_eq_true rfl] at this
        exact this
      have HX := Lib.hid hX0
      clear hE0 eb hX0
      have hF0 := fun W v (h : SlAt W v 1 F.length (strs F)) => boot04_any v F W h (by omega)
      rw [ef] at hF0
      have HFF := Lib.hid hF0
      have hY0 : ∀ W v u, SlAt W v 1 l.length (strs l) → SlAt W u 1 l.length (strs l) → Calls Try.prog 20 #[v, u] W fun e w' => e = .returned (.bool true) ∧ Below W.heap.size W w' := by
        intro W v u h k
        have := texts04_any v u l l W h k (by omega)
        rw [decide_eq_true rfl] at this
        exact this
      have HY := Lib.hid hY0
      clear hF0 ef hY0
      go_wp2_with fail
      refine (HB.out W5 S5.out).mono ?_
      rintro e w' ⟨v1, v2, rfl, hs1, hs2, hf, hb⟩
      obtain ⟨ay1, cy1, rfl, _, _⟩ := hs1.form
      obtain ⟨by1, dy1, rfl, _, _⟩ := hs2.form
      have HS1 := Lib.hid hs1
      have HS2 := Lib.hid hs2
      obtain ⟨y1, rfl⟩ := ext_of hb
      clear hs1 hs2 hf hb
      go_wp2_with fail
      refine (HR.out _ _ (HS1.out.stay (by repeat (first | exact Below.refl _ _ | apply bal | apply bext | apply bdr | apply bdrN | (refine bst ?_ _ (by simp only [ext_size, size_alloc, size_set]; omega)))))).mono ?_
      rintro e w' ⟨rfl, hb⟩
      obtain ⟨y2, rfl⟩ := ext_of hb
      clear hb
      go_wp2_with fail
      refine (HM.out _ _ _ (HS1.out.stay (by repeat (first | exact Below.refl _ _ | apply bal | apply bext | apply bdr | apply bdrN | (refine bst ?_ _ (by simp only [ext_size, size_alloc, size_set]; omega))))) (S5.out.stay (by repeat (first | exact Below.refl _ _ | apply bal | apply bext | apply bdr | apply bdrN | (refine bst ?_ _ (by simp only [ext_size, size_alloc, size_set]; omega)))))).mono ?_
      rintro e w' ⟨rfl, hb⟩
      obtain ⟨y3, rfl⟩ := ext_of hb
      clear hb
      go_wp2_with fail
      refine (alive04_any _).mono ?_
      rintro e w' ⟨rfl, hb⟩
      obtain ⟨y4, rfl⟩ := ext_of hb
      clear hb
      go_wp2_with fail
      refine (HA.out _ _ (HS1.out.stay (by repeat (first | exact Below.refl _ _ | apply bal | apply bext | apply bdr | apply bdrN | (refine bst ?_ _ (by simp only [ext_size, size_alloc, size_set]; omega)))))).mono ?_
      rintro e w' ⟨v1, rfl, hs1, hb⟩
      obtain ⟨ay5, cy5, rfl, _, _⟩ := hs1.form
      have HS3 := Lib.hid hs1
      obtain ⟨y5, rfl⟩ := ext_of hb
      clear hs1 hb
      go_wp2_with fail
      refine (HE.out _ _ (HS3.out.stay (by repeat (first | exact Below.refl _ _ | apply bal | apply bext | apply bdr | apply bdrN | (refine bst ?_ _ (by simp only [ext_size, size_alloc, size_set]; omega)))))).mono ?_
      rintro e w' ⟨v1, v2, rfl, hs1, hs2, hf, hb⟩
      obtain ⟨ay6, cy6, rfl, _, _⟩ := hs1.form
      obtain ⟨by6, dy6, rfl, hn6, _⟩ := hs2.form
      have hcap : (l.length : Int) ≤ dy6 := by simp at hn6; omega
      have HS4 := Lib.hid hs1
      have HS5 := Lib.hid hs2
      have HF6 := Lib.hid hf
      obtain ⟨y6, rfl⟩ := ext_of hb
      clear hs1 hs2 hf hb
      obtain ⟨bb, oo, hby, hblt, hcell⟩ := HS5.out.at (by simp; omega)
      subst hby
      have hge := HF6.out bb rfl
      simp only [ext_size, size_alloc] at hge hblt
      have k6 : cellX y6 ⟨bb, oo + l.length, none⟩ = some (.string p) := hcell l.length _ (by simp [strs])
      have hpp := bytes_eq_self p
      have HS9 := Lib.hid (slat_pre (slat_pre HS5.out))
      clear hcell
      go_wp2_with fail
      refine (HX.out _ _ _ (HS9.out.stay (by repeat (first | exact Below.refl _ _ | apply bal | apply bext | apply bdr | apply bdrN | (refine bst ?_ _ (by simp only [ext_size, size_alloc, size_set]; omega))))) (HS2.out.stay (by repeat (first | exact Below.refl _ _ | apply bal | apply bext | apply bdr | apply bdrN | (refine bst ?_ _ (by simp only [ext_size, size_alloc, size_set]; omega)))))).mono ?_
      rintro e w' ⟨rfl, hb⟩
      obtain ⟨y7, rfl⟩ := ext_of hb
      clear hb
      go_wp2_with fail
      refine (HT.out _ _ _ (HS1.out.stay (by repeat (first | exact Below.refl _ _ | apply bal | apply bext | apply bdr | apply bdrN | (refine bst ?_ _ (by simp only [ext_size, size_alloc, size_set]; omega))))) (HS2.out.stay (by repeat (first | exact Below.refl _ _ | apply bal | apply bext | apply bdr | apply bdrN | (refine bst ?_ _ (by simp only [ext_size, size_alloc, size_set]; omega)))))).mono ?_
      rintro e w' ⟨v1, rfl, hs1, hb⟩
      obtain ⟨ay8, cy8, rfl, _, _⟩ := hs1.form
      have HS6 := Lib.hid hs1
      obtain ⟨y8, rfl⟩ := ext_of hb
      clear hs1 hb
      go_wp2_with fail
      refine (HFF.out _ _ (HS6.out.stay (by repeat (first | exact Below.refl _ _ | apply bal | apply bext | apply bdr | apply bdrN | (refine bst ?_ _ (by simp only [ext_size, size_alloc, size_set]; omega)))))).mono ?_
      rintro e w' ⟨v1, v2, rfl, hs1, hs2, hf, hb⟩
      obtain ⟨ay9, cy9, rfl, _, _⟩ := hs1.form
      obtain ⟨by9, dy9, rfl, _, _⟩ := hs2.form
      have HS7 := Lib.hid hs1
      have HS8 := Lib.hid hs2
      obtain ⟨y9, rfl⟩ := ext_of hb
      clear hs1 hs2 hf hb
      go_wp2_with fail
      refine (HY.out _ _ _ (HS8.out.stay (by repeat (first | exact Below.refl _ _ | apply bal | apply bext | apply bdr | apply bdrN | (refine bst ?_ _ (by simp only [ext_size, size_alloc, size_set]; omega))))) (HS2.out.stay (by repeat (first | exact Below.refl _ _ | apply bal | apply bext | apply bdr | apply bdrN | (refine bst ?_ _ (by simp only [ext_size, size_alloc, size_set]; omega)))))).mono ?_
      rintro e w' ⟨rfl, hb⟩
      obtain ⟨y10, rfl⟩ := ext_of hb
      clear hb
      go_wp2_with fail
      go_ret
      exact ⟨by first | rfl | simp, B5.out.trans (bels (Below.refl _ _) (Nat.le_of_lt L5) (by repeat (first | exact Below.refl _ _ | apply bal | apply bext | apply bdr | apply bdrN | (refine bst ?_ _ (by simp only [ext_size, size_alloc, size_set]; omega)))))⟩
end Go.Proofs.Ytopaddpclipnjaa
namespace Go.Proofs.YtopaddpclipnjaaQ.P
open Go.RowKit Go.Proofs.YtopaddpclipnjaaW.PrintWords Go.Proofs.Ytopaddpclipnjaa
theorem StoreAgain_walk (v0 : Value) (xs : List ByteArray) (p : ByteArray) (w : World) (h0 : DskR v0 w xs) (h1 : p.size ≤ maxLen) :
    Calls Try.prog 7 #[v0, .string p] w fun e w' => e = .returned (.bool true) ∧ Below w.heap.size w w' := by
  obtain ⟨A, c, rfl, k1, k2⟩ := h0
  exact again_walk A c xs p w (strs_c k1 k2)
end Go.Proofs.YtopaddpclipnjaaQ.P
namespace Go.Proofs.Ytopaddpclipnjaa.storeAgain
open Go.ChangeShapes Go.WideShapes Go.ChangeAt Go.RowKit Go.Proofs.YtopaddpclipnjaaQ.P
open Go.ChangeMaps (open_string shut_string)
theorem own : ownKnob Try.prog.godebug = none := by kernel_rfl
theorem laidOut : laidOutB Try.prog = true := by kernel_rfl
set_option maxRecDepth 100000 in
theorem lifted (os : Os) (started : os.Started) (H : Type) (enc : TypeId × Value → H) :
    ReturnsInHanded {} Try.checked os 7 .any (Rows.storeAgainSpec.pre6 enc Try.prog Try.f7 Rows.storeAgainRow.domain false) (Rows.storeAgainSpec.post enc Try.prog Try.f7 false true false false) := by
  refine returnsInHanded_of_change (C := Try.checked) own started (by kernel_rfl) Try.func7
    (ChangeSpec.witness6 (enc := enc) (C := Try.checked) false ⟨#[], #[.agg #[.slice none 0 0], .string ByteArray.empty], []⟩ 8 (by kernel_rfl) (by kernel_rfl) (by kernel_rfl) (by kernel_rfl)) ?_
  intro W base args ds gs before hval0 hW hcnd _
  have hval : ∀ (j : Nat) t v, Try.f7.params[j]? = some t → args[j]? = some v → Value.okWide Try.prog W .any base t v := hval0
  have hW' := hW
  obtain ⟨p, q, hA0, hV, rfl, hfz, hnd⟩ := hW
  have hA : DataW.TrodAll enc Try.prog W 0 (fun _ => true) true Try.f7.params.toList args.toList ds p := hA0
  rw [Try.params7] at hA hval
  obtain ⟨v0, vs0, d0, ds0, p0, q0, hargs, rfl, rfl, h0, r0⟩ := trodAll_cons hA
  obtain ⟨v1, vs1, d1, ds1, p1, q1, rfl, rfl, rfl, h1, r1⟩ := trodAll_cons r0
  obtain ⟨rfl, rfl, rfl⟩ := trodAll_nil r1
  obtain rfl : args = #[v0, v1] := by cases args; simp_all
  obtain ⟨rfl, rfl⟩ := trodVars_none hV
  have lt0 : ∀ x ∈ p0, x.block < W.heap.size := by obtain ⟨m, hm⟩ := h0; exact DataW.trod_lt m _ _ _ hm
  have k0 := h0
  have lt1 : ∀ x ∈ p1, x.block < W.heap.size := by obtain ⟨m, hm⟩ := h1; exact DataW.trod_lt m _ _ _ hm
  have k1 := h1
  obtain ⟨a0, w0⟩ := argDsk (hval 0 24 v0 rfl rfl) h0
  obtain ⟨a1, rfl, rfl, rfl, w1⟩ := open_string Try.underlying9 (hval 1 9 v1 rfl rfl) h1
  clear hA0 hval0
  refine (StoreAgain_walk v0 a0 a1 W w0 w1).mono fun e W' ⟨he, bel⟩ => ?_
  subst he
  exact ⟨_, rfl, _, _, _, [], _, [], hW', trodAll_mk1 (shut_bool Try.underlying4 _), (trodAll_cons_mk (Below.trod laidOut (by kernel_rfl) (of_decide_eq_true (by kernel_rfl)) k0 bel lt0) (trodAll_cons_mk (Below.trod laidOut (by kernel_rfl) (of_decide_eq_true (by kernel_rfl)) k1 bel lt1) trodAll_mk0)), rfl, bel.frame _, fun h => by cases h⟩
theorem over : Rows.storeAgainRow.holds Try.pinned (OpenSpec.ofChange Rows.storeAgainSpec) :=
  OpenClaim.holds_of_wide 7 Try.f7 rfl rfl rfl rfl rfl rfl rfl ⟨rfl, rfl, rfl, rfl, rfl⟩ rfl rfl rfl rfl rfl (by kernel_rfl) Try.func7 (by kernel_rfl)
    (of_decide_eq_true (by kernel_rfl)) (by unfold Func.isWrapper; first | (rw [if_pos (by decide +kernel)]; kernel_rfl) | (rw [if_neg (by decide +kernel)]; exact ⟨rfl, rfl⟩))
    (fun os started H enc _ => lifted os started H enc)
end Go.Proofs.Ytopaddpclipnjaa.storeAgain
namespace Go.Proofs.Ytopaddpclipnjaa
theorem storeAgain_holds : Rows.StoreAgainSaid := storeAgain.over
#print axioms storeAgain_holds
end Go.Proofs.Ytopaddpclipnjaa
