/- The statement 'StoreBoots': for every input the law returns true, and each argument reads behind the call as it read before. No condition. -/
import Derived.WideShapes
import Derived.Test.YtopaddpclipnjaaRows
import Derived.WalkKit
import Derived.ProofKit
import Derived.OpenShut
import Derived.ShutString
import Derived.Below
import Derived.Carry
import Derived.Test.YtopaddpclipnjaaStoreBootsz1
import Derived.Test.YtopaddpclipnjaaStoreBootsz2
import Derived.Test.YtopaddpclipnjaaStoreBootsz3
import Derived.Test.YtopaddpclipnjaaStoreBootsz4
import Derived.Test.YtopaddpclipnjaaStoreBootsz5
import Derived.Test.YtopaddpclipnjaaStoreBootsz6
set_option linter.unusedVariables false
set_option linter.unusedSimpArgs false
namespace Go.Proofs.YtopaddpclipnjaaQ.P
open Go.RowKit Go.Proofs.YtopaddpclipnjaaW.PrintWords Go.Proofs.YtopaddpclipnjaaW.PrintLast Go.Proofs.YtopaddpclipnjaaW.PrintMore
attribute [local go_sem] max2_int min2_int max_two min_two max_three min_three max_four min_four
mutual
def foghornlaw04_StoreBoots.j0 : Nat → Int → Int → List ByteArray → Int → Bool → List ByteArray → List ByteArray → Int → Int → Int → Bool → List ByteArray → Int → Int → Int → Bool → Int → Int → Int → Bool → Option (Bool)
 | 0, _, _, _, _, _, _, _, _, _, _, _, _, _, _, _, _, _, _, _, _ => none
 | k + 1, x0, x8, x10, x11, x42, x276000, x295000, x295001, x295002, x295003, x295004, x307000, x307001, x307002, x307003, x307004, x308001, x308002, x308003, x308004 => if x42 = true then (some false) else (if x0 < 10 then (foghornlaw04_StoreBoots.j1 k x0 x8 x10 x11 true x276000 x295000 x295001 x295002 x295003 x295004 x307000 x307001 x307002 x307003 x307004 x308001 x308002 x308003 x308004) else (if x0 > 130 then (foghornlaw04_StoreBoots.j1 k x0 x8 x10 x11 true x276000 x295000 x295001 x295002 x295003 x295004 x307000 x307001 x307002 x307003 x307004 x308001 x308002 x308003 x308004) else (foghornlaw04_StoreBoots.j1 k x0 x8 x10 x11 ((Int.tmod x0 2) != 0) x276000 x295000 x295001 x295002 x295003 x295004 x307000 x307001 x307002 x307003 x307004 x308001 x308002 x308003 x308004)))
def foghornlaw04_StoreBoots.j1 : Nat → Int → Int → List ByteArray → Int → Bool → List ByteArray → List ByteArray → Int → Int → Int → Bool → List ByteArray → Int → Int → Int → Bool → Int → Int → Int → Bool → Option (Bool)
 | 0, _, _, _, _, _, _, _, _, _, _, _, _, _, _, _, _, _, _, _, _ => none
 | k + 1, x0, x8, x10, x11, x53, x276000, x295000, x295001, x295002, x295003, x295004, x307000, x307001, x307002, x307003, x307004, x308001, x308002, x308003, x308004 => if x53 = true then (if x8 = 2 then ((foghornref04_Same.f k x295000 x295001 x295002 x295003 x295004 ([] : List ByteArray) x308001 x308002 x308003 x308004).bind fun t311 => (if t311 = true then (foghornlaw04_StoreBoots.j2 k x10 x11 x276000 x307000 x307001 x307002 x307003 x307004 x308001 x308002 x308003 x308004) else (some false))) else (some false)) else (if x8 = 0 then ((foghornref04_New.f k x0).bind fun bt312 => ((foghornref04_Same.f k x295000 x295001 x295002 x295003 x295004 bt312.1 bt312.2.1 bt312.2.2.1 bt312.2.2.2.1 bt312.2.2.2.2).bind fun t319 => (if t319 = true then (foghornlaw04_StoreBoots.j2 k x10 x11 x276000 x307000 x307001 x307002 x307003 x307004 x308001 x308002 x308003 x308004) else (some false)))) else (some false))
def foghornlaw04_StoreBoots.j2 : Nat → List ByteArray → Int → List ByteArray → List ByteArray → Int → Int → Int → Bool → Int → Int → Int → Bool → Option (Bool)
 | 0, _, _, _, _, _, _, _, _, _, _, _, _ => none
 | k + 1, x10, x11, x276000, x307000, x307001, x307002, x307003, x307004, x308001, x308002, x308003, x308004 => (foghornref04_Log.f k x276000).bind fun t320 => (if t320 = true then ((foghornref04_Boot.f k x276000).bind fun bt322 => (if bt322.2.2.2.2.2.2 = true then (if x11 = 0 then ((foghornref04_Same.f k x307000 x307001 x307002 x307003 x307004 bt322.1 bt322.2.1 bt322.2.2.1 bt322.2.2.2.1 bt322.2.2.2.2.1).bind fun t334 => (if t334 = true then ((foghornref04_Texts.f k x10 bt322.2.2.2.2.2.1).bind fun t335 => (some t335)) else (some false))) else (some false)) else (if x11 = 4 then (if (x10.length : Int) = 0 then ((foghornref04_Same.f k x307000 x307001 x307002 x307003 x307004 ([] : List ByteArray) x308001 x308002 x308003 x308004).bind fun t336 => (some t336)) else (some false)) else (some false)))) else (if x11 = 1 then (if (x10.length : Int) = 0 then ((foghornref04_Same.f k x307000 x307001 x307002 x307003 x307004 ([] : List ByteArray) x308001 x308002 x308003 x308004).bind fun t321 => (some t321)) else (some false)) else (some false)))
end
def foghornlaw04_StoreBoots.f (k : Nat) (a0 : Int) (l1_0 : List ByteArray) (a1_1 : Int) (a1_2 : Int) (a1_3 : Int) (a1_4 : Bool) (l2_0 : List ByteArray) : Option (Bool) := (foghornlaw04_cut.f k l1_0 a1_1 a1_2 a1_3 a1_4).bind fun bt276 => ((foghornlaw04_few.f k l2_0 132).bind fun t283 => ((store_New.f k a0).bind fun bt286 => ((store_Boot.f k t283).bind fun bt295 => ((store_Right.f bt276.1 bt276.2.1 bt276.2.2.1 bt276.2.2.2.1 bt276.2.2.2.2).bind fun t308 => ((foghornref04_Right.f k bt276.1 bt276.2.1 bt276.2.2.1 bt276.2.2.2.1 bt276.2.2.2.2).bind fun t309 => (if (t308 != t309) = true then (foghornlaw04_StoreBoots.j0 k a0 bt286.2.2.2.2.2 bt295.2.2.2.2.2.1 bt295.2.2.2.2.2.2 true t283 bt286.1 bt286.2.1 bt286.2.2.1 bt286.2.2.2.1 bt286.2.2.2.2.1 bt295.1 bt295.2.1 bt295.2.2.1 bt295.2.2.2.1 bt295.2.2.2.2.1 0 0 0 false) else ((foghornlaw04_alive.f k).bind fun t310 => (foghornlaw04_StoreBoots.j0 k a0 bt286.2.2.2.2.2 bt295.2.2.2.2.2.1 bt295.2.2.2.2.2.2 (!t310) t283 bt286.1 bt286.2.1 bt286.2.2.1 bt286.2.2.2.1 bt286.2.2.2.2.1 bt295.1 bt295.2.1 bt295.2.2.1 bt295.2.2.2.1 bt295.2.2.2.2.1 0 0 0 false))))))))
theorem foghornlaw04_StoreBoots.mono_l : ∀ k, (∀ y0 y1 y2 y3 y4 y5 y6 y7 y8 y9 y10 y11 y12 y13 y14 y15 y16 y17 y18 y19, LeO (foghornlaw04_StoreBoots.j0 k y0 y1 y2 y3 y4 y5 y6 y7 y8 y9 y10 y11 y12 y13 y14 y15 y16 y17 y18 y19) (foghornlaw04_StoreBoots.j0 (k + 1) y0 y1 y2 y3 y4 y5 y6 y7 y8 y9 y10 y11 y12 y13 y14 y15 y16 y17 y18 y19)) ∧ (∀ y0 y1 y2 y3 y4 y5 y6 y7 y8 y9 y10 y11 y12 y13 y14 y15 y16 y17 y18 y19, LeO (foghornlaw04_StoreBoots.j1 k y0 y1 y2 y3 y4 y5 y6 y7 y8 y9 y10 y11 y12 y13 y14 y15 y16 y17 y18 y19) (foghornlaw04_StoreBoots.j1 (k + 1) y0 y1 y2 y3 y4 y5 y6 y7 y8 y9 y10 y11 y12 y13 y14 y15 y16 y17 y18 y19)) ∧ (∀ y0 y1 y2 y3 y4 y5 y6 y7 y8 y9 y10 y11, LeO (foghornlaw04_StoreBoots.j2 k y0 y1 y2 y3 y4 y5 y6 y7 y8 y9 y10 y11) (foghornlaw04_StoreBoots.j2 (k + 1) y0 y1 y2 y3 y4 y5 y6 y7 y8 y9 y10 y11))
 | 0 => ⟨fun _ _ _ _ _ _ _ _ _ _ _ _ _ _ _ _ _ _ _ _ r h => by simp [foghornlaw04_StoreBoots.j0] at h, fun _ _ _ _ _ _ _ _ _ _ _ _ _ _ _ _ _ _ _ _ r h => by simp [foghornlaw04_StoreBoots.j1] at h, fun _ _ _ _ _ _ _ _ _ _ _ _ r h => by simp [foghornlaw04_StoreBoots.j2] at h⟩
 | k + 1 => by
  obtain ⟨ih0, ih1, ih2⟩ := foghornlaw04_StoreBoots.mono_l k
  refine ⟨?_, ?_, ?_⟩
  ·intro y0 y1 y2 y3 y4 y5 y6 y7 y8 y9 y10 y11 y12 y13 y14 y15 y16 y17 y18 y19
   unfold foghornlaw04_StoreBoots.j0
   repeat' first
   | (with_reducible exact ih0 _ _ _ _ _ _ _ _ _ _ _ _ _ _ _ _ _ _ _ _)
   | (with_reducible exact ih1 _ _ _ _ _ _ _ _ _ _ _ _ _ _ _ _ _ _ _ _)
   | (with_reducible exact ih2 _ _ _ _ _ _ _ _ _ _ _ _)
   | (with_reducible exact foghornlaw04_alive.mono _)
   | (with_reducible exact foghornlaw04_cut.mono _ _ _ _ _ _)
   | (with_reducible exact foghornlaw04_few.mono _ _ _)
   | (with_reducible exact foghornref04_Boot.mono _ _)
   | (with_reducible exact foghornref04_Log.mono _ _)
   | (with_reducible exact foghornref04_New.mono _ _)
   | (with_reducible exact foghornref04_Right.mono _ _ _ _ _ _)
   | (with_reducible exact foghornref04_Same.mono _ _ _ _ _ _ _ _ _ _ _)
   | (with_reducible exact foghornref04_Texts.mono _ _ _)
   | (with_reducible exact store_Boot.mono _ _)
   | (with_reducible exact store_New.mono _ _)
   | (with_reducible exact LeO.refl _)
   | (with_reducible exact LeO.none _)
   | (with_reducible refine LeO.ite ?_ ?_)
   | (with_reducible refine LeO.bind ?_ (fun _ => ?_))
   | exact ih0 _ _ _ _ _ _ _ _ _ _ _ _ _ _ _ _ _ _ _ _
   | exact ih1 _ _ _ _ _ _ _ _ _ _ _ _ _ _ _ _ _ _ _ _
   | exact ih2 _ _ _ _ _ _ _ _ _ _ _ _
   | exact foghornlaw04_alive.mono _
   | exact foghornlaw04_cut.mono _ _ _ _ _ _
   | exact foghornlaw04_few.mono _ _ _
   | exact foghornref04_Boot.mono _ _
   | exact foghornref04_Log.mono _ _
   | exact foghornref04_New.mono _ _
   | exact foghornref04_Right.mono _ _ _ _ _ _
   | exact foghornref04_Same.mono _ _ _ _ _ _ _ _ _ _ _
   | exact foghornref04_Texts.mono _ _ _
   | exact store_Boot.mono _ _
   | exact store_New.mono _ _
   | exact LeO.none _
   | refine LeO.ite ?_ ?_
   | refine LeO.bind ?_ (fun _ => ?_)
  ·intro y0 y1 y2 y3 y4 y5 y6 y7 y8 y9 y10 y11 y12 y13 y14 y15 y16 y17 y18 y19
   unfold foghornlaw04_StoreBoots.j1
   repeat' first
   | (with_reducible exact ih0 _ _ _ _ _ _ _ _ _ _ _ _ _ _ _ _ _ _ _ _)
   | (with_reducible exact ih1 _ _ _ _ _ _ _ _ _ _ _ _ _ _ _ _ _ _ _ _)
   | (with_reducible exact ih2 _ _ _ _ _ _ _ _ _ _ _ _)
   | (with_reducible exact foghornlaw04_alive.mono _)
   | (with_reducible exact foghornlaw04_cut.mono _ _ _ _ _ _)
   | (with_reducible exact foghornlaw04_few.mono _ _ _)
   | (with_reducible exact foghornref04_Boot.mono _ _)
   | (with_reducible exact foghornref04_Log.mono _ _)
   | (with_reducible exact foghornref04_New.mono _ _)
   | (with_reducible exact foghornref04_Right.mono _ _ _ _ _ _)
   | (with_reducible exact foghornref04_Same.mono _ _ _ _ _ _ _ _ _ _ _)
   | (with_reducible exact foghornref04_Texts.mono _ _ _)
   | (with_reducible exact store_Boot.mono _ _)
   | (with_reducible exact store_New.mono _ _)
   | (with_reducible exact LeO.refl _)
   | (with_reducible exact LeO.none _)
   | (with_reducible refine LeO.ite ?_ ?_)
   | (with_reducible refine LeO.bind ?_ (fun _ => ?_))
   | exact ih0 _ _ _ _ _ _ _ _ _ _ _ _ _ _ _ _ _ _ _ _
   | exact ih1 _ _ _ _ _ _ _ _ _ _ _ _ _ _ _ _ _ _ _ _
   | exact ih2 _ _ _ _ _ _ _ _ _ _ _ _
   | exact foghornlaw04_alive.mono _
   | exact foghornlaw04_cut.mono _ _ _ _ _ _
   | exact foghornlaw04_few.mono _ _ _
   | exact foghornref04_Boot.mono _ _
   | exact foghornref04_Log.mono _ _
   | exact foghornref04_New.mono _ _
   | exact foghornref04_Right.mono _ _ _ _ _ _
   | exact foghornref04_Same.mono _ _ _ _ _ _ _ _ _ _ _
   | exact foghornref04_Texts.mono _ _ _
   | exact store_Boot.mono _ _
   | exact store_New.mono _ _
   | exact LeO.none _
   | refine LeO.ite ?_ ?_
   | refine LeO.bind ?_ (fun _ => ?_)
  ·intro y0 y1 y2 y3 y4 y5 y6 y7 y8 y9 y10 y11
   unfold foghornlaw04_StoreBoots.j2
   repeat' first
   | (with_reducible exact ih0 _ _ _ _ _ _ _ _ _ _ _ _ _ _ _ _ _ _ _ _)
   | (with_reducible exact ih1 _ _ _ _ _ _ _ _ _ _ _ _ _ _ _ _ _ _ _ _)
   | (with_reducible exact ih2 _ _ _ _ _ _ _ _ _ _ _ _)
   | (with_reducible exact foghornlaw04_alive.mono _)
   | (with_reducible exact foghornlaw04_cut.mono _ _ _ _ _ _)
   | (with_reducible exact foghornlaw04_few.mono _ _ _)
   | (with_reducible exact foghornref04_Boot.mono _ _)
   | (with_reducible exact foghornref04_Log.mono _ _)
   | (with_reducible exact foghornref04_New.mono _ _)
   | (with_reducible exact foghornref04_Right.mono _ _ _ _ _ _)
   | (with_reducible exact foghornref04_Same.mono _ _ _ _ _ _ _ _ _ _ _)
   | (with_reducible exact foghornref04_Texts.mono _ _ _)
   | (with_reducible exact store_Boot.mono _ _)
   | (with_reducible exact store_New.mono _ _)
   | (with_reducible exact LeO.refl _)
   | (with_reducible exact LeO.none _)
   | (with_reducible refine LeO.ite ?_ ?_)
   | (with_reducible refine LeO.bind ?_ (fun _ => ?_))
   | exact ih0 _ _ _ _ _ _ _ _ _ _ _ _ _ _ _ _ _ _ _ _
   | exact ih1 _ _ _ _ _ _ _ _ _ _ _ _ _ _ _ _ _ _ _ _
   | exact ih2 _ _ _ _ _ _ _ _ _ _ _ _
   | exact foghornlaw04_alive.mono _
   | exact foghornlaw04_cut.mono _ _ _ _ _ _
   | exact foghornlaw04_few.mono _ _ _
   | exact foghornref04_Boot.mono _ _
   | exact foghornref04_Log.mono _ _
   | exact foghornref04_New.mono _ _
   | exact foghornref04_Right.mono _ _ _ _ _ _
   | exact foghornref04_Same.mono _ _ _ _ _ _ _ _ _ _ _
   | exact foghornref04_Texts.mono _ _ _
   | exact store_Boot.mono _ _
   | exact store_New.mono _ _
   | exact LeO.none _
   | refine LeO.ite ?_ ?_
   | refine LeO.bind ?_ (fun _ => ?_)
def foghornlaw04_StoreBoots.T1 : Bool × List (List Nat × List Nat) := (true, [([], []), ([0], [0]), ([], []), ([2], [2]), ([3, 1], [3]), ([4], [4]), ([1, 4, 0, 1], [1]), ([5, 6, 0, 1, 2, 3, 4, 5, 6], [5])])
def foghornlaw04_StoreBoots.B1 : List Nat := [0, 1, 0, 4, 15, 31, 31, 127]
theorem foghornlaw04_StoreBoots.tab1 : rtab .any (opsOf Try.f3 1) = foghornlaw04_StoreBoots.T1 := by kernel_rfl
theorem foghornlaw04_StoreBoots.bits1 : waitsOk foghornlaw04_StoreBoots.T1.2 foghornlaw04_StoreBoots.B1 = true := by kernel_rfl
def foghornlaw04_StoreBoots.T5 : Bool × List (List Nat × List Nat) := (true, [([], []), ([0], [0]), ([], []), ([2, 1], [2]), ([1, 3], [1, 3]), ([4, 3], [4]), ([5, 5], [5]), ([6, 5], [5, 6]), ([5, 7], [5, 7])])
def foghornlaw04_StoreBoots.B5 : List Nat := [0, 1, 0, 7, 15, 31, 63, 127, 255]
theorem foghornlaw04_StoreBoots.tab5 : rtab .any (opsOf Try.f3 5) = foghornlaw04_StoreBoots.T5 := by kernel_rfl
theorem foghornlaw04_StoreBoots.bits5 : waitsOk foghornlaw04_StoreBoots.T5.2 foghornlaw04_StoreBoots.B5 = true := by kernel_rfl
def foghornlaw04_StoreBoots.T10 : Bool × List (List Nat × List Nat) := (true, [([], []), ([0], [0]), ([1], [1]), ([2], [2]), ([2], [2]), ([4, 2, 2], [2, 4]), ([3, 5, 5, 2], [2, 3, 5]), ([6, 2], [2, 6]), ([2, 7], [2, 7])])
def foghornlaw04_StoreBoots.B10 : List Nat := [0, 1, 3, 7, 7, 23, 63, 127, 255]
theorem foghornlaw04_StoreBoots.tab10 : rtab .any (opsOf Try.f3 10) = foghornlaw04_StoreBoots.T10 := by kernel_rfl
theorem foghornlaw04_StoreBoots.bits10 : waitsOk foghornlaw04_StoreBoots.T10.2 foghornlaw04_StoreBoots.B10 = true := by kernel_rfl
set_option maxHeartbeats 8000000 in
set_option maxRecDepth 100000 in
theorem foghornlaw04_StoreBoots.calls (k : Nat) (a0 : Int) (A1_0 : Option Addr) (c1_0 : Nat) (l1_0 : List ByteArray) (a1_1 : Int) (a1_2 : Int) (a1_3 : Int) (a1_4 : Bool) (A2_0 : Option Addr) (c2_0 : Nat) (l2_0 : List ByteArray) (r : Bool) (w : World) (hr1_0 : Kd.C Kd.string w A1_0 l1_0.length l1_0) (hc1_0 : l1_0.length ≤ c1_0) (hr2_0 : Kd.C Kd.string w A2_0 l2_0.length l2_0) (hc2_0 : l2_0.length ≤ c2_0) (h : foghornlaw04_StoreBoots.f k a0 l1_0 a1_1 a1_2 a1_3 a1_4 l2_0 = some r) (hrt_ : r = true := by rfl) :
  Calls Try.prog 3 #[.int .i64 a0, .agg #[.slice A1_0 l1_0.length c1_0, .int .i64 a1_1, .int .i64 a1_2, .int .i64 a1_3, .bool a1_4], .agg #[.slice A2_0 l2_0.length c2_0]] w fun e w' => e = .returned (.bool r) ∧ Below w.heap.size w w' := by
 have hu26 := Try.underlying26
 have hu24 := Try.underlying24
 have HR1_0 := aA hr1_0
 have HC1_0 := aA hc1_0
 clear hr1_0 hc1_0
 have HR2_0 := aA hr2_0
 have HC2_0 := aA hc2_0
 clear hr2_0 hc2_0
 have HB := aA (Below.refl w.heap.size w)
 have H : ((foghornlaw04_cut.f k l1_0 a1_1 a1_2 a1_3 a1_4).bind fun bt276 => ((foghornlaw04_few.f k l2_0 132).bind fun t283 => ((store_New.f k a0).bind fun bt286 => ((store_Boot.f k t283).bind fun bt295 => ((store_Right.f bt276.1 bt276.2.1 bt276.2.2.1 bt276.2.2.2.1 bt276.2.2.2.2).bind fun t308 => ((foghornref04_Right.f k bt276.1 bt276.2.1 bt276.2.2.1 bt276.2.2.2.1 bt276.2.2.2.2).bind fun t309 => (if (t308 != t309) = true then (foghornlaw04_StoreBoots.j0 k a0 bt286.2.2.2.2.2 bt295.2.2.2.2.2.1 bt295.2.2.2.2.2.2 true t283 bt286.1 bt286.2.1 bt286.2.2.1 bt286.2.2.2.1 bt286.2.2.2.2.1 bt295.1 bt295.2.1 bt295.2.2.1 bt295.2.2.2.1 bt295.2.2.2.2.1 0 0 0 false) else ((foghornlaw04_alive.f k).bind fun t310 => (foghornlaw04_StoreBoots.j0 k a0 bt286.2.2.2.2.2 bt295.2.2.2.2.2.1 bt295.2.2.2.2.2.2 (!t310) t283 bt286.1 bt286.2.1 bt286.2.2.1 bt286.2.2.2.1 bt286.2.2.2.2.1 bt295.1 bt295.2.1 bt295.2.2.1 bt295.2.2.2.1 bt295.2.2.2.2.1 0 0 0 false))))))))) = some r := h
 clear h
 replace H := Option.bind_eq_some_iff.mp H
 obtain ⟨⟨t276, t279, t280, t281, t282⟩, A40, H⟩ := H
 have A4 := aA A40
 clear A40
 replace H := Option.bind_eq_some_iff.mp H
 obtain ⟨t283, A50, H⟩ := H
 have A5 := aA A50
 clear A50
 replace H := Option.bind_eq_some_iff.mp H
 obtain ⟨⟨t286, t289, t290, t291, t292, t293⟩, A60, H⟩ := H
 have A6 := aA A60
 clear A60
 replace H := Option.bind_eq_some_iff.mp H
 obtain ⟨⟨t295, t298, t299, t300, t301, t302, t305⟩, A70, H⟩ := H
 have A7 := aA A70
 clear A70
 have HC8 := aA H
 clear H
 go_enter Try.func3, Try.ntmps3
 try go_wp2_with (first | ((with_reducible refine gate_dst (N := 4) rfl ?_); (try (refine gate_guard (by rfl) ?_; dsimp only)); refine box_event ?hg (N := 4) ?hd (cs := #[.slice A1_0 l1_0.length c1_0, .int .i64 a1_1, .int .i64 a1_2, .int .i64 a1_3, .bool a1_4]) (t := 26) ?hr ?_; (case hd => rfl); (case hg => rfl); (case hr => first | (go_simp; done) | (go_simp; rfl)); intro gb274 hg w9 hbox hb; have n0_ := aA (below_step mB hb); have n1_ := aA (hbox); have n2_ := aA ((bZ hg mB)); have n3_ := aA ((bZ hg mB)); clear HB; have HB := n0_; have BK274 := n1_; have GW274 := n2_; have GE274 := n3_; clear n0_ n1_ n2_ n3_ hb hbox hg) | ((with_reducible refine gate_dst (N := 5) rfl ?_); (try (refine gate_guard (by rfl) ?_; dsimp only)); refine box_event ?hg (N := 5) ?hd (cs := #[.slice A2_0 l2_0.length c2_0]) (t := 24) ?hr ?_; (case hd => rfl); (case hg => rfl); (case hr => first | (go_simp; done) | (go_simp; rfl)); intro gb275 hg w10 hbox hb; have n0_ := aA (bB BK274.out hb); have n1_ := aA (below_step (mD1 GE274.out) hb); have n2_ := aA (hbox); have n3_ := aA ((bZ hg (mD1 GE274.out))); have n4_ := aA ((bZ hg (mD1 GE274.out))); have n5_ := aA ((bL hg BK274.out)); have n6_ := aA ((bG hg BK274.out)); clear BK274 HB; have BK274 := n0_; have HB := n1_; have BK275 := n2_; have GW275 := n3_; have GE275 := n4_; have NB274_275 := n5_; have NB275_274 := n6_; clear n0_ n1_ n2_ n3_ n4_ n5_ n6_ hb hbox hg))
 have n0_ := aA (blk_drew BK274.out)
 have n1_ := aA (blk_drew BK275.out)
 have n2_ := aA (below_drew1 HB.out)
 clear BK274
 clear BK275
 clear HB
 have BK274 := n0_
 have BK275 := n1_
 have HB := n2_
 clear n0_ n1_ n2_
 refine start_ (n := 8) (S := fun w' => w'.cell? ⟨gb274, 0, none⟩ = some (.slice A1_0 l1_0.length c1_0) ∧ w'.cell? ⟨gb274, 1, none⟩ = some (.int .i64 a1_1) ∧ w'.cell? ⟨gb274, 2, none⟩ = some (.int .i64 a1_2) ∧ w'.cell? ⟨gb274, 3, none⟩ = some (.int .i64 a1_3) ∧ w'.cell? ⟨gb274, 4, none⟩ = some (.bool a1_4) ∧ w'.cell? ⟨gb275, 0, none⟩ = some (.slice A2_0 l2_0.length c2_0)) (ds := [6, 7]) #[false, false, false, false, false, false, false, false] (by kernel_rfl) rfl rfl ⟨(blk_cell BK274.out 0).trans rfl, (blk_cell BK274.out 1).trans rfl, (blk_cell BK274.out 2).trans rfl, (blk_cell BK274.out 3).trans rfl, (blk_cell BK274.out 4).trans rfl, (blk_cell BK275.out 0).trans rfl⟩ (fun hHeld => ?_); refine with_tabW foghornlaw04_StoreBoots.tab1 foghornlaw04_StoreBoots.bits1 (fun HT_ HW_ => ?_)
 generalize w10.drew = w11 at BK274 BK275 HB hHeld ⊢
 refine pure_ (i := 2) (N := some 18) (v := ?_) (a' := ?_) #[false, false, true, false, false, false, false, false] rfl rfl (any_of HT_.out (by kernel_rfl)) (fun _ _ _ h => h) (Or.inl ⟨by rfl, ?_⟩) ?_ ?_
 rotate_left
 ·intro w'
  go_simp
  with_reducible rfl
 rotate_left
 ·exact mP
 refine take_ (i := 0) (N := some 16) (v := ?_) (a' := ?_) #[true, false, true, false, false, false, false, false] rfl rfl (take_ofW HT_.out HW_.out (by kernel_rfl)) (fun _ _ _ h => h) (Or.inl ⟨by rfl, ?_⟩) hHeld ?_ ?_
 rotate_left
 ·rintro w' ⟨s0, s1, s2, s3, s4, s5⟩
  go_simp
  with_reducible rfl
 rotate_left
 ·exact mP
 refine take_ (i := 3) (N := some 19) (v := ?_) (a' := ?_) #[true, false, true, true, false, false, false, false] rfl rfl (take_ofW HT_.out HW_.out (by kernel_rfl)) (fun _ _ _ h => h) (Or.inl ⟨by rfl, ?_⟩) hHeld ?_ ?_
 rotate_left
 ·rintro w' ⟨s0, s1, s2, s3, s4, s5⟩
  go_simp
  with_reducible rfl
 rotate_left
 ·exact mP
 refine one_ (i := 1) (N := some 17) #[true, true, true, true, false, false, false, false] rfl rfl (one_of HT_.out (by kernel_rfl)) (by decide) (fun K hK => ?_)
 refine goes_ Try.func9 (by kernel_rfl) rfl #[.agg #[.slice A1_0 l1_0.length c1_0, .int .i64 a1_1, .int .i64 a1_2, .int .i64 a1_3, .bool a1_4]] (by rfl) rfl rfl mS ?_
 with_reducible refine (foghornlaw04_cut.calls k _ _ l1_0 a1_1 a1_2 a1_3 a1_4 t276 t279 t280 t281 t282 _ ?side1 ?side2 A4.out).mono ?_
 (case side1 => exact mC ((Kd.C_below HR1_0.out HB.out)))
 (case side2 => exact HC1_0.out)
 rintro e w12 ⟨v277, rfl, ho0, hb⟩
 refine ⟨_, rfl, ?_⟩
 have n0_ := aA (Kd.R_lower ho0 (below_size (mD2 GE274.out GE275.out)))
 have n1_ := aA (bB BK274.out hb)
 have n2_ := aA (bB BK275.out hb)
 have n3_ := aA (below_step (mD2 GE274.out GE275.out) hb)
 clear BK274
 clear BK275
 clear HB
 have HO278 := n0_
 have BK274 := n1_
 have BK275 := n2_
 have HB := n3_
 clear n0_ n1_ n2_ n3_
 (try clear hb)
 (try clear hb2)
 (try clear hk)
 (try clear hi)
 (try clear ho0)
 refine hK.out _ _ ⟨(blk_cell BK274.out 0).trans rfl, (blk_cell BK274.out 1).trans rfl, (blk_cell BK274.out 2).trans rfl, (blk_cell BK274.out 3).trans rfl, (blk_cell BK274.out 4).trans rfl, (blk_cell BK275.out 0).trans rfl⟩ (fun hHeld => ?_)
 clear hK K
 refine norm_ (a' := ?_) ?_ ?_
 rotate_left
 ·show Act.put _ (some 17) _ = _
  simp only [Act.put, List.setIfInBounds_toArray, List.set_cons_zero, List.set_cons_succ, i64_w, i32_w]
  rfl
 refine one_ (i := 4) (N := some 20) #[true, true, true, true, true, false, false, false] rfl rfl (one_of HT_.out (by kernel_rfl)) (by decide) (fun K hK => ?_)
 refine goes_ Try.func10 (by kernel_rfl) rfl #[.slice A2_0 l2_0.length c2_0, .int .i64 132] (by rfl) rfl rfl mS ?_
 with_reducible refine (foghornlaw04_few.calls k _ _ l2_0 132 t283 _ ?side1 ?side2 A5.out).mono ?_
 (case side1 => exact mC ((Kd.C_below HR2_0.out HB.out)))
 (case side2 => exact HC2_0.out)
 rintro e w13 ⟨v284, rfl, ho0, hb⟩
 refine ⟨_, rfl, ?_⟩
 have n0_ := aA (Kd.R_elder' (mR HO278.out) (Kd.R_base ho0) hb)
 have n1_ := aA (Kd.R_lower (Kd.R_new' ho0 (Kd.R_lt (mR HO278.out))) (below_size (mD2 GE274.out GE275.out)))
 have n2_ := aA (bB BK274.out hb)
 have n3_ := aA (bB BK275.out hb)
 have n4_ := aA (below_step (mD2 GE274.out GE275.out) hb)
 clear HO278
 clear BK274
 clear BK275
 clear HB
 have HO278 := n0_
 have HO285 := n1_
 have BK274 := n2_
 have BK275 := n3_
 have HB := n4_
 clear n0_ n1_ n2_ n3_ n4_
 (try clear hb)
 (try clear hb2)
 (try clear hk)
 (try clear hi)
 (try clear ho0)
 obtain ⟨Ao14, co14, eo14⟩ := Kd.R_slice HO285.out
 (first | subst eo14 | (injection eo14 with f1_ f2_ f3_; have f4_ := f1_.symm; have f5_ := f3_.symm; clear f1_ f2_ f3_; subst f4_; subst f5_))
 obtain ⟨Ao15, co15, eo15⟩ := Kd.R_slice HO278.out
 (first | subst eo15 | (injection eo15 with f1_ f2_ f3_; have f4_ := f1_.symm; have f5_ := f3_.symm; clear f1_ f2_ f3_; subst f4_; subst f5_))
 refine hK.out _ _ ⟨(blk_cell BK274.out 0).trans rfl, (blk_cell BK274.out 1).trans rfl, (blk_cell BK274.out 2).trans rfl, (blk_cell BK274.out 3).trans rfl, (blk_cell BK274.out 4).trans rfl, (blk_cell BK275.out 0).trans rfl⟩ (fun hHeld => ?_)
 clear hK K
 refine norm_ (a' := ?_) ?_ ?_
 rotate_left
 ·show Act.put _ (some 20) _ = _
  simp only [Act.put, List.setIfInBounds_toArray, List.set_cons_zero, List.set_cons_succ, i64_w, i32_w]
  rfl
 refine pure_ (i := 5) (N := some 21) (v := ?_) (a' := ?_) #[true, true, true, true, true, true, false, false] rfl rfl (any_of HT_.out (by kernel_rfl)) (fun _ _ _ h => h) (Or.inl ⟨by rfl, ?_⟩) ?_ ?_
 rotate_left
 ·intro w'
  go_simp
  with_reducible rfl
 rotate_left
 ·exact mP
 refine last_ (i := 6) (N := none) #[true, true, true, true, true, true, true, false] rfl rfl (one_of HT_.out (by kernel_rfl)) (by decide) (fun K hK => ?_)
 have hs16 : w13.cell? ⟨gb274, 0, none⟩ = some (.slice A1_0 l1_0.length c1_0) := (blk_cell BK274.out 0).trans rfl
 have hfs16 := blk_frozen BK274.out 0
 have hns16_1 := NB275_274.out
 have hms16_1 := NB274_275.out
 have hs17 : w13.cell? ⟨gb274, 1, none⟩ = some (.int .i64 a1_1) := (blk_cell BK274.out 1).trans rfl
 have hfs17 := blk_frozen BK274.out 1
 have hns17_1 := NB275_274.out
 have hms17_1 := NB274_275.out
 have hs18 : w13.cell? ⟨gb274, 2, none⟩ = some (.int .i64 a1_2) := (blk_cell BK274.out 2).trans rfl
 have hfs18 := blk_frozen BK274.out 2
 have hns18_1 := NB275_274.out
 have hms18_1 := NB274_275.out
 have hs19 : w13.cell? ⟨gb274, 3, none⟩ = some (.int .i64 a1_3) := (blk_cell BK274.out 3).trans rfl
 have hfs19 := blk_frozen BK274.out 3
 have hns19_1 := NB275_274.out
 have hms19_1 := NB274_275.out
 have hs20 : w13.cell? ⟨gb274, 4, none⟩ = some (.bool a1_4) := (blk_cell BK274.out 4).trans rfl
 have hfs20 := blk_frozen BK274.out 4
 have hns20_1 := NB275_274.out
 have hms20_1 := NB274_275.out
 refine skip_ (w1 := ?_) (by rfl) rfl ?_ ?_
 rotate_left
 ·go_simp
  rfl
 refine hK.out _ _ ?_
 clear hK K
 refine last_ (i := 7) (N := none) #[true, true, true, true, true, true, true, true] rfl rfl (one_of HT_.out (by kernel_rfl)) (by decide) (fun K hK => ?_)
 have hs21 : w13.cell? ⟨gb275, 0, none⟩ = some (.slice A2_0 l2_0.length c2_0) := (blk_cell BK275.out 0).trans rfl
 have hfs21 := blk_frozen BK275.out 0
 have hns21_0 := NB274_275.out
 have hms21_0 := NB275_274.out
 refine skip_ (w1 := ?_) (by rfl) rfl ?_ ?_
 rotate_left
 ·go_simp
  rfl
 refine hK.out _ _ ?_
 clear hK K
 refine done_ (done_of HT_.out (by kernel_rfl)) ?_
 go_upto_region 5 with (first | ((with_reducible refine gate_callee (f := 11) rfl ?_); refine goesL_ (some 24) rfl rfl Try.func11 (by kernel_rfl) rfl #[.int .i64 a0] rfl mS ?_; (with_reducible refine (store_New.calls k a0 t286 t289 t290 t291 t292 t293 _ A6.out).mono ?_); rintro e w22 ⟨v287, rfl, ho0, hb⟩; refine ⟨_, rfl, ?_⟩; have n0_ := aA (Kd.R_below (by (with_reducible repeat (first | apply Kd.R_alloc | apply Kd.R_drewN | apply Kd.R_drew)); exact (Kd.R_mono (Kd.R_mono (rF 0 (Kd.R_far (p := ⟨gb274, 4, none⟩) (Kd.R_far (p := ⟨gb274, 3, none⟩) (Kd.R_far (p := ⟨gb274, 2, none⟩) (Kd.R_far (p := ⟨gb274, 1, none⟩) (Kd.R_far (p := ⟨gb274, 0, none⟩) (Kd.R_types (Kd.R_types HO278.out BK274.out (by decide)) BK275.out (by decide)) (fun _ hk => hk.1.2) (.slice Ao15 t276.length co15)) (fun _ hk => hk.1.2) (.int .i64 t279)) (fun _ hk => hk.1.2) (.int .i64 t280)) (fun _ hk => hk.1.2) (.int .i64 t281)) (fun _ hk => hk.1.2) (.bool t282))) (fun _ h_ => h_.1)) (fun _ h_ => h_.1))) hb); have n1_ := aA (Kd.R_below (by (with_reducible repeat (first | apply Kd.R_alloc | apply Kd.R_drewN | apply Kd.R_drew)); exact (Kd.R_mono (Kd.R_mono (rF 0 (Kd.R_far (p := ⟨gb274, 4, none⟩) (Kd.R_far (p := ⟨gb274, 3, none⟩) (Kd.R_far (p := ⟨gb274, 2, none⟩) (Kd.R_far (p := ⟨gb274, 1, none⟩) (Kd.R_far (p := ⟨gb274, 0, none⟩) (Kd.R_types (Kd.R_types HO285.out BK274.out (by decide)) BK275.out (by decide)) (fun _ hk => hk.1.2) (.slice Ao15 t276.length co15)) (fun _ hk => hk.1.2) (.int .i64 t279)) (fun _ hk => hk.1.2) (.int .i64 t280)) (fun _ hk => hk.1.2) (.int .i64 t281)) (fun _ hk => hk.1.2) (.bool t282))) (fun _ h_ => h_.1)) (fun _ h_ => h_.1))) hb); have n2_ := aA (Kd.V_lower (Kd.V_mono (ok' := fun k_ => some k_ ≠ (.slice Ao15 t276.length co15 : Value).ownBlock ∧ some k_ ≠ (.slice Ao14 t283.length co14 : Value).ownBlock ∧ k_ ≠ gb274 ∧ k_ ≠ gb275) ho0 (fun k_ hk_ => ⟨(Kd.fresh' (Kd.R_lt (by (with_reducible repeat (first | apply Kd.R_alloc | apply Kd.R_drewN | apply Kd.R_drew)); exact (Kd.R_mono (Kd.R_mono (rF 0 (Kd.R_far (p := ⟨gb274, 4, none⟩) (Kd.R_far (p := ⟨gb274, 3, none⟩) (Kd.R_far (p := ⟨gb274, 2, none⟩) (Kd.R_far (p := ⟨gb274, 1, none⟩) (Kd.R_far (p := ⟨gb274, 0, none⟩) (Kd.R_types (Kd.R_types HO278.out BK274.out (by decide)) BK275.out (by decide)) (fun _ hk => hk.1.2) (.slice Ao15 t276.length co15)) (fun _ hk => hk.1.2) (.int .i64 t279)) (fun _ hk => hk.1.2) (.int .i64 t280)) (fun _ hk => hk.1.2) (.int .i64 t281)) (fun _ hk => hk.1.2) (.bool t282))) (fun _ h_ => h_.1)) (fun _ h_ => h_.1)))) k_ hk_), (Kd.fresh' (Kd.R_lt (by (with_reducible repeat (first | apply Kd.R_alloc | apply Kd.R_drewN | apply Kd.R_drew)); exact (Kd.R_mono (Kd.R_mono (rF 0 (Kd.R_far (p := ⟨gb274, 4, none⟩) (Kd.R_far (p := ⟨gb274, 3, none⟩) (Kd.R_far (p := ⟨gb274, 2, none⟩) (Kd.R_far (p := ⟨gb274, 1, none⟩) (Kd.R_far (p := ⟨gb274, 0, none⟩) (Kd.R_types (Kd.R_types HO285.out BK274.out (by decide)) BK275.out (by decide)) (fun _ hk => hk.1.2) (.slice Ao15 t276.length co15)) (fun _ hk => hk.1.2) (.int .i64 t279)) (fun _ hk => hk.1.2) (.int .i64 t280)) (fun _ hk => hk.1.2) (.int .i64 t281)) (fun _ hk => hk.1.2) (.bool t282))) (fun _ h_ => h_.1)) (fun _ h_ => h_.1)))) k_ hk_), (Kd.freshB (g := gb274) (o := .cells #[.slice Ao15 t276.length co15, .int .i64 t279, .int .i64 t280, .int .i64 t281, .bool t282] 26 (0, 0)) (by (with_reducible repeat (first | refine blk_drewN ?_ _ | refine blk_drew ?_ | refine blk_alloc ?_ _)); refine blk_far ?_ NB274_275.out _; (with_reducible repeat (first | refine blk_drewN ?_ _ | refine blk_drew ?_ | refine blk_alloc ?_ _)); refine blk_put (cs := #[.slice Ao15 t276.length co15, .int .i64 t279, .int .i64 t280, .int .i64 t281, .bool a1_4]) ?_ 4 _ rfl; (with_reducible repeat (first | refine blk_drewN ?_ _ | refine blk_drew ?_ | refine blk_alloc ?_ _)); refine blk_put (cs := #[.slice Ao15 t276.length co15, .int .i64 t279, .int .i64 t280, .int .i64 a1_3, .bool a1_4]) ?_ 3 _ rfl; (with_reducible repeat (first | refine blk_drewN ?_ _ | refine blk_drew ?_ | refine blk_alloc ?_ _)); refine blk_put (cs := #[.slice Ao15 t276.length co15, .int .i64 t279, .int .i64 a1_2, .int .i64 a1_3, .bool a1_4]) ?_ 2 _ rfl; (with_reducible repeat (first | refine blk_drewN ?_ _ | refine blk_drew ?_ | refine blk_alloc ?_ _)); refine blk_put (cs := #[.slice Ao15 t276.length co15, .int .i64 a1_1, .int .i64 a1_2, .int .i64 a1_3, .bool a1_4]) ?_ 1 _ rfl; (with_reducible repeat (first | refine blk_drewN ?_ _ | refine blk_drew ?_ | refine blk_alloc ?_ _)); refine blk_put (cs := #[.slice A1_0 l1_0.length c1_0, .int .i64 a1_1, .int .i64 a1_2, .int .i64 a1_3, .bool a1_4]) ?_ 0 _ rfl; (with_reducible repeat (first | refine blk_drewN ?_ _ | refine blk_drew ?_ | refine blk_alloc ?_ _)); exact BK274.out) k_ hk_), (Kd.freshB (g := gb275) (o := .cells #[.slice Ao14 t283.length co14] 24 (0, 0)) (by (with_reducible repeat (first | refine blk_drewN ?_ _ | refine blk_drew ?_ | refine blk_alloc ?_ _)); refine blk_put (cs := #[.slice A2_0 l2_0.length c2_0]) ?_ 0 _ rfl; (with_reducible repeat (first | refine blk_drewN ?_ _ | refine blk_drew ?_ | refine blk_alloc ?_ _)); refine blk_far ?_ NB275_274.out _; (with_reducible repeat (first | refine blk_drewN ?_ _ | refine blk_drew ?_ | refine blk_alloc ?_ _)); refine blk_far ?_ NB275_274.out _; (with_reducible repeat (first | refine blk_drewN ?_ _ | refine blk_drew ?_ | refine blk_alloc ?_ _)); refine blk_far ?_ NB275_274.out _; (with_reducible repeat (first | refine blk_drewN ?_ _ | refine blk_drew ?_ | refine blk_alloc ?_ _)); refine blk_far ?_ NB275_274.out _; (with_reducible repeat (first | refine blk_drewN ?_ _ | refine blk_drew ?_ | refine blk_alloc ?_ _)); refine blk_far ?_ NB275_274.out _; (with_reducible repeat (first | refine blk_drewN ?_ _ | refine blk_drew ?_ | refine blk_alloc ?_ _)); exact BK275.out) k_ hk_)⟩)) (below_size (mD2 GE274.out GE275.out))); have n3_ := aA (blk_below (g := gb274) (o := .cells #[.slice Ao15 t276.length co15, .int .i64 t279, .int .i64 t280, .int .i64 t281, .bool t282] 26 (0, 0)) (by (with_reducible repeat (first | refine blk_drewN ?_ _ | refine blk_drew ?_ | refine blk_alloc ?_ _)); refine blk_far ?_ NB274_275.out _; (with_reducible repeat (first | refine blk_drewN ?_ _ | refine blk_drew ?_ | refine blk_alloc ?_ _)); refine blk_put (cs := #[.slice Ao15 t276.length co15, .int .i64 t279, .int .i64 t280, .int .i64 t281, .bool a1_4]) ?_ 4 _ rfl; (with_reducible repeat (first | refine blk_drewN ?_ _ | refine blk_drew ?_ | refine blk_alloc ?_ _)); refine blk_put (cs := #[.slice Ao15 t276.length co15, .int .i64 t279, .int .i64 t280, .int .i64 a1_3, .bool a1_4]) ?_ 3 _ rfl; (with_reducible repeat (first | refine blk_drewN ?_ _ | refine blk_drew ?_ | refine blk_alloc ?_ _)); refine blk_put (cs := #[.slice Ao15 t276.length co15, .int .i64 t279, .int .i64 a1_2, .int .i64 a1_3, .bool a1_4]) ?_ 2 _ rfl; (with_reducible repeat (first | refine blk_drewN ?_ _ | refine blk_drew ?_ | refine blk_alloc ?_ _)); refine blk_put (cs := #[.slice Ao15 t276.length co15, .int .i64 a1_1, .int .i64 a1_2, .int .i64 a1_3, .bool a1_4]) ?_ 1 _ rfl; (with_reducible repeat (first | refine blk_drewN ?_ _ | refine blk_drew ?_ | refine blk_alloc ?_ _)); refine blk_put (cs := #[.slice A1_0 l1_0.length c1_0, .int .i64 a1_1, .int .i64 a1_2, .int .i64 a1_3, .bool a1_4]) ?_ 0 _ rfl; (with_reducible repeat (first | refine blk_drewN ?_ _ | refine blk_drew ?_ | refine blk_alloc ?_ _)); exact BK274.out) hb); have n4_ := aA (blk_below (g := gb275) (o := .cells #[.slice Ao14 t283.length co14] 24 (0, 0)) (by (with_reducible repeat (first | refine blk_drewN ?_ _ | refine blk_drew ?_ | refine blk_alloc ?_ _)); refine blk_put (cs := #[.slice A2_0 l2_0.length c2_0]) ?_ 0 _ rfl; (with_reducible repeat (first | refine blk_drewN ?_ _ | refine blk_drew ?_ | refine blk_alloc ?_ _)); refine blk_far ?_ NB275_274.out _; (with_reducible repeat (first | refine blk_drewN ?_ _ | refine blk_drew ?_ | refine blk_alloc ?_ _)); refine blk_far ?_ NB275_274.out _; (with_reducible repeat (first | refine blk_drewN ?_ _ | refine blk_drew ?_ | refine blk_alloc ?_ _)); refine blk_far ?_ NB275_274.out _; (with_reducible repeat (first | refine blk_drewN ?_ _ | refine blk_drew ?_ | refine blk_alloc ?_ _)); refine blk_far ?_ NB275_274.out _; (with_reducible repeat (first | refine blk_drewN ?_ _ | refine blk_drew ?_ | refine blk_alloc ?_ _)); refine blk_far ?_ NB275_274.out _; (with_reducible repeat (first | refine blk_drewN ?_ _ | refine blk_drew ?_ | refine blk_alloc ?_ _)); exact BK275.out) hb); have n5_ := aA (below_step (mD2 GE274.out GE275.out) hb); clear HO278 HO285 BK274 BK275 HB; have HO278 := n0_; have HO285 := n1_; have HO288 := n2_; have BK274 := n3_; have BK275 := n4_; have HB := n5_; clear n0_ n1_ n2_ n3_ n4_ n5_; (try clear hb); (try clear hb2); (try clear hk); (try clear hi); (try clear ho0)) | ((with_reducible refine gate_dst (N := 7) rfl ?_); (try (refine gate_guard (by rfl) ?_; dsimp only)); refine box_event ?hg (N := 7) ?hd (cs := #[.slice none 0 0, .int .i64 0, .int .i64 0, .int .i64 0, .bool false]) (t := 26) ?hr ?_; (case hd => rfl); (case hg => rfl); (case hr => first | (go_simp; done) | (go_simp; rfl)); intro gb294 hg w23 hbox hb; have n0_ := aA (Kd.R_below (mR HO278.out) hb); have n1_ := aA (Kd.R_below (mR HO285.out) hb); have n2_ := aA (Kd.V_below (Kd.V_elderB (by (with_reducible repeat (first | apply Kd.V_alloc | apply Kd.V_drewN | apply Kd.V_drew)); exact HO288.out) gb294 (Nat.le_of_eq hg.symm)) hb); have n3_ := aA (bB BK274.out hb); have n4_ := aA (bB BK275.out hb); have n5_ := aA (below_step (mD2 GE274.out GE275.out) hb); have n6_ := aA (hbox); have n7_ := aA ((bZ hg (mD2 GE274.out GE275.out))); have n8_ := aA ((bZ hg (mD2 GE274.out GE275.out))); have n9_ := aA ((bL hg BK274.out)); have n10_ := aA ((bG hg BK274.out)); have n11_ := aA ((bL hg BK275.out)); have n12_ := aA ((bG hg BK275.out)); clear HO278 HO285 HO288 BK274 BK275 HB; have HO278 := n0_; have HO285 := n1_; have HO288 := n2_; have BK274 := n3_; have BK275 := n4_; have HB := n5_; have BK294 := n6_; have GW294 := n7_; have GE294 := n8_; have NB274_294 := n9_; have NB294_274 := n10_; have NB275_294 := n11_; have NB294_275 := n12_; clear n0_ n1_ n2_ n3_ n4_ n5_ n6_ n7_ n8_ n9_ n10_ n11_ n12_ hb hbox hg; obtain ⟨Ao24, co24, eo24⟩ := Kd.V_slice HO288.out; subst eo24; have hnb25 := NB294_274.out; have hnc25 := NB274_294.out; have hnb26 := NB294_275.out; have hnc26 := NB275_294.out; obtain ⟨hcz27_0, hcz27_1, hcz27_2, hcz27_3, hcz27_4⟩ := bC5 BK294.out; obtain ⟨hfz27_0, hfz27_1, hfz27_2, hfz27_3, hfz27_4⟩ := bF5 BK294.out) | ((with_reducible refine gate_store (t := 26) (p := 7) rfl ?_); refine store_event (t := 26) (p := 7) (v := ?vo_w28) (w1 := (((((w23.setCell ⟨gb294, 0, none⟩ (.slice Ao24 t286.length co24)).setCell ⟨gb294, 1, none⟩ (.int .i64 t289)).setCell ⟨gb294, 2, none⟩ (.int .i64 t290)).setCell ⟨gb294, 3, none⟩ (.int .i64 t291)).setCell ⟨gb294, 4, none⟩ (.bool t292))) ?hg ?ho ?hn ?hr ?_; (case ho => rfl); (case hg => rfl); (case hn => rfl); (case hr => first | (go_simp; done) | (go_simp; rfl)); intro w28 hw; have n0_ : Aside0 (Kd.R Kd.string 9 w28 w.heap.size (fun k_ => some k_ ≠ (.slice Ao14 t283.length co14 : Value).ownBlock) (.slice Ao15 t276.length co15) t276) := ⟨(by rw [hw]; exact (by (with_reducible repeat (first | apply Kd.R_alloc | apply Kd.R_drewN | apply Kd.R_drew)); exact Kd.R_mono (rF 4 (rF 3 (rF 2 (rF 1 (rF 0 (Kd.R_types HO278.out BK294.out (by decide))))))) (fun _ hk => hk.1.2)))⟩; have n1_ : Aside0 (Kd.R Kd.string 9 w28 w.heap.size (fun k_ => some k_ ≠ (.slice Ao15 t276.length co15 : Value).ownBlock) (.slice Ao14 t283.length co14) t283) := ⟨(by rw [hw]; exact (by (with_reducible repeat (first | apply Kd.R_alloc | apply Kd.R_drewN | apply Kd.R_drew)); exact Kd.R_mono (rF 4 (rF 3 (rF 2 (rF 1 (rF 0 (Kd.R_types HO285.out BK294.out (by decide))))))) (fun _ hk => hk.1.2)))⟩; have n2_ : Aside0 (Kd.V Kd.string 9 w28 w.heap.size (fun k_ => some k_ ≠ (.slice Ao15 t276.length co15 : Value).ownBlock ∧ some k_ ≠ (.slice Ao14 t283.length co14 : Value).ownBlock ∧ k_ ≠ gb274 ∧ k_ ≠ gb275 ∧ k_ ≠ gb294) (.slice Ao24 t286.length co24) t286) := ⟨(by rw [hw]; exact (by (with_reducible repeat (first | apply Kd.V_alloc | apply Kd.V_drewN | apply Kd.V_drew)); exact Kd.V_mono (Kd.V_far (p := ⟨gb294, 4, none⟩) (Kd.V_far (p := ⟨gb294, 3, none⟩) (Kd.V_far (p := ⟨gb294, 2, none⟩) (Kd.V_far (p := ⟨gb294, 1, none⟩) (Kd.V_far (p := ⟨gb294, 0, none⟩) (Kd.V_mono HO288.out (fun k_ hk => (⟨hk, hk.2⟩ : _ ∧ k_ ≠ gb294))) (fun _ hk => hk.2) (.slice Ao24 t286.length co24)) (fun _ hk => hk.2) (.int .i64 t289)) (fun _ hk => hk.2) (.int .i64 t290)) (fun _ hk => hk.2) (.int .i64 t291)) (fun _ hk => hk.2) (.bool t292)) (fun _ hk => ⟨hk.1.1.1, ⟨hk.1.1.2.1, ⟨hk.1.1.2.2.1, ⟨hk.1.1.2.2.2, hk.1.2⟩⟩⟩⟩)))⟩; have n3_ : Aside0 (w28.heap[gb274]? = some (.cells #[.slice Ao15 t276.length co15, .int .i64 t279, .int .i64 t280, .int .i64 t281, .bool t282] 26 (0, 0))) := ⟨(by rw [hw]; exact (by (with_reducible repeat (first | refine blk_drewN ?_ _ | refine blk_drew ?_ | refine blk_alloc ?_ _)); refine blk_far ?_ NB274_294.out _; (with_reducible repeat (first | refine blk_drewN ?_ _ | refine blk_drew ?_ | refine blk_alloc ?_ _)); refine blk_far ?_ NB274_294.out _; (with_reducible repeat (first | refine blk_drewN ?_ _ | refine blk_drew ?_ | refine blk_alloc ?_ _)); refine blk_far ?_ NB274_294.out _; (with_reducible repeat (first | refine blk_drewN ?_ _ | refine blk_drew ?_ | refine blk_alloc ?_ _)); refine blk_far ?_ NB274_294.out _; (with_reducible repeat (first | refine blk_drewN ?_ _ | refine blk_drew ?_ | refine blk_alloc ?_ _)); refine blk_far ?_ NB274_294.out _; (with_reducible repeat (first | refine blk_drewN ?_ _ | refine blk_drew ?_ | refine blk_alloc ?_ _)); exact BK274.out))⟩; have n4_ : Aside0 (w28.heap[gb275]? = some (.cells #[.slice Ao14 t283.length co14] 24 (0, 0))) := ⟨(by rw [hw]; exact (by (with_reducible repeat (first | refine blk_drewN ?_ _ | refine blk_drew ?_ | refine blk_alloc ?_ _)); refine blk_far ?_ NB275_294.out _; (with_reducible repeat (first | refine blk_drewN ?_ _ | refine blk_drew ?_ | refine blk_alloc ?_ _)); refine blk_far ?_ NB275_294.out _; (with_reducible repeat (first | refine blk_drewN ?_ _ | refine blk_drew ?_ | refine blk_alloc ?_ _)); refine blk_far ?_ NB275_294.out _; (with_reducible repeat (first | refine blk_drewN ?_ _ | refine blk_drew ?_ | refine blk_alloc ?_ _)); refine blk_far ?_ NB275_294.out _; (with_reducible repeat (first | refine blk_drewN ?_ _ | refine blk_drew ?_ | refine blk_alloc ?_ _)); refine blk_far ?_ NB275_294.out _; (with_reducible repeat (first | refine blk_drewN ?_ _ | refine blk_drew ?_ | refine blk_alloc ?_ _)); exact BK275.out))⟩; have n5_ : Aside0 (w28.heap[gb294]? = some (.cells #[.slice Ao24 t286.length co24, .int .i64 t289, .int .i64 t290, .int .i64 t291, .bool t292] 26 (0, 0))) := ⟨(by rw [hw]; exact (by (with_reducible repeat (first | refine blk_drewN ?_ _ | refine blk_drew ?_ | refine blk_alloc ?_ _)); have h_ := BK294.out; exact pK 4 (pK 3 (pK 2 (pK 1 (pK 0 (h_)))))))⟩; have n6_ : Aside0 (Below w.heap.size w w28) := ⟨(by rw [hw]; exact (mD3 GE274.out GE275.out GE294.out))⟩; clear hw HO278 HO285 HO288 BK274 BK275 BK294 HB; have HO278 := n0_; have HO285 := n1_; have HO288 := n2_; have BK274 := n3_; have BK275 := n4_; have BK294 := n5_; have HB := n6_; clear n0_ n1_ n2_ n3_ n4_ n5_ n6_; have hnb29 := NB275_274.out; have hnc29 := NB274_275.out; have hcz30_0 : w28.cell? ⟨gb275, 0, none⟩ = some (.slice Ao14 t283.length co14) := (blk_cell BK275.out 0).trans rfl; have hfz30_0 := blk_frozen BK275.out 0) | ((with_reducible refine gate_callee (f := 12) rfl ?_); refine goesL_ (some 29) rfl rfl Try.func12 (by kernel_rfl) rfl #[.agg #[.slice Ao14 t283.length co14]] rfl mS ?_; (with_reducible refine (store_Boot.calls k (fun k_ => some k_ = (.slice Ao14 t283.length co14 : Value).ownBlock) _ _ t283 t295 t298 t299 t300 t301 t302 t305 _ ?side1 A7.out).mono ?_); (case side1 => exact Kd.R_V (Kd.R_tight rfl (Kd.R_types (Kd.R_types (Kd.R_types (HO285.out) BK274.out (by decide)) BK275.out (by decide)) BK294.out (by decide)))); rintro e w31 ⟨v296, v303, rfl, ho0, ho1, hb⟩; refine ⟨_, rfl, ?_⟩; have n0_ := aA (Kd.R_elder' (mR HO278.out) (Kd.R_base ho1) hb); have n1_ := aA (Kd.R_elder' (mR HO285.out) (Kd.R_base ho1) hb); have n2_ := aA (Kd.V_elder' (by (with_reducible repeat (first | apply Kd.V_alloc | apply Kd.V_drewN | apply Kd.V_drew)); exact HO288.out) (Kd.R_base ho1) hb); have n3_ := aA (Kd.V_lower (Kd.V_mono (ok' := fun k_ => some k_ ≠ (v303 : Value).ownBlock ∧ some k_ ≠ (.slice Ao15 t276.length co15 : Value).ownBlock ∧ k_ ≠ gb274 ∧ k_ ≠ gb275 ∧ k_ ≠ gb294) ho0 (fun k_ hk_ => ⟨hk_.2, Or.elim hk_.1 (fun hs_ => ((Kd.R_types (Kd.R_types (Kd.R_types (HO285.out) BK274.out (by decide)) BK275.out (by decide)) BK294.out (by decide)).1 k_ hs_.symm).1.1.1) (fun hn_ => (Kd.fresh' (Kd.R_lt (mR HO278.out)) k_ hn_)), Or.elim hk_.1 (fun hs_ => ((Kd.R_types (Kd.R_types (Kd.R_types (HO285.out) BK274.out (by decide)) BK275.out (by decide)) BK294.out (by decide)).1 k_ hs_.symm).1.1.2) (fun hn_ => (Kd.freshB (g := gb274) (o := .cells #[.slice Ao15 t276.length co15, .int .i64 t279, .int .i64 t280, .int .i64 t281, .bool t282] 26 (0, 0)) (mK BK274.out) k_ hn_)), Or.elim hk_.1 (fun hs_ => ((Kd.R_types (Kd.R_types (Kd.R_types (HO285.out) BK274.out (by decide)) BK275.out (by decide)) BK294.out (by decide)).1 k_ hs_.symm).1.2) (fun hn_ => (Kd.freshB (g := gb275) (o := .cells #[.slice Ao14 t283.length co14] 24 (0, 0)) (mK BK275.out) k_ hn_)), Or.elim hk_.1 (fun hs_ => ((Kd.R_types (Kd.R_types (Kd.R_types (HO285.out) BK274.out (by decide)) BK275.out (by decide)) BK294.out (by decide)).1 k_ hs_.symm).2) (fun hn_ => (Kd.freshB (g := gb294) (o := .cells #[.slice Ao24 t286.length co24, .int .i64 t289, .int .i64 t290, .int .i64 t291, .bool t292] 26 (0, 0)) (mK BK294.out) k_ hn_))⟩)) (below_size (mD3 GE274.out GE275.out GE294.out))); have n4_ := aA (Kd.R_lower (Kd.R_new' (Kd.R_new' (Kd.R_mono (ok' := fun k_ => True) ho1 (fun _ hk_ => trivial)) (Kd.R_lt (mR HO278.out))) (Kd.R_lt (mR HO285.out))) (below_size (mD3 GE274.out GE275.out GE294.out))); have n5_ := aA (bB BK274.out hb); have n6_ := aA (bB BK275.out hb); have n7_ := aA (bB BK294.out hb); have n8_ := aA (below_step (mD3 GE274.out GE275.out GE294.out) hb); clear HO278 HO285 HO288 BK274 BK275 BK294 HB; have HO278 := n0_; have HO285 := n1_; have HO288 := n2_; have HO297 := n3_; have HO304 := n4_; have BK274 := n5_; have BK275 := n6_; have BK294 := n7_; have HB := n8_; clear n0_ n1_ n2_ n3_ n4_ n5_ n6_ n7_ n8_; (try clear hb); (try clear hb2); (try clear hk); (try clear hi); (try clear ho0); (try clear ho1)) | ((with_reducible refine gate_dst (N := 9) rfl ?_); (try (refine gate_guard (by rfl) ?_; dsimp only)); refine box_event ?hg (N := 9) ?hd (cs := #[.slice none 0 0, .int .i64 0, .int .i64 0, .int .i64 0, .bool false]) (t := 26) ?hr ?_; (case hd => rfl); (case hg => rfl); (case hr => first | (go_simp; done) | (go_simp; rfl)); intro gb306 hg w32 hbox hb; have n0_ := aA (Kd.R_below (mR HO278.out) hb); have n1_ := aA (Kd.R_below (mR HO285.out) hb); have n2_ := aA (Kd.V_below (Kd.V_elderB (by (with_reducible repeat (first | apply Kd.V_alloc | apply Kd.V_drewN | apply Kd.V_drew)); exact HO288.out) gb306 (Nat.le_of_eq hg.symm)) hb); have n3_ := aA (Kd.V_below (Kd.V_elderB (by (with_reducible repeat (first | apply Kd.V_alloc | apply Kd.V_drewN | apply Kd.V_drew)); exact HO297.out) gb306 (Nat.le_of_eq hg.symm)) hb); have n4_ := aA (Kd.R_below (mR HO304.out) hb); have n5_ := aA (bB BK274.out hb); have n6_ := aA (bB BK275.out hb); have n7_ := aA (bB BK294.out hb); have n8_ := aA (below_step (mD3 GE274.out GE275.out GE294.out) hb); have n9_ := aA (hbox); have n10_ := aA ((bZ hg (mD3 GE274.out GE275.out GE294.out))); have n11_ := aA ((bZ hg (mD3 GE274.out GE275.out GE294.out))); have n12_ := aA ((bL hg BK274.out)); have n13_ := aA ((bG hg BK274.out)); have n14_ := aA ((bL hg BK275.out)); have n15_ := aA ((bG hg BK275.out)); have n16_ := aA ((bL hg BK294.out)); have n17_ := aA ((bG hg BK294.out)); clear HO278 HO285 HO288 HO297 HO304 BK274 BK275 BK294 HB; have HO278 := n0_; have HO285 := n1_; have HO288 := n2_; have HO297 := n3_; have HO304 := n4_; have BK274 := n5_; have BK275 := n6_; have BK294 := n7_; have HB := n8_; have BK306 := n9_; have GW306 := n10_; have GE306 := n11_; have NB274_306 := n12_; have NB306_274 := n13_; have NB275_306 := n14_; have NB306_275 := n15_; have NB294_306 := n16_; have NB306_294 := n17_; clear n0_ n1_ n2_ n3_ n4_ n5_ n6_ n7_ n8_ n9_ n10_ n11_ n12_ n13_ n14_ n15_ n16_ n17_ hb hbox hg; obtain ⟨Ao33, co33, eo33⟩ := Kd.V_slice HO297.out; subst eo33; have hnb34 := NB306_274.out; have hnc34 := NB274_306.out; have hnb35 := NB306_275.out; have hnc35 := NB275_306.out; have hnb36 := NB306_294.out; have hnc36 := NB294_306.out; obtain ⟨hcz37_0, hcz37_1, hcz37_2, hcz37_3, hcz37_4⟩ := bC5 BK306.out; obtain ⟨hfz37_0, hfz37_1, hfz37_2, hfz37_3, hfz37_4⟩ := bF5 BK306.out) | ((with_reducible refine gate_dst (N := 12) rfl ?_); (try (refine gate_guard (by rfl) ?_; dsimp only)); refine box_event ?hg (N := 12) ?hd (cs := #[.slice none 0 0, .int .i64 0, .int .i64 0, .int .i64 0, .bool false]) (t := 26) ?hr ?_; (case hd => rfl); (case hg => rfl); (case hr => first | (go_simp; done) | (go_simp; rfl)); intro gb307 hg w38 hbox hb; have n0_ := aA (Kd.R_below (by (with_reducible repeat (first | apply Kd.R_alloc | apply Kd.R_drewN | apply Kd.R_drew)); exact (Kd.R_mono (rF 4 (rF 3 (rF 2 (rF 1 (rF 0 (Kd.R_types HO278.out BK306.out (by decide))))))) (fun _ h_ => h_.1))) hb); have n1_ := aA (Kd.R_below (by (with_reducible repeat (first | apply Kd.R_alloc | apply Kd.R_drewN | apply Kd.R_drew)); exact (Kd.R_mono (rF 4 (rF 3 (rF 2 (rF 1 (rF 0 (Kd.R_types HO285.out BK306.out (by decide))))))) (fun _ h_ => h_.1))) hb); have n2_ := aA (Kd.V_below (Kd.V_elderB (by (with_reducible repeat (first | apply Kd.V_alloc | apply Kd.V_drewN | apply Kd.V_drew)); exact (Kd.V_mono (Kd.V_far (p := ⟨gb306, 4, none⟩) (Kd.V_far (p := ⟨gb306, 3, none⟩) (Kd.V_far (p := ⟨gb306, 2, none⟩) (Kd.V_far (p := ⟨gb306, 1, none⟩) (Kd.V_far (p := ⟨gb306, 0, none⟩) (Kd.V_mono HO288.out (fun k_ hk => (⟨hk, hk.2⟩ : _ ∧ k_ ≠ gb306))) (fun _ hk => hk.2) (.slice Ao33 t295.length co33)) (fun _ hk => hk.2) (.int .i64 t298)) (fun _ hk => hk.2) (.int .i64 t299)) (fun _ hk => hk.2) (.int .i64 t300)) (fun _ hk => hk.2) (.bool t301)) (fun _ h_ => h_.1))) gb307 (Nat.le_of_eq hg.symm)) hb); have n3_ := aA (Kd.V_below (Kd.V_elderB (by (with_reducible repeat (first | apply Kd.V_alloc | apply Kd.V_drewN | apply Kd.V_drew)); exact (Kd.V_mono (Kd.V_far (p := ⟨gb306, 4, none⟩) (Kd.V_far (p := ⟨gb306, 3, none⟩) (Kd.V_far (p := ⟨gb306, 2, none⟩) (Kd.V_far (p := ⟨gb306, 1, none⟩) (Kd.V_far (p := ⟨gb306, 0, none⟩) (Kd.V_mono HO297.out (fun k_ hk => (⟨hk, hk.2⟩ : _ ∧ k_ ≠ gb306))) (fun _ hk => hk.2) (.slice Ao33 t295.length co33)) (fun _ hk => hk.2) (.int .i64 t298)) (fun _ hk => hk.2) (.int .i64 t299)) (fun _ hk => hk.2) (.int .i64 t300)) (fun _ hk => hk.2) (.bool t301)) (fun _ h_ => h_.1))) gb307 (Nat.le_of_eq hg.symm)) hb); have n4_ := aA (Kd.R_below (by (with_reducible repeat (first | apply Kd.R_alloc | apply Kd.R_drewN | apply Kd.R_drew)); exact (Kd.R_mono (rF 4 (rF 3 (rF 2 (rF 1 (rF 0 (Kd.R_types HO304.out BK306.out (by decide))))))) (fun _ h_ => h_.1))) hb); have n5_ := aA (blk_below (g := gb274) (o := .cells #[.slice Ao15 t276.length co15, .int .i64 t279, .int .i64 t280, .int .i64 t281, .bool t282] 26 (0, 0)) (by (with_reducible repeat (first | refine blk_drewN ?_ _ | refine blk_drew ?_ | refine blk_alloc ?_ _)); refine blk_far ?_ NB274_306.out _; (with_reducible repeat (first | refine blk_drewN ?_ _ | refine blk_drew ?_ | refine blk_alloc ?_ _)); refine blk_far ?_ NB274_306.out _; (with_reducible repeat (first | refine blk_drewN ?_ _ | refine blk_drew ?_ | refine blk_alloc ?_ _)); refine blk_far ?_ NB274_306.out _; (with_reducible repeat (first | refine blk_drewN ?_ _ | refine blk_drew ?_ | refine blk_alloc ?_ _)); refine blk_far ?_ NB274_306.out _; (with_reducible repeat (first | refine blk_drewN ?_ _ | refine blk_drew ?_ | refine blk_alloc ?_ _)); refine blk_far ?_ NB274_306.out _; (with_reducible repeat (first | refine blk_drewN ?_ _ | refine blk_drew ?_ | refine blk_alloc ?_ _)); exact BK274.out) hb); have n6_ := aA (blk_below (g := gb275) (o := .cells #[.slice Ao14 t283.length co14] 24 (0, 0)) (by (with_reducible repeat (first | refine blk_drewN ?_ _ | refine blk_drew ?_ | refine blk_alloc ?_ _)); refine blk_far ?_ NB275_306.out _; (with_reducible repeat (first | refine blk_drewN ?_ _ | refine blk_drew ?_ | refine blk_alloc ?_ _)); refine blk_far ?_ NB275_306.out _; (with_reducible repeat (first | refine blk_drewN ?_ _ | refine blk_drew ?_ | refine blk_alloc ?_ _)); refine blk_far ?_ NB275_306.out _; (with_reducible repeat (first | refine blk_drewN ?_ _ | refine blk_drew ?_ | refine blk_alloc ?_ _)); refine blk_far ?_ NB275_306.out _; (with_reducible repeat (first | refine blk_drewN ?_ _ | refine blk_drew ?_ | refine blk_alloc ?_ _)); refine blk_far ?_ NB275_306.out _; (with_reducible repeat (first | refine blk_drewN ?_ _ | refine blk_drew ?_ | refine blk_alloc ?_ _)); exact BK275.out) hb); have n7_ := aA (blk_below (g := gb294) (o := .cells #[.slice Ao24 t286.length co24, .int .i64 t289, .int .i64 t290, .int .i64 t291, .bool t292] 26 (0, 0)) (by (with_reducible repeat (first | refine blk_drewN ?_ _ | refine blk_drew ?_ | refine blk_alloc ?_ _)); refine blk_far ?_ NB294_306.out _; (with_reducible repeat (first | refine blk_drewN ?_ _ | refine blk_drew ?_ | refine blk_alloc ?_ _)); refine blk_far ?_ NB294_306.out _; (with_reducible repeat (first | refine blk_drewN ?_ _ | refine blk_drew ?_ | refine blk_alloc ?_ _)); refine blk_far ?_ NB294_306.out _; (with_reducible repeat (first | refine blk_drewN ?_ _ | refine blk_drew ?_ | refine blk_alloc ?_ _)); refine blk_far ?_ NB294_306.out _; (with_reducible repeat (first | refine blk_drewN ?_ _ | refine blk_drew ?_ | refine blk_alloc ?_ _)); refine blk_far ?_ NB294_306.out _; (with_reducible repeat (first | refine blk_drewN ?_ _ | refine blk_drew ?_ | refine blk_alloc ?_ _)); exact BK294.out) hb); have n8_ := aA (blk_below (g := gb306) (o := .cells #[.slice Ao33 t295.length co33, .int .i64 t298, .int .i64 t299, .int .i64 t300, .bool t301] 26 (0, 0)) (by (with_reducible repeat (first | refine blk_drewN ?_ _ | refine blk_drew ?_ | refine blk_alloc ?_ _)); have h_ := BK306.out; exact pK 4 (pK 3 (pK 2 (pK 1 (pK 0 (h_)))))) hb); have n9_ := aA (below_step (by repeat (first | (with_reducible first | exact HB.out | apply below_alloc | apply pw_below_drewN | apply below_drew1 | refine below_set ?_ GE274.out | refine below_set ?_ GE275.out | refine below_set ?_ GE294.out | refine below_set ?_ GE306.out) | exact HB.out)) hb); have n10_ := aA (hbox); have n11_ := aA ((by rw [hg]; exact (below_size (by repeat (first | (with_reducible first | exact HB.out | apply below_alloc | apply pw_below_drewN | apply below_drew1 | refine below_set ?_ GE274.out | refine below_set ?_ GE275.out | refine below_set ?_ GE294.out | refine below_set ?_ GE306.out) | exact HB.out))) : w.heap.size ≤ gb307)); have n12_ := aA ((by rw [hg]; exact (below_size (by repeat (first | (with_reducible first | exact HB.out | apply below_alloc | apply pw_below_drewN | apply below_drew1 | refine below_set ?_ GE274.out | refine below_set ?_ GE275.out | refine below_set ?_ GE294.out | refine below_set ?_ GE306.out) | exact HB.out))) : w.heap.size ≤ gb307)); have n13_ := aA ((by rw [hg]; exact Nat.ne_of_lt (blk_lt (g := gb274) (o := .cells #[.slice Ao15 t276.length co15, .int .i64 t279, .int .i64 t280, .int .i64 t281, .bool t282] 26 (0, 0)) (by (with_reducible repeat (first | refine blk_drewN ?_ _ | refine blk_drew ?_ | refine blk_alloc ?_ _)); refine blk_far ?_ NB274_306.out _; (with_reducible repeat (first | refine blk_drewN ?_ _ | refine blk_drew ?_ | refine blk_alloc ?_ _)); refine blk_far ?_ NB274_306.out _; (with_reducible repeat (first | refine blk_drewN ?_ _ | refine blk_drew ?_ | refine blk_alloc ?_ _)); refine blk_far ?_ NB274_306.out _; (with_reducible repeat (first | refine blk_drewN ?_ _ | refine blk_drew ?_ | refine blk_alloc ?_ _)); refine blk_far ?_ NB274_306.out _; (with_reducible repeat (first | refine blk_drewN ?_ _ | refine blk_drew ?_ | refine blk_alloc ?_ _)); refine blk_far ?_ NB274_306.out _; (with_reducible repeat (first | refine blk_drewN ?_ _ | refine blk_drew ?_ | refine blk_alloc ?_ _)); exact BK274.out)) : gb274 ≠ gb307)); have n14_ := aA ((by rw [hg]; exact Nat.ne_of_gt (blk_lt (g := gb274) (o := .cells #[.slice Ao15 t276.length co15, .int .i64 t279, .int .i64 t280, .int .i64 t281, .bool t282] 26 (0, 0)) (by (with_reducible repeat (first | refine blk_drewN ?_ _ | refine blk_drew ?_ | refine blk_alloc ?_ _)); refine blk_far ?_ NB274_306.out _; (with_reducible repeat (first | refine blk_drewN ?_ _ | refine blk_drew ?_ | refine blk_alloc ?_ _)); refine blk_far ?_ NB274_306.out _; (with_reducible repeat (first | refine blk_drewN ?_ _ | refine blk_drew ?_ | refine blk_alloc ?_ _)); refine blk_far ?_ NB274_306.out _; (with_reducible repeat (first | refine blk_drewN ?_ _ | refine blk_drew ?_ | refine blk_alloc ?_ _)); refine blk_far ?_ NB274_306.out _; (with_reducible repeat (first | refine blk_drewN ?_ _ | refine blk_drew ?_ | refine blk_alloc ?_ _)); refine blk_far ?_ NB274_306.out _; (with_reducible repeat (first | refine blk_drewN ?_ _ | refine blk_drew ?_ | refine blk_alloc ?_ _)); exact BK274.out)) : gb307 ≠ gb274)); have n15_ := aA ((by rw [hg]; exact Nat.ne_of_lt (blk_lt (g := gb275) (o := .cells #[.slice Ao14 t283.length co14] 24 (0, 0)) (by (with_reducible repeat (first | refine blk_drewN ?_ _ | refine blk_drew ?_ | refine blk_alloc ?_ _)); refine blk_far ?_ NB275_306.out _; (with_reducible repeat (first | refine blk_drewN ?_ _ | refine blk_drew ?_ | refine blk_alloc ?_ _)); refine blk_far ?_ NB275_306.out _; (with_reducible repeat (first | refine blk_drewN ?_ _ | refine blk_drew ?_ | refine blk_alloc ?_ _)); refine blk_far ?_ NB275_306.out _; (with_reducible repeat (first | refine blk_drewN ?_ _ | refine blk_drew ?_ | refine blk_alloc ?_ _)); refine blk_far ?_ NB275_306.out _; (with_reducible repeat (first | refine blk_drewN ?_ _ | refine blk_drew ?_ | refine blk_alloc ?_ _)); refine blk_far ?_ NB275_306.out _; (with_reducible repeat (first | refine blk_drewN ?_ _ | refine blk_drew ?_ | refine blk_alloc ?_ _)); exact BK275.out)) : gb275 ≠ gb307)); have n16_ := aA ((by rw [hg]; exact Nat.ne_of_gt (blk_lt (g := gb275) (o := .cells #[.slice Ao14 t283.length co14] 24 (0, 0)) (by (with_reducible repeat (first | refine blk_drewN ?_ _ | refine blk_drew ?_ | refine blk_alloc ?_ _)); refine blk_far ?_ NB275_306.out _; (with_reducible repeat (first | refine blk_drewN ?_ _ | refine blk_drew ?_ | refine blk_alloc ?_ _)); refine blk_far ?_ NB275_306.out _; (with_reducible repeat (first | refine blk_drewN ?_ _ | refine blk_drew ?_ | refine blk_alloc ?_ _)); refine blk_far ?_ NB275_306.out _; (with_reducible repeat (first | refine blk_drewN ?_ _ | refine blk_drew ?_ | refine blk_alloc ?_ _)); refine blk_far ?_ NB275_306.out _; (with_reducible repeat (first | refine blk_drewN ?_ _ | refine blk_drew ?_ | refine blk_alloc ?_ _)); refine blk_far ?_ NB275_306.out _; (with_reducible repeat (first | refine blk_drewN ?_ _ | refine blk_drew ?_ | refine blk_alloc ?_ _)); exact BK275.out)) : gb307 ≠ gb275)); have n17_ := aA ((by rw [hg]; exact Nat.ne_of_lt (blk_lt (g := gb294) (o := .cells #[.slice Ao24 t286.length co24, .int .i64 t289, .int .i64 t290, .int .i64 t291, .bool t292] 26 (0, 0)) (by (with_reducible repeat (first | refine blk_drewN ?_ _ | refine blk_drew ?_ | refine blk_alloc ?_ _)); refine blk_far ?_ NB294_306.out _; (with_reducible repeat (first | refine blk_drewN ?_ _ | refine blk_drew ?_ | refine blk_alloc ?_ _)); refine blk_far ?_ NB294_306.out _; (with_reducible repeat (first | refine blk_drewN ?_ _ | refine blk_drew ?_ | refine blk_alloc ?_ _)); refine blk_far ?_ NB294_306.out _; (with_reducible repeat (first | refine blk_drewN ?_ _ | refine blk_drew ?_ | refine blk_alloc ?_ _)); refine blk_far ?_ NB294_306.out _; (with_reducible repeat (first | refine blk_drewN ?_ _ | refine blk_drew ?_ | refine blk_alloc ?_ _)); refine blk_far ?_ NB294_306.out _; (with_reducible repeat (first | refine blk_drewN ?_ _ | refine blk_drew ?_ | refine blk_alloc ?_ _)); exact BK294.out)) : gb294 ≠ gb307)); have n18_ := aA ((by rw [hg]; exact Nat.ne_of_gt (blk_lt (g := gb294) (o := .cells #[.slice Ao24 t286.length co24, .int .i64 t289, .int .i64 t290, .int .i64 t291, .bool t292] 26 (0, 0)) (by (with_reducible repeat (first | refine blk_drewN ?_ _ | refine blk_drew ?_ | refine blk_alloc ?_ _)); refine blk_far ?_ NB294_306.out _; (with_reducible repeat (first | refine blk_drewN ?_ _ | refine blk_drew ?_ | refine blk_alloc ?_ _)); refine blk_far ?_ NB294_306.out _; (with_reducible repeat (first | refine blk_drewN ?_ _ | refine blk_drew ?_ | refine blk_alloc ?_ _)); refine blk_far ?_ NB294_306.out _; (with_reducible repeat (first | refine blk_drewN ?_ _ | refine blk_drew ?_ | refine blk_alloc ?_ _)); refine blk_far ?_ NB294_306.out _; (with_reducible repeat (first | refine blk_drewN ?_ _ | refine blk_drew ?_ | refine blk_alloc ?_ _)); refine blk_far ?_ NB294_306.out _; (with_reducible repeat (first | refine blk_drewN ?_ _ | refine blk_drew ?_ | refine blk_alloc ?_ _)); exact BK294.out)) : gb307 ≠ gb294)); have n19_ := aA ((by rw [hg]; exact Nat.ne_of_lt (blk_lt (g := gb306) (o := .cells #[.slice Ao33 t295.length co33, .int .i64 t298, .int .i64 t299, .int .i64 t300, .bool t301] 26 (0, 0)) (by (with_reducible repeat (first | refine blk_drewN ?_ _ | refine blk_drew ?_ | refine blk_alloc ?_ _)); have h_ := BK306.out; exact pK 4 (pK 3 (pK 2 (pK 1 (pK 0 (h_))))))) : gb306 ≠ gb307)); have n20_ := aA ((by rw [hg]; exact Nat.ne_of_gt (blk_lt (g := gb306) (o := .cells #[.slice Ao33 t295.length co33, .int .i64 t298, .int .i64 t299, .int .i64 t300, .bool t301] 26 (0, 0)) (by (with_reducible repeat (first | refine blk_drewN ?_ _ | refine blk_drew ?_ | refine blk_alloc ?_ _)); have h_ := BK306.out; exact pK 4 (pK 3 (pK 2 (pK 1 (pK 0 (h_))))))) : gb307 ≠ gb306)); clear HO278 HO285 HO288 HO297 HO304 BK274 BK275 BK294 BK306 HB; have HO278 := n0_; have HO285 := n1_; have HO288 := n2_; have HO297 := n3_; have HO304 := n4_; have BK274 := n5_; have BK275 := n6_; have BK294 := n7_; have BK306 := n8_; have HB := n9_; have BK307 := n10_; have GW307 := n11_; have GE307 := n12_; have NB274_307 := n13_; have NB307_274 := n14_; have NB275_307 := n15_; have NB307_275 := n16_; have NB294_307 := n17_; have NB307_294 := n18_; have NB306_307 := n19_; have NB307_306 := n20_; clear n0_ n1_ n2_ n3_ n4_ n5_ n6_ n7_ n8_ n9_ n10_ n11_ n12_ n13_ n14_ n15_ n16_ n17_ n18_ n19_ n20_ hb hbox hg; have hnb39 := NB307_274.out; have hnc39 := NB274_307.out; have hnb40 := NB307_275.out; have hnc40 := NB275_307.out; have hnb41 := NB307_294.out; have hnc41 := NB294_307.out; have hnb42 := NB307_306.out; have hnc42 := NB306_307.out; obtain ⟨hcz43_0, hcz43_1, hcz43_2, hcz43_3, hcz43_4⟩ := bC5 BK307.out; obtain ⟨hfz43_0, hfz43_1, hfz43_2, hfz43_3, hfz43_4⟩ := bF5 BK307.out))
 (try simp only [Act.put, List.setIfInBounds_toArray, List.set_cons_zero, List.set_cons_succ])
 go_cut [42] (fun v42 wc => ∃ (kq : Nat) (x42_7 : Bool), v42 = .bool x42_7 ∧ Aside0 (foghornlaw04_StoreBoots.j0 kq a0 t293 t302 t305 x42_7 t283 t286 t289 t290 t291 t292 t295 t298 t299 t300 t301 0 0 0 false = some r) ∧ Aside0 (kq ≤ k) ∧ Aside0 (Kd.R Kd.string 9 wc w.heap.size (fun k_ => some k_ ≠ ((.slice Ao15 t276.length co15) : Value).ownBlock ∧ some k_ ≠ ((.slice Ao14 t283.length co14) : Value).ownBlock) v303 t302) ∧ Aside0 (Kd.R Kd.string 9 wc w.heap.size (fun k_ => some k_ ≠ (v303 : Value).ownBlock ∧ some k_ ≠ ((.slice Ao14 t283.length co14) : Value).ownBlock) (.slice Ao15 t276.length co15) t276) ∧ Aside0 (Kd.R Kd.string 9 wc w.heap.size (fun k_ => some k_ ≠ (v303 : Value).ownBlock ∧ some k_ ≠ ((.slice Ao15 t276.length co15) : Value).ownBlock) (.slice Ao14 t283.length co14) t283) ∧ Aside0 (Kd.V Kd.string 9 wc w.heap.size (fun k_ => some k_ ≠ (v303 : Value).ownBlock ∧ some k_ ≠ ((.slice Ao15 t276.length co15) : Value).ownBlock ∧ some k_ ≠ ((.slice Ao14 t283.length co14) : Value).ownBlock ∧ k_ ≠ gb274 ∧ k_ ≠ gb275 ∧ k_ ≠ gb294 ∧ k_ ≠ gb306 ∧ k_ ≠ gb307) (.slice Ao24 t286.length co24) t286) ∧ Aside0 (Kd.V Kd.string 9 wc w.heap.size (fun k_ => some k_ ≠ (v303 : Value).ownBlock ∧ some k_ ≠ ((.slice Ao15 t276.length co15) : Value).ownBlock ∧ k_ ≠ gb274 ∧ k_ ≠ gb275 ∧ k_ ≠ gb294 ∧ k_ ≠ gb306 ∧ k_ ≠ gb307) (.slice Ao33 t295.length co33) t295) ∧ Aside0 (wc.heap[gb274]? = some (.cells #[(.slice Ao15 t276.length co15), .int .i64 t279, .int .i64 t280, .int .i64 t281, .bool t282] 26 (0, 0))) ∧ Aside0 (wc.heap[gb275]? = some (.cells #[(.slice Ao14 t283.length co14)] 24 (0, 0))) ∧ Aside0 (wc.heap[gb294]? = some (.cells #[(.slice Ao24 t286.length co24), .int .i64 t289, .int .i64 t290, .int .i64 t291, .bool t292] 26 (0, 0))) ∧ Aside0 (wc.heap[gb306]? = some (.cells #[(.slice Ao33 t295.length co33), .int .i64 t298, .int .i64 t299, .int .i64 t300, .bool t301] 26 (0, 0))) ∧ Aside0 (wc.heap[gb307]? = some (.cells #[(.slice none 0 0), .int .i64 0, .int .i64 0, .int .i64 0, .bool false] 26 (0, 0))) ∧ Aside0 (Below w.heap.size w wc))
 case first =>
  have H := HC8.out
  clear HC8
  replace H := Option.bind_eq_some_iff.mp H
  obtain ⟨t308, A440, H⟩ := H
  have A44 := aA A440
  clear A440
  replace H := Option.bind_eq_some_iff.mp H
  obtain ⟨t309, A450, H⟩ := H
  have A45 := aA A450
  clear A450
  by_cases c46 : (t308 != t309) = true
  ·rw [if_pos c46] at H
   have c46b0 : (t308 != t309) = true := c46
   (try (have c46b1 : decide (t308 = t309) = false := by simpa using c46))
   (try (have c46b2 : (t308 == t309) = false := by simpa using c46))
   (try (have c46b3 : ¬ (t308 = t309) := by simpa using c46))
   clear c46
   (first | rw [c46b0] | (simp only [i64_w, i32_w]; rw [c46b0]) | skip)
   have H' := aA H
   clear H
   try go_wp2
   have n0_ : Aside0 (Kd.R Kd.string 9 (((((w38.setCell ⟨gb307, 0, none⟩ (.slice none 0 0)).setCell ⟨gb307, 1, none⟩ (.int .i64 0)).setCell ⟨gb307, 2, none⟩ (.int .i64 0)).setCell ⟨gb307, 3, none⟩ (.int .i64 0)).setCell ⟨gb307, 4, none⟩ (.bool false)) w.heap.size (fun k_ => some k_ ≠ (.slice Ao14 t283.length co14 : Value).ownBlock ∧ some k_ ≠ (v303 : Value).ownBlock) (.slice Ao15 t276.length co15) t276) := ⟨by (with_reducible repeat (first | apply Kd.R_alloc | apply Kd.R_drewN | apply Kd.R_drew)); exact Kd.R_mono (rF 4 (rF 3 (rF 2 (rF 1 (rF 0 (Kd.R_types HO278.out BK307.out (by decide))))))) (fun _ hk => ⟨hk.1.1, hk.1.2⟩)⟩
   have n1_ : Aside0 (Kd.R Kd.string 9 (((((w38.setCell ⟨gb307, 0, none⟩ (.slice none 0 0)).setCell ⟨gb307, 1, none⟩ (.int .i64 0)).setCell ⟨gb307, 2, none⟩ (.int .i64 0)).setCell ⟨gb307, 3, none⟩ (.int .i64 0)).setCell ⟨gb307, 4, none⟩ (.bool false)) w.heap.size (fun k_ => some k_ ≠ (.slice Ao15 t276.length co15 : Value).ownBlock ∧ some k_ ≠ (v303 : Value).ownBlock) (.slice Ao14 t283.length co14) t283) := ⟨by (with_reducible repeat (first | apply Kd.R_alloc | apply Kd.R_drewN | apply Kd.R_drew)); exact Kd.R_mono (rF 4 (rF 3 (rF 2 (rF 1 (rF 0 (Kd.R_types HO285.out BK307.out (by decide))))))) (fun _ hk => ⟨hk.1.1, hk.1.2⟩)⟩
   have n2_ : Aside0 (Kd.V Kd.string 9 (((((w38.setCell ⟨gb307, 0, none⟩ (.slice none 0 0)).setCell ⟨gb307, 1, none⟩ (.int .i64 0)).setCell ⟨gb307, 2, none⟩ (.int .i64 0)).setCell ⟨gb307, 3, none⟩ (.int .i64 0)).setCell ⟨gb307, 4, none⟩ (.bool false)) w.heap.size (fun k_ => some k_ ≠ (.slice Ao15 t276.length co15 : Value).ownBlock ∧ some k_ ≠ (.slice Ao14 t283.length co14 : Value).ownBlock ∧ some k_ ≠ (v303 : Value).ownBlock ∧ k_ ≠ gb274 ∧ k_ ≠ gb275 ∧ k_ ≠ gb294 ∧ k_ ≠ gb306 ∧ k_ ≠ gb307) (.slice Ao24 t286.length co24) t286) := ⟨by (with_reducible repeat (first | apply Kd.V_alloc | apply Kd.V_drewN | apply Kd.V_drew)); exact Kd.V_mono (Kd.V_far (p := ⟨gb307, 4, none⟩) (Kd.V_far (p := ⟨gb307, 3, none⟩) (Kd.V_far (p := ⟨gb307, 2, none⟩) (Kd.V_far (p := ⟨gb307, 1, none⟩) (Kd.V_far (p := ⟨gb307, 0, none⟩) (Kd.V_mono HO288.out (fun k_ hk => (⟨hk, hk.2⟩ : _ ∧ k_ ≠ gb307))) (fun _ hk => hk.2) (.slice none 0 0)) (fun _ hk => hk.2) (.int .i64 0)) (fun _ hk => hk.2) (.int .i64 0)) (fun _ hk => hk.2) (.int .i64 0)) (fun _ hk => hk.2) (.bool false)) (fun _ hk => ⟨hk.1.1.1.1.1, ⟨hk.1.1.1.1.2.1, ⟨hk.1.1.1.2, ⟨hk.1.1.1.1.2.2.1, ⟨hk.1.1.1.1.2.2.2.1, ⟨hk.1.1.1.1.2.2.2.2, ⟨hk.1.1.2, hk.1.2⟩⟩⟩⟩⟩⟩⟩)⟩
   have n3_ : Aside0 (Kd.V Kd.string 9 (((((w38.setCell ⟨gb307, 0, none⟩ (.slice none 0 0)).setCell ⟨gb307, 1, none⟩ (.int .i64 0)).setCell ⟨gb307, 2, none⟩ (.int .i64 0)).setCell ⟨gb307, 3, none⟩ (.int .i64 0)).setCell ⟨gb307, 4, none⟩ (.bool false)) w.heap.size (fun k_ => some k_ ≠ (.slice Ao15 t276.length co15 : Value).ownBlock ∧ some k_ ≠ (v303 : Value).ownBlock ∧ k_ ≠ gb274 ∧ k_ ≠ gb275 ∧ k_ ≠ gb294 ∧ k_ ≠ gb306 ∧ k_ ≠ gb307) (.slice Ao33 t295.length co33) t295) := ⟨by (with_reducible repeat (first | apply Kd.V_alloc | apply Kd.V_drewN | apply Kd.V_drew)); exact Kd.V_mono (Kd.V_far (p := ⟨gb307, 4, none⟩) (Kd.V_far (p := ⟨gb307, 3, none⟩) (Kd.V_far (p := ⟨gb307, 2, none⟩) (Kd.V_far (p := ⟨gb307, 1, none⟩) (Kd.V_far (p := ⟨gb307, 0, none⟩) (Kd.V_mono HO297.out (fun k_ hk => (⟨hk, hk.2⟩ : _ ∧ k_ ≠ gb307))) (fun _ hk => hk.2) (.slice none 0 0)) (fun _ hk => hk.2) (.int .i64 0)) (fun _ hk => hk.2) (.int .i64 0)) (fun _ hk => hk.2) (.int .i64 0)) (fun _ hk => hk.2) (.bool false)) (fun _ hk => ⟨hk.1.1.1.2.1, ⟨hk.1.1.1.1, ⟨hk.1.1.1.2.2.1, ⟨hk.1.1.1.2.2.2.1, ⟨hk.1.1.1.2.2.2.2, ⟨hk.1.1.2, hk.1.2⟩⟩⟩⟩⟩⟩)⟩
   have n4_ : Aside0 (Kd.R Kd.string 9 (((((w38.setCell ⟨gb307, 0, none⟩ (.slice none 0 0)).setCell ⟨gb307, 1, none⟩ (.int .i64 0)).setCell ⟨gb307, 2, none⟩ (.int .i64 0)).setCell ⟨gb307, 3, none⟩ (.int .i64 0)).setCell ⟨gb307, 4, none⟩ (.bool false)) w.heap.size (fun k_ => some k_ ≠ (.slice Ao15 t276.length co15 : Value).ownBlock ∧ some k_ ≠ (.slice Ao14 t283.length co14 : Value).ownBlock) v303 t302) := ⟨by (with_reducible repeat (first | apply Kd.R_alloc | apply Kd.R_drewN | apply Kd.R_drew)); exact Kd.R_mono (rF 4 (rF 3 (rF 2 (rF 1 (rF 0 (Kd.R_types HO304.out BK307.out (by decide))))))) (fun _ hk => ⟨hk.1.1.2, hk.1.2⟩)⟩
   have n5_ : Aside0 ((((((w38.setCell ⟨gb307, 0, none⟩ (.slice none 0 0)).setCell ⟨gb307, 1, none⟩ (.int .i64 0)).setCell ⟨gb307, 2, none⟩ (.int .i64 0)).setCell ⟨gb307, 3, none⟩ (.int .i64 0)).setCell ⟨gb307, 4, none⟩ (.bool false)).heap[gb274]? = some (.cells #[.slice Ao15 t276.length co15, .int .i64 t279, .int .i64 t280, .int .i64 t281, .bool t282] 26 (0, 0))) := ⟨by (with_reducible repeat (first | refine blk_drewN ?_ _ | refine blk_drew ?_ | refine blk_alloc ?_ _)); refine blk_far ?_ NB274_307.out _; (with_reducible repeat (first | refine blk_drewN ?_ _ | refine blk_drew ?_ | refine blk_alloc ?_ _)); refine blk_far ?_ NB274_307.out _; (with_reducible repeat (first | refine blk_drewN ?_ _ | refine blk_drew ?_ | refine blk_alloc ?_ _)); refine blk_far ?_ NB274_307.out _; (with_reducible repeat (first | refine blk_drewN ?_ _ | refine blk_drew ?_ | refine blk_alloc ?_ _)); refine blk_far ?_ NB274_307.out _; (with_reducible repeat (first | refine blk_drewN ?_ _ | refine blk_drew ?_ | refine blk_alloc ?_ _)); refine blk_far ?_ NB274_307.out _; (with_reducible repeat (first | refine blk_drewN ?_ _ | refine blk_drew ?_ | refine blk_alloc ?_ _)); exact BK274.out⟩
   have n6_ : Aside0 ((((((w38.setCell ⟨gb307, 0, none⟩ (.slice none 0 0)).setCell ⟨gb307, 1, none⟩ (.int .i64 0)).setCell ⟨gb307, 2, none⟩ (.int .i64 0)).setCell ⟨gb307, 3, none⟩ (.int .i64 0)).setCell ⟨gb307, 4, none⟩ (.bool false)).heap[gb275]? = some (.cells #[.slice Ao14 t283.length co14] 24 (0, 0))) := ⟨by (with_reducible repeat (first | refine blk_drewN ?_ _ | refine blk_drew ?_ | refine blk_alloc ?_ _)); refine blk_far ?_ NB275_307.out _; (with_reducible repeat (first | refine blk_drewN ?_ _ | refine blk_drew ?_ | refine blk_alloc ?_ _)); refine blk_far ?_ NB275_307.out _; (with_reducible repeat (first | refine blk_drewN ?_ _ | refine blk_drew ?_ | refine blk_alloc ?_ _)); refine blk_far ?_ NB275_307.out _; (with_reducible repeat (first | refine blk_drewN ?_ _ | refine blk_drew ?_ | refine blk_alloc ?_ _)); refine blk_far ?_ NB275_307.out _; (with_reducible repeat (first | refine blk_drewN ?_ _ | refine blk_drew ?_ | refine blk_alloc ?_ _)); refine blk_far ?_ NB275_307.out _; (with_reducible repeat (first | refine blk_drewN ?_ _ | refine blk_drew ?_ | refine blk_alloc ?_ _)); exact BK275.out⟩
   have n7_ : Aside0 ((((((w38.setCell ⟨gb307, 0, none⟩ (.slice none 0 0)).setCell ⟨gb307, 1, none⟩ (.int .i64 0)).setCell ⟨gb307, 2, none⟩ (.int .i64 0)).setCell ⟨gb307, 3, none⟩ (.int .i64 0)).setCell ⟨gb307, 4, none⟩ (.bool false)).heap[gb294]? = some (.cells #[.slice Ao24 t286.length co24, .int .i64 t289, .int .i64 t290, .int .i64 t291, .bool t292] 26 (0, 0))) := ⟨by (with_reducible repeat (first | refine blk_drewN ?_ _ | refine blk_drew ?_ | refine blk_alloc ?_ _)); refine blk_far ?_ NB294_307.out _; (with_reducible repeat (first | refine blk_drewN ?_ _ | refine blk_drew ?_ | refine blk_alloc ?_ _)); refine blk_far ?_ NB294_307.out _; (with_reducible repeat (first | refine blk_drewN ?_ _ | refine blk_drew ?_ | refine blk_alloc ?_ _)); refine blk_far ?_ NB294_307.out _; (with_reducible repeat (first | refine blk_drewN ?_ _ | refine blk_drew ?_ | refine blk_alloc ?_ _)); refine blk_far ?_ NB294_307.out _; (with_reducible repeat (first | refine blk_drewN ?_ _ | refine blk_drew ?_ | refine blk_alloc ?_ _)); refine blk_far ?_ NB294_307.out _; (with_reducible repeat (first | refine blk_drewN ?_ _ | refine blk_drew ?_ | refine blk_alloc ?_ _)); exact BK294.out⟩
   have n8_ : Aside0 ((((((w38.setCell ⟨gb307, 0, none⟩ (.slice none 0 0)).setCell ⟨gb307, 1, none⟩ (.int .i64 0)).setCell ⟨gb307, 2, none⟩ (.int .i64 0)).setCell ⟨gb307, 3, none⟩ (.int .i64 0)).setCell ⟨gb307, 4, none⟩ (.bool false)).heap[gb306]? = some (.cells #[.slice Ao33 t295.length co33, .int .i64 t298, .int .i64 t299, .int .i64 t300, .bool t301] 26 (0, 0))) := ⟨by (with_reducible repeat (first | refine blk_drewN ?_ _ | refine blk_drew ?_ | refine blk_alloc ?_ _)); refine blk_far ?_ NB306_307.out _; (with_reducible repeat (first | refine blk_drewN ?_ _ | refine blk_drew ?_ | refine blk_alloc ?_ _)); refine blk_far ?_ NB306_307.out _; (with_reducible repeat (first | refine blk_drewN ?_ _ | refine blk_drew ?_ | refine blk_alloc ?_ _)); refine blk_far ?_ NB306_307.out _; (with_reducible repeat (first | refine blk_drewN ?_ _ | refine blk_drew ?_ | refine blk_alloc ?_ _)); refine blk_far ?_ NB306_307.out _; (with_reducible repeat (first | refine blk_drewN ?_ _ | refine blk_drew ?_ | refine blk_alloc ?_ _)); refine blk_far ?_ NB306_307.out _; (with_reducible repeat (first | refine blk_drewN ?_ _ | refine blk_drew ?_ | refine blk_alloc ?_ _)); exact BK306.out⟩
   have n9_ : Aside0 ((((((w38.setCell ⟨gb307, 0, none⟩ (.slice none 0 0)).setCell ⟨gb307, 1, none⟩ (.int .i64 0)).setCell ⟨gb307, 2, none⟩ (.int .i64 0)).setCell ⟨gb307, 3, none⟩ (.int .i64 0)).setCell ⟨gb307, 4, none⟩ (.bool false)).heap[gb307]? = some (.cells #[.slice none 0 0, .int .i64 0, .int .i64 0, .int .i64 0, .bool false] 26 (0, 0))) := ⟨by (with_reducible repeat (first | refine blk_drewN ?_ _ | refine blk_drew ?_ | refine blk_alloc ?_ _)); refine blk_put (cs := #[.slice none 0 0, .int .i64 0, .int .i64 0, .int .i64 0, .bool false]) ?_ 4 _ rfl; (with_reducible repeat (first | refine blk_drewN ?_ _ | refine blk_drew ?_ | refine blk_alloc ?_ _)); refine blk_put (cs := #[.slice none 0 0, .int .i64 0, .int .i64 0, .int .i64 0, .bool false]) ?_ 3 _ rfl; (with_reducible repeat (first | refine blk_drewN ?_ _ | refine blk_drew ?_ | refine blk_alloc ?_ _)); refine blk_put (cs := #[.slice none 0 0, .int .i64 0, .int .i64 0, .int .i64 0, .bool false]) ?_ 2 _ rfl; (with_reducible repeat (first | refine blk_drewN ?_ _ | refine blk_drew ?_ | refine blk_alloc ?_ _)); refine blk_put (cs := #[.slice none 0 0, .int .i64 0, .int .i64 0, .int .i64 0, .bool false]) ?_ 1 _ rfl; (with_reducible repeat (first | refine blk_drewN ?_ _ | refine blk_drew ?_ | refine blk_alloc ?_ _)); refine blk_put (cs := #[.slice none 0 0, .int .i64 0, .int .i64 0, .int .i64 0, .bool false]) ?_ 0 _ rfl; (with_reducible repeat (first | refine blk_drewN ?_ _ | refine blk_drew ?_ | refine blk_alloc ?_ _)); exact BK307.out⟩
   have n10_ : Aside0 (Below w.heap.size w (((((w38.setCell ⟨gb307, 0, none⟩ (.slice none 0 0)).setCell ⟨gb307, 1, none⟩ (.int .i64 0)).setCell ⟨gb307, 2, none⟩ (.int .i64 0)).setCell ⟨gb307, 3, none⟩ (.int .i64 0)).setCell ⟨gb307, 4, none⟩ (.bool false))) := ⟨by repeat (first | (with_reducible first | exact HB.out | apply below_alloc | apply pw_below_drewN | apply below_drew1 | refine below_set ?_ GE274.out | refine below_set ?_ GE275.out | refine below_set ?_ GE294.out | refine below_set ?_ GE306.out | refine below_set ?_ GE307.out) | exact HB.out)⟩
   (try clear HO278)
   (try clear HO285)
   (try clear HO288)
   (try clear HO297)
   (try clear HO304)
   (try clear BK274)
   (try clear BK275)
   (try clear BK294)
   (try clear BK306)
   (try clear BK307)
   (try clear HB)
   generalize (((((w38.setCell ⟨gb307, 0, none⟩ (.slice none 0 0)).setCell ⟨gb307, 1, none⟩ (.int .i64 0)).setCell ⟨gb307, 2, none⟩ (.int .i64 0)).setCell ⟨gb307, 3, none⟩ (.int .i64 0)).setCell ⟨gb307, 4, none⟩ (.bool false)) = w47 at n0_ n1_ n2_ n3_ n4_ n5_ n6_ n7_ n8_ n9_ n10_ ⊢
   have HO278 := n0_
   have HO285 := n1_
   have HO288 := n2_
   have HO297 := n3_
   have HO304 := n4_
   have BK274 := n5_
   have BK275 := n6_
   have BK294 := n7_
   have BK306 := n8_
   have BK307 := n9_
   have HB := n10_
   clear n0_ n1_ n2_ n3_ n4_ n5_ n6_ n7_ n8_ n9_ n10_
   have n0_ := aA (Kd.R_drew HO278.out)
   have n1_ := aA (Kd.R_drew HO285.out)
   have n2_ := aA (Kd.V_drew HO288.out)
   have n3_ := aA (Kd.V_drew HO297.out)
   have n4_ := aA (Kd.R_drew HO304.out)
   have n5_ := aA (blk_drew BK274.out)
   have n6_ := aA (blk_drew BK275.out)
   have n7_ := aA (blk_drew BK294.out)
   have n8_ := aA (blk_drew BK306.out)
   have n9_ := aA (blk_drew BK307.out)
   have n10_ := aA (below_drew1 HB.out)
   clear HO278
   clear HO285
   clear HO288
   clear HO297
   clear HO304
   clear BK274
   clear BK275
   clear BK294
   clear BK306
   clear BK307
   clear HB
   have HO278 := n0_
   have HO285 := n1_
   have HO288 := n2_
   have HO297 := n3_
   have HO304 := n4_
   have BK274 := n5_
   have BK275 := n6_
   have BK294 := n7_
   have BK306 := n8_
   have BK307 := n9_
   have HB := n10_
   clear n0_ n1_ n2_ n3_ n4_ n5_ n6_ n7_ n8_ n9_ n10_
   refine start_ (n := 9) (S := fun w' => w'.cell? ⟨gb274, 0, none⟩ = some (.slice Ao15 t276.length co15) ∧ w'.cell? ⟨gb274, 1, none⟩ = some (.int .i64 t279) ∧ w'.cell? ⟨gb274, 2, none⟩ = some (.int .i64 t280) ∧ w'.cell? ⟨gb274, 3, none⟩ = some (.int .i64 t281) ∧ w'.cell? ⟨gb274, 4, none⟩ = some (.bool t282)) (ds := []) #[false, false, false, false, false, false, false, false, false] (by kernel_rfl) rfl rfl (bC5 BK274.out) (fun hHeld => ?_); refine with_tabW foghornlaw04_StoreBoots.tab5 foghornlaw04_StoreBoots.bits5 (fun HT_ HW_ => ?_)
   generalize w47.drew = w48 at HO278 HO285 HO288 HO297 HO304 BK274 BK275 BK294 BK306 BK307 HB hHeld ⊢
   refine take_ (i := 0) (N := some 34) (v := ?_) (a' := ?_) #[true, false, false, false, false, false, false, false, false] rfl rfl (take_ofW HT_.out HW_.out (by kernel_rfl)) (fun _ _ _ h => h) (Or.inl ⟨by rfl, ?_⟩) hHeld ?_ ?_
   rotate_left
   ·rintro w' ⟨s0, s1, s2, s3, s4⟩
    go_simp
    with_reducible rfl
   rotate_left
   ·exact mP
   refine take_ (i := 2) (N := some 36) (v := ?_) (a' := ?_) #[true, false, true, false, false, false, false, false, false] rfl rfl (take_ofW HT_.out HW_.out (by kernel_rfl)) (fun _ _ _ h => h) (Or.inl ⟨by rfl, ?_⟩) hHeld ?_ ?_
   rotate_left
   ·rintro w' ⟨s0, s1, s2, s3, s4⟩
    go_simp
    with_reducible rfl
   rotate_left
   ·exact mP
   refine one_ (i := 1) (N := some 35) #[true, true, true, false, false, false, false, false, false] rfl rfl (one_of HT_.out (by kernel_rfl)) (by decide) (fun K hK => ?_)
   refine goes_ Try.func13 (by kernel_rfl) rfl #[.agg #[.slice Ao15 t276.length co15, .int .i64 t279, .int .i64 t280, .int .i64 t281, .bool t282]] (by rfl) rfl rfl mS ?_
   with_reducible refine (store_Right.calls _ _ t276 t279 t280 t281 t282 t308 _ ?side1 ?side2 A44.out).mono ?_
   (case side1 => exact mC ((Kd.R_reads' HO278.out).2.2))
   (case side2 => exact (Kd.R_reads' HO278.out).2.1)
   rintro e w49 ⟨rfl, hb⟩
   refine ⟨_, rfl, ?_⟩
   have n0_ := aA (Kd.R_below (mR HO278.out) hb)
   have n1_ := aA (Kd.R_below (mR HO285.out) hb)
   have n2_ := aA (Kd.V_below (by (with_reducible repeat (first | apply Kd.V_alloc | apply Kd.V_drewN | apply Kd.V_drew)); exact HO288.out) hb)
   have n3_ := aA (Kd.V_below (by (with_reducible repeat (first | apply Kd.V_alloc | apply Kd.V_drewN | apply Kd.V_drew)); exact HO297.out) hb)
   have n4_ := aA (Kd.R_below (mR HO304.out) hb)
   have n5_ := aA (bB BK274.out hb)
   have n6_ := aA (bB BK275.out hb)
   have n7_ := aA (bB BK294.out hb)
   have n8_ := aA (bB BK306.out hb)
   have n9_ := aA (bB BK307.out hb)
   have n10_ := aA (below_step (by repeat (first | (with_reducible first | exact HB.out | apply below_alloc | apply pw_below_drewN | apply below_drew1 | refine below_set ?_ GE274.out | refine below_set ?_ GE275.out | refine below_set ?_ GE294.out | refine below_set ?_ GE306.out | refine below_set ?_ GE307.out) | exact HB.out)) hb)
   clear HO278
   clear HO285
   clear HO288
   clear HO297
   clear HO304
   clear BK274
   clear BK275
   clear BK294
   clear BK306
   clear BK307
   clear HB
   have HO278 := n0_
   have HO285 := n1_
   have HO288 := n2_
   have HO297 := n3_
   have HO304 := n4_
   have BK274 := n5_
   have BK275 := n6_
   have BK294 := n7_
   have BK306 := n8_
   have BK307 := n9_
   have HB := n10_
   clear n0_ n1_ n2_ n3_ n4_ n5_ n6_ n7_ n8_ n9_ n10_
   (try clear hb)
   (try clear hb2)
   (try clear hk)
   (try clear hi)
   refine hK.out _ _ (bC5 BK274.out) (fun hHeld => ?_)
   clear hK K
   refine norm_ (a' := ?_) ?_ ?_
   rotate_left
   ·show Act.put _ (some 35) _ = _
    simp only [Act.put, List.setIfInBounds_toArray, List.set_cons_zero, List.set_cons_succ, i64_w, i32_w]
    rfl
   refine one_ (i := 3) (N := some 37) #[true, true, true, true, false, false, false, false, false] rfl rfl (one_of HT_.out (by kernel_rfl)) (by decide) (fun K hK => ?_)
   refine goes_ Try.func14 (by kernel_rfl) rfl #[.agg #[.slice Ao15 t276.length co15, .int .i64 t279, .int .i64 t280, .int .i64 t281, .bool t282]] (by rfl) rfl rfl mS ?_
   with_reducible refine (foghornref04_Right.calls k _ _ t276 t279 t280 t281 t282 t309 _ ?side1 ?side2 A45.out).mono ?_
   (case side1 => exact mC ((Kd.R_reads' HO278.out).2.2))
   (case side2 => exact (Kd.R_reads' HO278.out).2.1)
   rintro e w50 ⟨rfl, hb⟩
   refine ⟨_, rfl, ?_⟩
   have n0_ := aA (Kd.R_below (mR HO278.out) hb)
   have n1_ := aA (Kd.R_below (mR HO285.out) hb)
   have n2_ := aA (Kd.V_below (by (with_reducible repeat (first | apply Kd.V_alloc | apply Kd.V_drewN | apply Kd.V_drew)); exact HO288.out) hb)
   have n3_ := aA (Kd.V_below (by (with_reducible repeat (first | apply Kd.V_alloc | apply Kd.V_drewN | apply Kd.V_drew)); exact HO297.out) hb)
   have n4_ := aA (Kd.R_below (mR HO304.out) hb)
   have n5_ := aA (bB BK274.out hb)
   have n6_ := aA (bB BK275.out hb)
   have n7_ := aA (bB BK294.out hb)
   have n8_ := aA (bB BK306.out hb)
   have n9_ := aA (bB BK307.out hb)
   have n10_ := aA (below_step (by repeat (first | (with_reducible first | exact HB.out | apply below_alloc | apply pw_below_drewN | apply below_drew1 | refine below_set ?_ GE274.out | refine below_set ?_ GE275.out | refine below_set ?_ GE294.out | refine below_set ?_ GE306.out | refine below_set ?_ GE307.out) | exact HB.out)) hb)
   clear HO278
   clear HO285
   clear HO288
   clear HO297
   clear HO304
   clear BK274
   clear BK275
   clear BK294
   clear BK306
   clear BK307
   clear HB
   have HO278 := n0_
   have HO285 := n1_
   have HO288 := n2_
   have HO297 := n3_
   have HO304 := n4_
   have BK274 := n5_
   have BK275 := n6_
   have BK294 := n7_
   have BK306 := n8_
   have BK307 := n9_
   have HB := n10_
   clear n0_ n1_ n2_ n3_ n4_ n5_ n6_ n7_ n8_ n9_ n10_
   (try clear hb)
   (try clear hb2)
   (try clear hk)
   (try clear hi)
   refine hK.out _ _ (bC5 BK274.out) (fun hHeld => ?_)
   clear hK K
   refine norm_ (a' := ?_) ?_ ?_
   rotate_left
   ·show Act.put _ (some 37) _ = _
    simp only [Act.put, List.setIfInBounds_toArray, List.set_cons_zero, List.set_cons_succ, i64_w, i32_w]
    rfl
   refine pure_ (i := 4) (N := some 38) (v := ?_) (a' := ?_) #[true, true, true, true, true, false, false, false, false] rfl rfl (any_of HT_.out (by kernel_rfl)) (fun _ _ _ h => h) (Or.inl ⟨by rfl, ?_⟩) ?_ ?_
   rotate_left
   ·intro w'
    go_simp
    with_reducible rfl
   rotate_left
   ·exact mP
   refine pure_ (i := 5) (N := some 39) (v := ?_) (a' := ?_) #[true, true, true, true, true, true, false, false, false] rfl rfl (any_of HT_.out (by kernel_rfl)) (fun _ _ _ h => h) (Or.inl ⟨by rfl, ?_⟩) ?_ ?_
   rotate_left
   ·intro w'
    go_simp
    with_reducible rfl
   rotate_left
   ·exact mP
   refine pure_ (i := 6) (N := some 40) (v := undef) (a' := ?_) #[true, true, true, true, true, true, true, false, false] rfl rfl (any_of HT_.out (by kernel_rfl)) (fun _ _ _ h => h) (Or.inr ⟨by rfl, rfl⟩) ?_ ?_
   rotate_left
   ·exact mP
   refine pure_ (i := 7) (N := some 41) (v := undef) (a' := ?_) #[true, true, true, true, true, true, true, true, false] rfl rfl (any_of HT_.out (by kernel_rfl)) (fun _ _ _ h => h) (Or.inr ⟨by rfl, rfl⟩) ?_ ?_
   rotate_left
   ·exact mP
   refine pure_ (i := 8) (N := some 42) (v := ?_) (a' := ?_) #[true, true, true, true, true, true, true, true, true] rfl rfl (any_of HT_.out (by kernel_rfl)) (fun _ _ _ h => h) (Or.inl ⟨by rfl, ?_⟩) ?_ ?_
   rotate_left
   ·intro w'
    go_simp
    with_reducible rfl
   rotate_left
   ·exact mP
   refine done_ (done_of HT_.out (by kernel_rfl)) ?_
   try go_wp2
   go_meet
   case rel => exact ⟨_, (true), (by first | rfl | (simp; done) | (simp [*]; done)), H', ⟨by first | omega | exact Nat.le_refl _⟩, ⟨by (with_reducible repeat (first | apply Kd.R_alloc | apply Kd.R_drewN | apply Kd.R_drew)); exact HO304.out⟩, ⟨by (with_reducible repeat (first | apply Kd.R_alloc | apply Kd.R_drewN | apply Kd.R_drew)); exact Kd.R_mono HO278.out (fun _ hk => ⟨hk.2, hk.1⟩)⟩, ⟨by (with_reducible repeat (first | apply Kd.R_alloc | apply Kd.R_drewN | apply Kd.R_drew)); exact Kd.R_mono HO285.out (fun _ hk => ⟨hk.2, hk.1⟩)⟩, ⟨by (with_reducible repeat (first | apply Kd.V_alloc | apply Kd.V_drewN | apply Kd.V_drew)); exact Kd.V_mono HO288.out (fun _ hk => ⟨hk.2.2.1, ⟨hk.1, ⟨hk.2.1, ⟨hk.2.2.2.1, ⟨hk.2.2.2.2.1, ⟨hk.2.2.2.2.2.1, ⟨hk.2.2.2.2.2.2.1, hk.2.2.2.2.2.2.2⟩⟩⟩⟩⟩⟩⟩)⟩, ⟨by (with_reducible repeat (first | apply Kd.V_alloc | apply Kd.V_drewN | apply Kd.V_drew)); exact Kd.V_mono HO297.out (fun _ hk => ⟨hk.2.1, ⟨hk.1, ⟨hk.2.2.1, ⟨hk.2.2.2.1, ⟨hk.2.2.2.2.1, ⟨hk.2.2.2.2.2.1, hk.2.2.2.2.2.2⟩⟩⟩⟩⟩⟩)⟩, ⟨by (with_reducible repeat (first | refine blk_drewN ?_ _ | refine blk_drew ?_ | refine blk_alloc ?_ _)); exact BK274.out⟩, ⟨by (with_reducible repeat (first | refine blk_drewN ?_ _ | refine blk_drew ?_ | refine blk_alloc ?_ _)); exact BK275.out⟩, ⟨by (with_reducible repeat (first | refine blk_drewN ?_ _ | refine blk_drew ?_ | refine blk_alloc ?_ _)); exact BK294.out⟩, ⟨by (with_reducible repeat (first | refine blk_drewN ?_ _ | refine blk_drew ?_ | refine blk_alloc ?_ _)); exact BK306.out⟩, ⟨by (with_reducible repeat (first | refine blk_drewN ?_ _ | refine blk_drew ?_ | refine blk_alloc ?_ _)); exact BK307.out⟩, ⟨by repeat (first | (with_reducible first | exact HB.out | apply below_alloc | apply pw_below_drewN | apply below_drew1 | refine below_set ?_ GE274.out | refine below_set ?_ GE275.out | refine below_set ?_ GE294.out | refine below_set ?_ GE306.out | refine below_set ?_ GE307.out) | exact HB.out)⟩⟩
  ·rw [if_neg c46] at H
   have c46b0 : (t308 != t309) = false := by simpa using c46
   (try (have c46b1 : decide (t308 = t309) = true := by simpa using c46))
   (try (have c46b2 : (t308 == t309) = true := by simpa using c46))
   clear c46
   (first | rw [c46b0] | (simp only [i64_w, i32_w]; rw [c46b0]) | skip)
   replace H := Option.bind_eq_some_iff.mp H
   obtain ⟨t310, A510, H⟩ := H
   have A51 := aA A510
   clear A510
   have H' := aA H
   clear H
   try go_wp2
   have n0_ : Aside0 (Kd.R Kd.string 9 (((((w38.setCell ⟨gb307, 0, none⟩ (.slice none 0 0)).setCell ⟨gb307, 1, none⟩ (.int .i64 0)).setCell ⟨gb307, 2, none⟩ (.int .i64 0)).setCell ⟨gb307, 3, none⟩ (.int .i64 0)).setCell ⟨gb307, 4, none⟩ (.bool false)) w.heap.size (fun k_ => some k_ ≠ (.slice Ao14 t283.length co14 : Value).ownBlock ∧ some k_ ≠ (v303 : Value).ownBlock) (.slice Ao15 t276.length co15) t276) := ⟨by (with_reducible repeat (first | apply Kd.R_alloc | apply Kd.R_drewN | apply Kd.R_drew)); exact Kd.R_mono (rF 4 (rF 3 (rF 2 (rF 1 (rF 0 (Kd.R_types HO278.out BK307.out (by decide))))))) (fun _ hk => ⟨hk.1.1, hk.1.2⟩)⟩
   have n1_ : Aside0 (Kd.R Kd.string 9 (((((w38.setCell ⟨gb307, 0, none⟩ (.slice none 0 0)).setCell ⟨gb307, 1, none⟩ (.int .i64 0)).setCell ⟨gb307, 2, none⟩ (.int .i64 0)).setCell ⟨gb307, 3, none⟩ (.int .i64 0)).setCell ⟨gb307, 4, none⟩ (.bool false)) w.heap.size (fun k_ => some k_ ≠ (.slice Ao15 t276.length co15 : Value).ownBlock ∧ some k_ ≠ (v303 : Value).ownBlock) (.slice Ao14 t283.length co14) t283) := ⟨by (with_reducible repeat (first | apply Kd.R_alloc | apply Kd.R_drewN | apply Kd.R_drew)); exact Kd.R_mono (rF 4 (rF 3 (rF 2 (rF 1 (rF 0 (Kd.R_types HO285.out BK307.out (by decide))))))) (fun _ hk => ⟨hk.1.1, hk.1.2⟩)⟩
   have n2_ : Aside0 (Kd.V Kd.string 9 (((((w38.setCell ⟨gb307, 0, none⟩ (.slice none 0 0)).setCell ⟨gb307, 1, none⟩ (.int .i64 0)).setCell ⟨gb307, 2, none⟩ (.int .i64 0)).setCell ⟨gb307, 3, none⟩ (.int .i64 0)).setCell ⟨gb307, 4, none⟩ (.bool false)) w.heap.size (fun k_ => some k_ ≠ (.slice Ao15 t276.length co15 : Value).ownBlock ∧ some k_ ≠ (.slice Ao14 t283.length co14 : Value).ownBlock ∧ some k_ ≠ (v303 : Value).ownBlock ∧ k_ ≠ gb274 ∧ k_ ≠ gb275 ∧ k_ ≠ gb294 ∧ k_ ≠ gb306 ∧ k_ ≠ gb307) (.slice Ao24 t286.length co24) t286) := ⟨by (with_reducible repeat (first | apply Kd.V_alloc | apply Kd.V_drewN | apply Kd.V_drew)); exact Kd.V_mono (Kd.V_far (p := ⟨gb307, 4, none⟩) (Kd.V_far (p := ⟨gb307, 3, none⟩) (Kd.V_far (p := ⟨gb307, 2, none⟩) (Kd.V_far (p := ⟨gb307, 1, none⟩) (Kd.V_far (p := ⟨gb307, 0, none⟩) (Kd.V_mono HO288.out (fun k_ hk => (⟨hk, hk.2⟩ : _ ∧ k_ ≠ gb307))) (fun _ hk => hk.2) (.slice none 0 0)) (fun _ hk => hk.2) (.int .i64 0)) (fun _ hk => hk.2) (.int .i64 0)) (fun _ hk => hk.2) (.int .i64 0)) (fun _ hk => hk.2) (.bool false)) (fun _ hk => ⟨hk.1.1.1.1.1, ⟨hk.1.1.1.1.2.1, ⟨hk.1.1.1.2, ⟨hk.1.1.1.1.2.2.1, ⟨hk.1.1.1.1.2.2.2.1, ⟨hk.1.1.1.1.2.2.2.2, ⟨hk.1.1.2, hk.1.2⟩⟩⟩⟩⟩⟩⟩)⟩
   have n3_ : Aside0 (Kd.V Kd.string 9 (((((w38.setCell ⟨gb307, 0, none⟩ (.slice none 0 0)).setCell ⟨gb307, 1, none⟩ (.int .i64 0)).setCell ⟨gb307, 2, none⟩ (.int .i64 0)).setCell ⟨gb307, 3, none⟩ (.int .i64 0)).setCell ⟨gb307, 4, none⟩ (.bool false)) w.heap.size (fun k_ => some k_ ≠ (.slice Ao15 t276.length co15 : Value).ownBlock ∧ some k_ ≠ (v303 : Value).ownBlock ∧ k_ ≠ gb274 ∧ k_ ≠ gb275 ∧ k_ ≠ gb294 ∧ k_ ≠ gb306 ∧ k_ ≠ gb307) (.slice Ao33 t295.length co33) t295) := ⟨by (with_reducible repeat (first | apply Kd.V_alloc | apply Kd.V_drewN | apply Kd.V_drew)); exact Kd.V_mono (Kd.V_far (p := ⟨gb307, 4, none⟩) (Kd.V_far (p := ⟨gb307, 3, none⟩) (Kd.V_far (p := ⟨gb307, 2, none⟩) (Kd.V_far (p := ⟨gb307, 1, none⟩) (Kd.V_far (p := ⟨gb307, 0, none⟩) (Kd.V_mono HO297.out (fun k_ hk => (⟨hk, hk.2⟩ : _ ∧ k_ ≠ gb307))) (fun _ hk => hk.2) (.slice none 0 0)) (fun _ hk => hk.2) (.int .i64 0)) (fun _ hk => hk.2) (.int .i64 0)) (fun _ hk => hk.2) (.int .i64 0)) (fun _ hk => hk.2) (.bool false)) (fun _ hk => ⟨hk.1.1.1.2.1, ⟨hk.1.1.1.1, ⟨hk.1.1.1.2.2.1, ⟨hk.1.1.1.2.2.2.1, ⟨hk.1.1.1.2.2.2.2, ⟨hk.1.1.2, hk.1.2⟩⟩⟩⟩⟩⟩)⟩
   have n4_ : Aside0 (Kd.R Kd.string 9 (((((w38.setCell ⟨gb307, 0, none⟩ (.slice none 0 0)).setCell ⟨gb307, 1, none⟩ (.int .i64 0)).setCell ⟨gb307, 2, none⟩ (.int .i64 0)).setCell ⟨gb307, 3, none⟩ (.int .i64 0)).setCell ⟨gb307, 4, none⟩ (.bool false)) w.heap.size (fun k_ => some k_ ≠ (.slice Ao15 t276.length co15 : Value).ownBlock ∧ some k_ ≠ (.slice Ao14 t283.length co14 : Value).ownBlock) v303 t302) := ⟨by (with_reducible repeat (first | apply Kd.R_alloc | apply Kd.R_drewN | apply Kd.R_drew)); exact Kd.R_mono (rF 4 (rF 3 (rF 2 (rF 1 (rF 0 (Kd.R_types HO304.out BK307.out (by decide))))))) (fun _ hk => ⟨hk.1.1.2, hk.1.2⟩)⟩
   have n5_ : Aside0 ((((((w38.setCell ⟨gb307, 0, none⟩ (.slice none 0 0)).setCell ⟨gb307, 1, none⟩ (.int .i64 0)).setCell ⟨gb307, 2, none⟩ (.int .i64 0)).setCell ⟨gb307, 3, none⟩ (.int .i64 0)).setCell ⟨gb307, 4, none⟩ (.bool false)).heap[gb274]? = some (.cells #[.slice Ao15 t276.length co15, .int .i64 t279, .int .i64 t280, .int .i64 t281, .bool t282] 26 (0, 0))) := ⟨by (with_reducible repeat (first | refine blk_drewN ?_ _ | refine blk_drew ?_ | refine blk_alloc ?_ _)); refine blk_far ?_ NB274_307.out _; (with_reducible repeat (first | refine blk_drewN ?_ _ | refine blk_drew ?_ | refine blk_alloc ?_ _)); refine blk_far ?_ NB274_307.out _; (with_reducible repeat (first | refine blk_drewN ?_ _ | refine blk_drew ?_ | refine blk_alloc ?_ _)); refine blk_far ?_ NB274_307.out _; (with_reducible repeat (first | refine blk_drewN ?_ _ | refine blk_drew ?_ | refine blk_alloc ?_ _)); refine blk_far ?_ NB274_307.out _; (with_reducible repeat (first | refine blk_drewN ?_ _ | refine blk_drew ?_ | refine blk_alloc ?_ _)); refine blk_far ?_ NB274_307.out _; (with_reducible repeat (first | refine blk_drewN ?_ _ | refine blk_drew ?_ | refine blk_alloc ?_ _)); exact BK274.out⟩
   have n6_ : Aside0 ((((((w38.setCell ⟨gb307, 0, none⟩ (.slice none 0 0)).setCell ⟨gb307, 1, none⟩ (.int .i64 0)).setCell ⟨gb307, 2, none⟩ (.int .i64 0)).setCell ⟨gb307, 3, none⟩ (.int .i64 0)).setCell ⟨gb307, 4, none⟩ (.bool false)).heap[gb275]? = some (.cells #[.slice Ao14 t283.length co14] 24 (0, 0))) := ⟨by (with_reducible repeat (first | refine blk_drewN ?_ _ | refine blk_drew ?_ | refine blk_alloc ?_ _)); refine blk_far ?_ NB275_307.out _; (with_reducible repeat (first | refine blk_drewN ?_ _ | refine blk_drew ?_ | refine blk_alloc ?_ _)); refine blk_far ?_ NB275_307.out _; (with_reducible repeat (first | refine blk_drewN ?_ _ | refine blk_drew ?_ | refine blk_alloc ?_ _)); refine blk_far ?_ NB275_307.out _; (with_reducible repeat (first | refine blk_drewN ?_ _ | refine blk_drew ?_ | refine blk_alloc ?_ _)); refine blk_far ?_ NB275_307.out _; (with_reducible repeat (first | refine blk_drewN ?_ _ | refine blk_drew ?_ | refine blk_alloc ?_ _)); refine blk_far ?_ NB275_307.out _; (with_reducible repeat (first | refine blk_drewN ?_ _ | refine blk_drew ?_ | refine blk_alloc ?_ _)); exact BK275.out⟩
   have n7_ : Aside0 ((((((w38.setCell ⟨gb307, 0, none⟩ (.slice none 0 0)).setCell ⟨gb307, 1, none⟩ (.int .i64 0)).setCell ⟨gb307, 2, none⟩ (.int .i64 0)).setCell ⟨gb307, 3, none⟩ (.int .i64 0)).setCell ⟨gb307, 4, none⟩ (.bool false)).heap[gb294]? = some (.cells #[.slice Ao24 t286.length co24, .int .i64 t289, .int .i64 t290, .int .i64 t291, .bool t292] 26 (0, 0))) := ⟨by (with_reducible repeat (first | refine blk_drewN ?_ _ | refine blk_drew ?_ | refine blk_alloc ?_ _)); refine blk_far ?_ NB294_307.out _; (with_reducible repeat (first | refine blk_drewN ?_ _ | refine blk_drew ?_ | refine blk_alloc ?_ _)); refine blk_far ?_ NB294_307.out _; (with_reducible repeat (first | refine blk_drewN ?_ _ | refine blk_drew ?_ | refine blk_alloc ?_ _)); refine blk_far ?_ NB294_307.out _; (with_reducible repeat (first | refine blk_drewN ?_ _ | refine blk_drew ?_ | refine blk_alloc ?_ _)); refine blk_far ?_ NB294_307.out _; (with_reducible repeat (first | refine blk_drewN ?_ _ | refine blk_drew ?_ | refine blk_alloc ?_ _)); refine blk_far ?_ NB294_307.out _; (with_reducible repeat (first | refine blk_drewN ?_ _ | refine blk_drew ?_ | refine blk_alloc ?_ _)); exact BK294.out⟩
   have n8_ : Aside0 ((((((w38.setCell ⟨gb307, 0, none⟩ (.slice none 0 0)).setCell ⟨gb307, 1, none⟩ (.int .i64 0)).setCell ⟨gb307, 2, none⟩ (.int .i64 0)).setCell ⟨gb307, 3, none⟩ (.int .i64 0)).setCell ⟨gb307, 4, none⟩ (.bool false)).heap[gb306]? = some (.cells #[.slice Ao33 t295.length co33, .int .i64 t298, .int .i64 t299, .int .i64 t300, .bool t301] 26 (0, 0))) := ⟨by (with_reducible repeat (first | refine blk_drewN ?_ _ | refine blk_drew ?_ | refine blk_alloc ?_ _)); refine blk_far ?_ NB306_307.out _; (with_reducible repeat (first | refine blk_drewN ?_ _ | refine blk_drew ?_ | refine blk_alloc ?_ _)); refine blk_far ?_ NB306_307.out _; (with_reducible repeat (first | refine blk_drewN ?_ _ | refine blk_drew ?_ | refine blk_alloc ?_ _)); refine blk_far ?_ NB306_307.out _; (with_reducible repeat (first | refine blk_drewN ?_ _ | refine blk_drew ?_ | refine blk_alloc ?_ _)); refine blk_far ?_ NB306_307.out _; (with_reducible repeat (first | refine blk_drewN ?_ _ | refine blk_drew ?_ | refine blk_alloc ?_ _)); refine blk_far ?_ NB306_307.out _; (with_reducible repeat (first | refine blk_drewN ?_ _ | refine blk_drew ?_ | refine blk_alloc ?_ _)); exact BK306.out⟩
   have n9_ : Aside0 ((((((w38.setCell ⟨gb307, 0, none⟩ (.slice none 0 0)).setCell ⟨gb307, 1, none⟩ (.int .i64 0)).setCell ⟨gb307, 2, none⟩ (.int .i64 0)).setCell ⟨gb307, 3, none⟩ (.int .i64 0)).setCell ⟨gb307, 4, none⟩ (.bool false)).heap[gb307]? = some (.cells #[.slice none 0 0, .int .i64 0, .int .i64 0, .int .i64 0, .bool false] 26 (0, 0))) := ⟨by (with_reducible repeat (first | refine blk_drewN ?_ _ | refine blk_drew ?_ | refine blk_alloc ?_ _)); refine blk_put (cs := #[.slice none 0 0, .int .i64 0, .int .i64 0, .int .i64 0, .bool false]) ?_ 4 _ rfl; (with_reducible repeat (first | refine blk_drewN ?_ _ | refine blk_drew ?_ | refine blk_alloc ?_ _)); refine blk_put (cs := #[.slice none 0 0, .int .i64 0, .int .i64 0, .int .i64 0, .bool false]) ?_ 3 _ rfl; (with_reducible repeat (first | refine blk_drewN ?_ _ | refine blk_drew ?_ | refine blk_alloc ?_ _)); refine blk_put (cs := #[.slice none 0 0, .int .i64 0, .int .i64 0, .int .i64 0, .bool false]) ?_ 2 _ rfl; (with_reducible repeat (first | refine blk_drewN ?_ _ | refine blk_drew ?_ | refine blk_alloc ?_ _)); refine blk_put (cs := #[.slice none 0 0, .int .i64 0, .int .i64 0, .int .i64 0, .bool false]) ?_ 1 _ rfl; (with_reducible repeat (first | refine blk_drewN ?_ _ | refine blk_drew ?_ | refine blk_alloc ?_ _)); refine blk_put (cs := #[.slice none 0 0, .int .i64 0, .int .i64 0, .int .i64 0, .bool false]) ?_ 0 _ rfl; (with_reducible repeat (first | refine blk_drewN ?_ _ | refine blk_drew ?_ | refine blk_alloc ?_ _)); exact BK307.out⟩
   have n10_ : Aside0 (Below w.heap.size w (((((w38.setCell ⟨gb307, 0, none⟩ (.slice none 0 0)).setCell ⟨gb307, 1, none⟩ (.int .i64 0)).setCell ⟨gb307, 2, none⟩ (.int .i64 0)).setCell ⟨gb307, 3, none⟩ (.int .i64 0)).setCell ⟨gb307, 4, none⟩ (.bool false))) := ⟨by repeat (first | (with_reducible first | exact HB.out | apply below_alloc | apply pw_below_drewN | apply below_drew1 | refine below_set ?_ GE274.out | refine below_set ?_ GE275.out | refine below_set ?_ GE294.out | refine below_set ?_ GE306.out | refine below_set ?_ GE307.out) | exact HB.out)⟩
   (try clear HO278)
   (try clear HO285)
   (try clear HO288)
   (try clear HO297)
   (try clear HO304)
   (try clear BK274)
   (try clear BK275)
   (try clear BK294)
   (try clear BK306)
   (try clear BK307)
   (try clear HB)
   generalize (((((w38.setCell ⟨gb307, 0, none⟩ (.slice none 0 0)).setCell ⟨gb307, 1, none⟩ (.int .i64 0)).setCell ⟨gb307, 2, none⟩ (.int .i64 0)).setCell ⟨gb307, 3, none⟩ (.int .i64 0)).setCell ⟨gb307, 4, none⟩ (.bool false)) = w52 at n0_ n1_ n2_ n3_ n4_ n5_ n6_ n7_ n8_ n9_ n10_ ⊢
   have HO278 := n0_
   have HO285 := n1_
   have HO288 := n2_
   have HO297 := n3_
   have HO304 := n4_
   have BK274 := n5_
   have BK275 := n6_
   have BK294 := n7_
   have BK306 := n8_
   have BK307 := n9_
   have HB := n10_
   clear n0_ n1_ n2_ n3_ n4_ n5_ n6_ n7_ n8_ n9_ n10_
   have n0_ := aA (Kd.R_drew HO278.out)
   have n1_ := aA (Kd.R_drew HO285.out)
   have n2_ := aA (Kd.V_drew HO288.out)
   have n3_ := aA (Kd.V_drew HO297.out)
   have n4_ := aA (Kd.R_drew HO304.out)
   have n5_ := aA (blk_drew BK274.out)
   have n6_ := aA (blk_drew BK275.out)
   have n7_ := aA (blk_drew BK294.out)
   have n8_ := aA (blk_drew BK306.out)
   have n9_ := aA (blk_drew BK307.out)
   have n10_ := aA (below_drew1 HB.out)
   clear HO278
   clear HO285
   clear HO288
   clear HO297
   clear HO304
   clear BK274
   clear BK275
   clear BK294
   clear BK306
   clear BK307
   clear HB
   have HO278 := n0_
   have HO285 := n1_
   have HO288 := n2_
   have HO297 := n3_
   have HO304 := n4_
   have BK274 := n5_
   have BK275 := n6_
   have BK294 := n7_
   have BK306 := n8_
   have BK307 := n9_
   have HB := n10_
   clear n0_ n1_ n2_ n3_ n4_ n5_ n6_ n7_ n8_ n9_ n10_
   refine start_ (n := 9) (S := fun w' => w'.cell? ⟨gb274, 0, none⟩ = some (.slice Ao15 t276.length co15) ∧ w'.cell? ⟨gb274, 1, none⟩ = some (.int .i64 t279) ∧ w'.cell? ⟨gb274, 2, none⟩ = some (.int .i64 t280) ∧ w'.cell? ⟨gb274, 3, none⟩ = some (.int .i64 t281) ∧ w'.cell? ⟨gb274, 4, none⟩ = some (.bool t282)) (ds := []) #[false, false, false, false, false, false, false, false, false] (by kernel_rfl) rfl rfl (bC5 BK274.out) (fun hHeld => ?_); refine with_tabW foghornlaw04_StoreBoots.tab5 foghornlaw04_StoreBoots.bits5 (fun HT_ HW_ => ?_)
   generalize w52.drew = w53 at HO278 HO285 HO288 HO297 HO304 BK274 BK275 BK294 BK306 BK307 HB hHeld ⊢
   refine take_ (i := 0) (N := some 34) (v := ?_) (a' := ?_) #[true, false, false, false, false, false, false, false, false] rfl rfl (take_ofW HT_.out HW_.out (by kernel_rfl)) (fun _ _ _ h => h) (Or.inl ⟨by rfl, ?_⟩) hHeld ?_ ?_
   rotate_left
   ·rintro w' ⟨s0, s1, s2, s3, s4⟩
    go_simp
    with_reducible rfl
   rotate_left
   ·exact mP
   refine take_ (i := 2) (N := some 36) (v := ?_) (a' := ?_) #[true, false, true, false, false, false, false, false, false] rfl rfl (take_ofW HT_.out HW_.out (by kernel_rfl)) (fun _ _ _ h => h) (Or.inl ⟨by rfl, ?_⟩) hHeld ?_ ?_
   rotate_left
   ·rintro w' ⟨s0, s1, s2, s3, s4⟩
    go_simp
    with_reducible rfl
   rotate_left
   ·exact mP
   refine one_ (i := 1) (N := some 35) #[true, true, true, false, false, false, false, false, false] rfl rfl (one_of HT_.out (by kernel_rfl)) (by decide) (fun K hK => ?_)
   refine goes_ Try.func13 (by kernel_rfl) rfl #[.agg #[.slice Ao15 t276.length co15, .int .i64 t279, .int .i64 t280, .int .i64 t281, .bool t282]] (by rfl) rfl rfl mS ?_
   with_reducible refine (store_Right.calls _ _ t276 t279 t280 t281 t282 t308 _ ?side1 ?side2 A44.out).mono ?_
   (case side1 => exact mC ((Kd.R_reads' HO278.out).2.2))
   (case side2 => exact (Kd.R_reads' HO278.out).2.1)
   rintro e w54 ⟨rfl, hb⟩
   refine ⟨_, rfl, ?_⟩
   have n0_ := aA (Kd.R_below (mR HO278.out) hb)
   have n1_ := aA (Kd.R_below (mR HO285.out) hb)
   have n2_ := aA (Kd.V_below (by (with_reducible repeat (first | apply Kd.V_alloc | apply Kd.V_drewN | apply Kd.V_drew)); exact HO288.out) hb)
   have n3_ := aA (Kd.V_below (by (with_reducible repeat (first | apply Kd.V_alloc | apply Kd.V_drewN | apply Kd.V_drew)); exact HO297.out) hb)
   have n4_ := aA (Kd.R_below (mR HO304.out) hb)
   have n5_ := aA (bB BK274.out hb)
   have n6_ := aA (bB BK275.out hb)
   have n7_ := aA (bB BK294.out hb)
   have n8_ := aA (bB BK306.out hb)
   have n9_ := aA (bB BK307.out hb)
   have n10_ := aA (below_step (by repeat (first | (with_reducible first | exact HB.out | apply below_alloc | apply pw_below_drewN | apply below_drew1 | refine below_set ?_ GE274.out | refine below_set ?_ GE275.out | refine below_set ?_ GE294.out | refine below_set ?_ GE306.out | refine below_set ?_ GE307.out) | exact HB.out)) hb)
   clear HO278
   clear HO285
   clear HO288
   clear HO297
   clear HO304
   clear BK274
   clear BK275
   clear BK294
   clear BK306
   clear BK307
   clear HB
   have HO278 := n0_
   have HO285 := n1_
   have HO288 := n2_
   have HO297 := n3_
   have HO304 := n4_
   have BK274 := n5_
   have BK275 := n6_
   have BK294 := n7_
   have BK306 := n8_
   have BK307 := n9_
   have HB := n10_
   clear n0_ n1_ n2_ n3_ n4_ n5_ n6_ n7_ n8_ n9_ n10_
   (try clear hb)
   (try clear hb2)
   (try clear hk)
   (try clear hi)
   refine hK.out _ _ (bC5 BK274.out) (fun hHeld => ?_)
   clear hK K
   refine norm_ (a' := ?_) ?_ ?_
   rotate_left
   ·show Act.put _ (some 35) _ = _
    simp only [Act.put, List.setIfInBounds_toArray, List.set_cons_zero, List.set_cons_succ, i64_w, i32_w]
    rfl
   refine one_ (i := 3) (N := some 37) #[true, true, true, true, false, false, false, false, false] rfl rfl (one_of HT_.out (by kernel_rfl)) (by decide) (fun K hK => ?_)
   refine goes_ Try.func14 (by kernel_rfl) rfl #[.agg #[.slice Ao15 t276.length co15, .int .i64 t279, .int .i64 t280, .int .i64 t281, .bool t282]] (by rfl) rfl rfl mS ?_
   with_reducible refine (foghornref04_Right.calls k _ _ t276 t279 t280 t281 t282 t309 _ ?side1 ?side2 A45.out).mono ?_
   (case side1 => exact mC ((Kd.R_reads' HO278.out).2.2))
   (case side2 => exact (Kd.R_reads' HO278.out).2.1)
   rintro e w55 ⟨rfl, hb⟩
   refine ⟨_, rfl, ?_⟩
   have n0_ := aA (Kd.R_below (mR HO278.out) hb)
   have n1_ := aA (Kd.R_below (mR HO285.out) hb)
   have n2_ := aA (Kd.V_below (by (with_reducible repeat (first | apply Kd.V_alloc | apply Kd.V_drewN | apply Kd.V_drew)); exact HO288.out) hb)
   have n3_ := aA (Kd.V_below (by (with_reducible repeat (first | apply Kd.V_alloc | apply Kd.V_drewN | apply Kd.V_drew)); exact HO297.out) hb)
   have n4_ := aA (Kd.R_below (mR HO304.out) hb)
   have n5_ := aA (bB BK274.out hb)
   have n6_ := aA (bB BK275.out hb)
   have n7_ := aA (bB BK294.out hb)
   have n8_ := aA (bB BK306.out hb)
   have n9_ := aA (bB BK307.out hb)
   have n10_ := aA (below_step (by repeat (first | (with_reducible first | exact HB.out | apply below_alloc | apply pw_below_drewN | apply below_drew1 | refine below_set ?_ GE274.out | refine below_set ?_ GE275.out | refine below_set ?_ GE294.out | refine below_set ?_ GE306.out | refine below_set ?_ GE307.out) | exact HB.out)) hb)
   clear HO278
   clear HO285
   clear HO288
   clear HO297
   clear HO304
   clear BK274
   clear BK275
   clear BK294
   clear BK306
   clear BK307
   clear HB
   have HO278 := n0_
   have HO285 := n1_
   have HO288 := n2_
   have HO297 := n3_
   have HO304 := n4_
   have BK274 := n5_
   have BK275 := n6_
   have BK294 := n7_
   have BK306 := n8_
   have BK307 := n9_
   have HB := n10_
   clear n0_ n1_ n2_ n3_ n4_ n5_ n6_ n7_ n8_ n9_ n10_
   (try clear hb)
   (try clear hb2)
   (try clear hk)
   (try clear hi)
   refine hK.out _ _ (bC5 BK274.out) (fun hHeld => ?_)
   clear hK K
   refine norm_ (a' := ?_) ?_ ?_
   rotate_left
   ·show Act.put _ (some 37) _ = _
    simp only [Act.put, List.setIfInBounds_toArray, List.set_cons_zero, List.set_cons_succ, i64_w, i32_w]
    rfl
   refine pure_ (i := 4) (N := some 38) (v := ?_) (a' := ?_) #[true, true, true, true, true, false, false, false, false] rfl rfl (any_of HT_.out (by kernel_rfl)) (fun _ _ _ h => h) (Or.inl ⟨by rfl, ?_⟩) ?_ ?_
   rotate_left
   ·intro w'
    go_simp
    with_reducible rfl
   rotate_left
   ·exact mP
   refine pure_ (i := 5) (N := some 39) (v := ?_) (a' := ?_) #[true, true, true, true, true, true, false, false, false] rfl rfl (any_of HT_.out (by kernel_rfl)) (fun _ _ _ h => h) (Or.inl ⟨by rfl, ?_⟩) ?_ ?_
   rotate_left
   ·intro w'
    go_simp
    with_reducible rfl
   rotate_left
   ·exact mP
   refine one_ (i := 6) (N := some 40) #[true, true, true, true, true, true, true, false, false] rfl rfl (one_of HT_.out (by kernel_rfl)) (by decide) (fun K hK => ?_)
   refine goes_ Try.func15 (by kernel_rfl) rfl #[] (by rfl) rfl rfl mS ?_
   with_reducible refine (foghornlaw04_alive.calls k  t310 _ A51.out).mono ?_
   rintro e w56 ⟨rfl, hb⟩
   refine ⟨_, rfl, ?_⟩
   have n0_ := aA (Kd.R_below (mR HO278.out) hb)
   have n1_ := aA (Kd.R_below (mR HO285.out) hb)
   have n2_ := aA (Kd.V_below (by (with_reducible repeat (first | apply Kd.V_alloc | apply Kd.V_drewN | apply Kd.V_drew)); exact HO288.out) hb)
   have n3_ := aA (Kd.V_below (by (with_reducible repeat (first | apply Kd.V_alloc | apply Kd.V_drewN | apply Kd.V_drew)); exact HO297.out) hb)
   have n4_ := aA (Kd.R_below (mR HO304.out) hb)
   have n5_ := aA (bB BK274.out hb)
   have n6_ := aA (bB BK275.out hb)
   have n7_ := aA (bB BK294.out hb)
   have n8_ := aA (bB BK306.out hb)
   have n9_ := aA (bB BK307.out hb)
   have n10_ := aA (below_step (by repeat (first | (with_reducible first | exact HB.out | apply below_alloc | apply pw_below_drewN | apply below_drew1 | refine below_set ?_ GE274.out | refine below_set ?_ GE275.out | refine below_set ?_ GE294.out | refine below_set ?_ GE306.out | refine below_set ?_ GE307.out) | exact HB.out)) hb)
   clear HO278
   clear HO285
   clear HO288
   clear HO297
   clear HO304
   clear BK274
   clear BK275
   clear BK294
   clear BK306
   clear BK307
   clear HB
   have HO278 := n0_
   have HO285 := n1_
   have HO288 := n2_
   have HO297 := n3_
   have HO304 := n4_
   have BK274 := n5_
   have BK275 := n6_
   have BK294 := n7_
   have BK306 := n8_
   have BK307 := n9_
   have HB := n10_
   clear n0_ n1_ n2_ n3_ n4_ n5_ n6_ n7_ n8_ n9_ n10_
   (try clear hb)
   (try clear hb2)
   (try clear hk)
   (try clear hi)
   refine hK.out _ _ (bC5 BK274.out) (fun hHeld => ?_)
   clear hK K
   refine norm_ (a' := ?_) ?_ ?_
   rotate_left
   ·show Act.put _ (some 40) _ = _
    simp only [Act.put, List.setIfInBounds_toArray, List.set_cons_zero, List.set_cons_succ, i64_w, i32_w]
    rfl
   refine pure_ (i := 7) (N := some 41) (v := ?_) (a' := ?_) #[true, true, true, true, true, true, true, true, false] rfl rfl (any_of HT_.out (by kernel_rfl)) (fun _ _ _ h => h) (Or.inl ⟨by rfl, ?_⟩) ?_ ?_
   rotate_left
   ·intro w'
    go_simp
    with_reducible rfl
   rotate_left
   ·exact mP
   refine pure_ (i := 8) (N := some 42) (v := ?_) (a' := ?_) #[true, true, true, true, true, true, true, true, true] rfl rfl (any_of HT_.out (by kernel_rfl)) (fun _ _ _ h => h) (Or.inl ⟨by rfl, ?_⟩) ?_ ?_
   rotate_left
   ·intro w'
    go_simp
    with_reducible rfl
   rotate_left
   ·exact mP
   refine done_ (done_of HT_.out (by kernel_rfl)) ?_
   try go_wp2
   go_meet
   case rel => exact ⟨_, (!t310), (by first | rfl | (simp; done) | (simp [*]; done)), H', ⟨by first | omega | exact Nat.le_refl _⟩, ⟨by (with_reducible repeat (first | apply Kd.R_alloc | apply Kd.R_drewN | apply Kd.R_drew)); exact HO304.out⟩, ⟨by (with_reducible repeat (first | apply Kd.R_alloc | apply Kd.R_drewN | apply Kd.R_drew)); exact Kd.R_mono HO278.out (fun _ hk => ⟨hk.2, hk.1⟩)⟩, ⟨by (with_reducible repeat (first | apply Kd.R_alloc | apply Kd.R_drewN | apply Kd.R_drew)); exact Kd.R_mono HO285.out (fun _ hk => ⟨hk.2, hk.1⟩)⟩, ⟨by (with_reducible repeat (first | apply Kd.V_alloc | apply Kd.V_drewN | apply Kd.V_drew)); exact Kd.V_mono HO288.out (fun _ hk => ⟨hk.2.2.1, ⟨hk.1, ⟨hk.2.1, ⟨hk.2.2.2.1, ⟨hk.2.2.2.2.1, ⟨hk.2.2.2.2.2.1, ⟨hk.2.2.2.2.2.2.1, hk.2.2.2.2.2.2.2⟩⟩⟩⟩⟩⟩⟩)⟩, ⟨by (with_reducible repeat (first | apply Kd.V_alloc | apply Kd.V_drewN | apply Kd.V_drew)); exact Kd.V_mono HO297.out (fun _ hk => ⟨hk.2.1, ⟨hk.1, ⟨hk.2.2.1, ⟨hk.2.2.2.1, ⟨hk.2.2.2.2.1, ⟨hk.2.2.2.2.2.1, hk.2.2.2.2.2.2⟩⟩⟩⟩⟩⟩)⟩, ⟨by (with_reducible repeat (first | refine blk_drewN ?_ _ | refine blk_drew ?_ | refine blk_alloc ?_ _)); exact BK274.out⟩, ⟨by (with_reducible repeat (first | refine blk_drewN ?_ _ | refine blk_drew ?_ | refine blk_alloc ?_ _)); exact BK275.out⟩, ⟨by (with_reducible repeat (first | refine blk_drewN ?_ _ | refine blk_drew ?_ | refine blk_alloc ?_ _)); exact BK294.out⟩, ⟨by (with_reducible repeat (first | refine blk_drewN ?_ _ | refine blk_drew ?_ | refine blk_alloc ?_ _)); exact BK306.out⟩, ⟨by (with_reducible repeat (first | refine blk_drewN ?_ _ | refine blk_drew ?_ | refine blk_alloc ?_ _)); exact BK307.out⟩, ⟨by repeat (first | (with_reducible first | exact HB.out | apply below_alloc | apply pw_below_drewN | apply below_drew1 | refine below_set ?_ GE274.out | refine below_set ?_ GE275.out | refine below_set ?_ GE294.out | refine below_set ?_ GE306.out | refine below_set ?_ GE307.out) | exact HB.out)⟩⟩
 case rest =>
  clear HC8
  try clear c1
  try clear c2
  try clear p2
  try clear c3
  try clear c4
  try clear c11
  try clear c12
  try clear c13
  try clear c14
  try clear c15
  try clear c25
  try clear c26
  try clear c29
  try clear c34
  try clear c35
  try clear c36
  try clear c39
  try clear c40
  try clear c41
  try clear c42
  try clear c46
  try clear c46b0
  try clear c46b1
  try clear c46b2
  try clear hcz27_0 hcz27_1 hcz27_2 hcz27_3 hcz27_4
  try clear hcz30_0
  try clear hcz37_0 hcz37_1 hcz37_2 hcz37_3 hcz37_4
  try clear hcz43_0 hcz43_1 hcz43_2 hcz43_3 hcz43_4
  try clear hfz27_0 hfz27_1 hfz27_2 hfz27_3 hfz27_4
  try clear hfz30_0
  try clear hfz37_0 hfz37_1 hfz37_2 hfz37_3 hfz37_4
  try clear hfz43_0 hfz43_1 hfz43_2 hfz43_3 hfz43_4
  obtain ⟨kq, x42_7, rfl, HA, HJ7, HO_10, HO_275000, HO_276000, HO_295000, HO_307000, BK274, BK275, BK294, BK306, BK307, HB⟩ := hcut
  cases kq with
  | zero => exact absurd HA.out (by simp [foghornlaw04_StoreBoots.j0])
  | succ kj7 =>
   have H := HA.out
   clear HA
   simp only [foghornlaw04_StoreBoots.j0] at H
   by_cases c57 : x42_7 = true
   ·subst c57
    have H1 : (some false) = some r := by rw [if_pos rfl] at H; exact H
    clear H
    have H := H1
    clear H1
    exact absurd (Option.some.inj H) (by rw [hrt_]; decide)
   ·replace c57 := Bool.eq_false_iff.mpr c57
    subst c57
    have H1 : (if a0 < 10 then (foghornlaw04_StoreBoots.j1 kj7 a0 t293 t302 t305 true t283 t286 t289 t290 t291 t292 t295 t298 t299 t300 t301 0 0 0 false) else (if a0 > 130 then (foghornlaw04_StoreBoots.j1 kj7 a0 t293 t302 t305 true t283 t286 t289 t290 t291 t292 t295 t298 t299 t300 t301 0 0 0 false) else (foghornlaw04_StoreBoots.j1 kj7 a0 t293 t302 t305 ((Int.tmod a0 2) != 0) t283 t286 t289 t290 t291 t292 t295 t298 t299 t300 t301 0 0 0 false))) = some r := by rw [if_neg (show ¬ (false = true) by decide)] at H; exact H
    clear H
    have H := H1
    clear H1
    have HC58 := aA H
    clear H
    go_upto_region 7 with (fail)
    go_cut [53] (fun v53 wc => ∃ (kq : Nat) (x53_57 : Bool), v53 = .bool x53_57 ∧ Aside0 (foghornlaw04_StoreBoots.j1 kq a0 t293 t302 t305 x53_57 t283 t286 t289 t290 t291 t292 t295 t298 t299 t300 t301 0 0 0 false = some r) ∧ Aside0 (kq ≤ kj7) ∧ Aside0 (Kd.R Kd.string 9 wc w.heap.size (fun k_ => some k_ ≠ ((.slice Ao15 t276.length co15) : Value).ownBlock ∧ some k_ ≠ ((.slice Ao14 t283.length co14) : Value).ownBlock) v303 t302) ∧ Aside0 (Kd.R Kd.string 9 wc w.heap.size (fun k_ => some k_ ≠ (v303 : Value).ownBlock ∧ some k_ ≠ ((.slice Ao14 t283.length co14) : Value).ownBlock) (.slice Ao15 t276.length co15) t276) ∧ Aside0 (Kd.R Kd.string 9 wc w.heap.size (fun k_ => some k_ ≠ (v303 : Value).ownBlock ∧ some k_ ≠ ((.slice Ao15 t276.length co15) : Value).ownBlock) (.slice Ao14 t283.length co14) t283) ∧ Aside0 (Kd.V Kd.string 9 wc w.heap.size (fun k_ => some k_ ≠ (v303 : Value).ownBlock ∧ some k_ ≠ ((.slice Ao15 t276.length co15) : Value).ownBlock ∧ some k_ ≠ ((.slice Ao14 t283.length co14) : Value).ownBlock ∧ k_ ≠ gb274 ∧ k_ ≠ gb275 ∧ k_ ≠ gb294 ∧ k_ ≠ gb306 ∧ k_ ≠ gb307) (.slice Ao24 t286.length co24) t286) ∧ Aside0 (Kd.V Kd.string 9 wc w.heap.size (fun k_ => some k_ ≠ (v303 : Value).ownBlock ∧ some k_ ≠ ((.slice Ao15 t276.length co15) : Value).ownBlock ∧ k_ ≠ gb274 ∧ k_ ≠ gb275 ∧ k_ ≠ gb294 ∧ k_ ≠ gb306 ∧ k_ ≠ gb307) (.slice Ao33 t295.length co33) t295) ∧ Aside0 (wc.heap[gb274]? = some (.cells #[(.slice Ao15 t276.length co15), .int .i64 t279, .int .i64 t280, .int .i64 t281, .bool t282] 26 (0, 0))) ∧ Aside0 (wc.heap[gb275]? = some (.cells #[(.slice Ao14 t283.length co14)] 24 (0, 0))) ∧ Aside0 (wc.heap[gb294]? = some (.cells #[(.slice Ao24 t286.length co24), .int .i64 t289, .int .i64 t290, .int .i64 t291, .bool t292] 26 (0, 0))) ∧ Aside0 (wc.heap[gb306]? = some (.cells #[(.slice Ao33 t295.length co33), .int .i64 t298, .int .i64 t299, .int .i64 t300, .bool t301] 26 (0, 0))) ∧ Aside0 (wc.heap[gb307]? = some (.cells #[(.slice none 0 0), .int .i64 0, .int .i64 0, .int .i64 0, .bool false] 26 (0, 0))) ∧ Aside0 (Below w.heap.size w wc))
    case first =>
     have H := HC58.out
     clear HC58
     by_cases c59 : a0 < 10
     ·rw [if_pos c59] at H
      have c59b0 : decide (a0 < 10) = true := decide_eq_true c59
      clear c59
      (first | rw [c59b0] | (simp only [i64_w, i32_w]; rw [c59b0]) | skip)
      have H' := aA H
      clear H
      go_wp2
      go_meet
      case rel => exact ⟨_, (true), (by first | rfl | (simp; done) | (simp [*]; done)), H', ⟨by have := HJ7.out; first | omega | exact Nat.le_refl _⟩, ⟨by (with_reducible repeat (first | apply Kd.R_alloc | apply Kd.R_drewN | apply Kd.R_drew)); exact HO_10.out⟩, ⟨by (with_reducible repeat (first | apply Kd.R_alloc | apply Kd.R_drewN | apply Kd.R_drew)); exact HO_275000.out⟩, ⟨by (with_reducible repeat (first | apply Kd.R_alloc | apply Kd.R_drewN | apply Kd.R_drew)); exact HO_276000.out⟩, ⟨by (with_reducible repeat (first | apply Kd.V_alloc | apply Kd.V_drewN | apply Kd.V_drew)); exact HO_295000.out⟩, ⟨by (with_reducible repeat (first | apply Kd.V_alloc | apply Kd.V_drewN | apply Kd.V_drew)); exact HO_307000.out⟩, ⟨by (with_reducible repeat (first | refine blk_drewN ?_ _ | refine blk_drew ?_ | refine blk_alloc ?_ _)); exact BK274.out⟩, ⟨by (with_reducible repeat (first | refine blk_drewN ?_ _ | refine blk_drew ?_ | refine blk_alloc ?_ _)); exact BK275.out⟩, ⟨by (with_reducible repeat (first | refine blk_drewN ?_ _ | refine blk_drew ?_ | refine blk_alloc ?_ _)); exact BK294.out⟩, ⟨by (with_reducible repeat (first | refine blk_drewN ?_ _ | refine blk_drew ?_ | refine blk_alloc ?_ _)); exact BK306.out⟩, ⟨by (with_reducible repeat (first | refine blk_drewN ?_ _ | refine blk_drew ?_ | refine blk_alloc ?_ _)); exact BK307.out⟩, ⟨by repeat (first | (with_reducible first | exact HB.out | apply below_alloc | apply pw_below_drewN | apply below_drew1 | refine below_set ?_ GE274.out | refine below_set ?_ GE275.out | refine below_set ?_ GE294.out | refine below_set ?_ GE306.out | refine below_set ?_ GE307.out) | exact HB.out)⟩⟩
     ·rw [if_neg c59] at H
      have c59b0 : decide (a0 < 10) = false := decide_eq_false c59
      clear c59
      (first | rw [c59b0] | (simp only [i64_w, i32_w]; rw [c59b0]) | skip)
      by_cases c60 : a0 > 130
      ·rw [if_pos c60] at H
       have c60b0 : decide (130 < a0) = true := decide_eq_true c60
       clear c60
       have H' := aA H
       clear H
       go_wp2
       go_meet
       case rel => exact ⟨_, (true), (by first | rfl | (simp; done) | (simp [*]; done)), H', ⟨by have := HJ7.out; first | omega | exact Nat.le_refl _⟩, ⟨by (with_reducible repeat (first | apply Kd.R_alloc | apply Kd.R_drewN | apply Kd.R_drew)); exact HO_10.out⟩, ⟨by (with_reducible repeat (first | apply Kd.R_alloc | apply Kd.R_drewN | apply Kd.R_drew)); exact HO_275000.out⟩, ⟨by (with_reducible repeat (first | apply Kd.R_alloc | apply Kd.R_drewN | apply Kd.R_drew)); exact HO_276000.out⟩, ⟨by (with_reducible repeat (first | apply Kd.V_alloc | apply Kd.V_drewN | apply Kd.V_drew)); exact HO_295000.out⟩, ⟨by (with_reducible repeat (first | apply Kd.V_alloc | apply Kd.V_drewN | apply Kd.V_drew)); exact HO_307000.out⟩, ⟨by (with_reducible repeat (first | refine blk_drewN ?_ _ | refine blk_drew ?_ | refine blk_alloc ?_ _)); exact BK274.out⟩, ⟨by (with_reducible repeat (first | refine blk_drewN ?_ _ | refine blk_drew ?_ | refine blk_alloc ?_ _)); exact BK275.out⟩, ⟨by (with_reducible repeat (first | refine blk_drewN ?_ _ | refine blk_drew ?_ | refine blk_alloc ?_ _)); exact BK294.out⟩, ⟨by (with_reducible repeat (first | refine blk_drewN ?_ _ | refine blk_drew ?_ | refine blk_alloc ?_ _)); exact BK306.out⟩, ⟨by (with_reducible repeat (first | refine blk_drewN ?_ _ | refine blk_drew ?_ | refine blk_alloc ?_ _)); exact BK307.out⟩, ⟨by repeat (first | (with_reducible first | exact HB.out | apply below_alloc | apply pw_below_drewN | apply below_drew1 | refine below_set ?_ GE274.out | refine below_set ?_ GE275.out | refine below_set ?_ GE294.out | refine below_set ?_ GE306.out | refine below_set ?_ GE307.out) | exact HB.out)⟩⟩
      ·rw [if_neg c60] at H
       have c60b0 : decide (130 < a0) = false := decide_eq_false c60
       clear c60
       have H' := aA H
       clear H
       go_wp2
       go_meet
       case rel => exact ⟨_, (((Int.tmod a0 2) != 0)), (by first | rfl | (simp; done) | (simp [*]; done)), H', ⟨by have := HJ7.out; first | omega | exact Nat.le_refl _⟩, ⟨by (with_reducible repeat (first | apply Kd.R_alloc | apply Kd.R_drewN | apply Kd.R_drew)); exact HO_10.out⟩, ⟨by (with_reducible repeat (first | apply Kd.R_alloc | apply Kd.R_drewN | apply Kd.R_drew)); exact HO_275000.out⟩, ⟨by (with_reducible repeat (first | apply Kd.R_alloc | apply Kd.R_drewN | apply Kd.R_drew)); exact HO_276000.out⟩, ⟨by (with_reducible repeat (first | apply Kd.V_alloc | apply Kd.V_drewN | apply Kd.V_drew)); exact HO_295000.out⟩, ⟨by (with_reducible repeat (first | apply Kd.V_alloc | apply Kd.V_drewN | apply Kd.V_drew)); exact HO_307000.out⟩, ⟨by (with_reducible repeat (first | refine blk_drewN ?_ _ | refine blk_drew ?_ | refine blk_alloc ?_ _)); exact BK274.out⟩, ⟨by (with_reducible repeat (first | refine blk_drewN ?_ _ | refine blk_drew ?_ | refine blk_alloc ?_ _)); exact BK275.out⟩, ⟨by (with_reducible repeat (first | refine blk_drewN ?_ _ | refine blk_drew ?_ | refine blk_alloc ?_ _)); exact BK294.out⟩, ⟨by (with_reducible repeat (first | refine blk_drewN ?_ _ | refine blk_drew ?_ | refine blk_alloc ?_ _)); exact BK306.out⟩, ⟨by (with_reducible repeat (first | refine blk_drewN ?_ _ | refine blk_drew ?_ | refine blk_alloc ?_ _)); exact BK307.out⟩, ⟨by repeat (first | (with_reducible first | exact HB.out | apply below_alloc | apply pw_below_drewN | apply below_drew1 | refine below_set ?_ GE274.out | refine below_set ?_ GE275.out | refine below_set ?_ GE294.out | refine below_set ?_ GE306.out | refine below_set ?_ GE307.out) | exact HB.out)⟩⟩
    case rest =>
     clear HC58
     try clear c1
     try clear c2
     try clear p2
     try clear c3
     try clear c4
     try clear c5
     try clear c6
     try clear c11
     try clear c12
     try clear c13
     try clear c14
     try clear c15
     try clear c25
     try clear c26
     try clear c29
     try clear c34
     try clear c35
     try clear c36
     try clear c39
     try clear c40
     try clear c41
     try clear c42
     try clear c46
     try clear c46b0
     try clear c46b1
     try clear c46b2
     try clear c57
     try clear c59
     try clear c59b0
     try clear c60
     try clear c60b0
     try clear hcz27_0 hcz27_1 hcz27_2 hcz27_3 hcz27_4
     try clear hcz30_0
     try clear hcz37_0 hcz37_1 hcz37_2 hcz37_3 hcz37_4
     try clear hcz43_0 hcz43_1 hcz43_2 hcz43_3 hcz43_4
     try clear hfz27_0 hfz27_1 hfz27_2 hfz27_3 hfz27_4
     try clear hfz30_0
     try clear hfz37_0 hfz37_1 hfz37_2 hfz37_3 hfz37_4
     try clear hfz43_0 hfz43_1 hfz43_2 hfz43_3 hfz43_4
     try clear p2
     obtain ⟨kq, x53_57, rfl, HA, HJ57, HO_10, HO_275000, HO_276000, HO_295000, HO_307000, BK274, BK275, BK294, BK306, BK307, HB⟩ := hcut
     cases kq with
     | zero => exact absurd HA.out (by simp [foghornlaw04_StoreBoots.j1])
     | succ kj57 =>
      have H := HA.out
      clear HA
      simp only [foghornlaw04_StoreBoots.j1] at H
      have HC61 := aA H
      clear H
      go_upto_if 53 with (fail)
      go_cut [] (fun wc => ∃ (kq : Nat), Aside0 (foghornlaw04_StoreBoots.j2 kq t302 t305 t283 t295 t298 t299 t300 t301 0 0 0 false = some r) ∧ Aside0 (kq ≤ kj57) ∧ Aside0 (Kd.R Kd.string 9 wc w.heap.size (fun k_ => some k_ ≠ ((.slice Ao15 t276.length co15) : Value).ownBlock ∧ some k_ ≠ ((.slice Ao14 t283.length co14) : Value).ownBlock) v303 t302) ∧ Aside0 (Kd.R Kd.string 9 wc w.heap.size (fun k_ => some k_ ≠ (v303 : Value).ownBlock ∧ some k_ ≠ ((.slice Ao14 t283.length co14) : Value).ownBlock) (.slice Ao15 t276.length co15) t276) ∧ Aside0 (Kd.R Kd.string 9 wc w.heap.size (fun k_ => some k_ ≠ (v303 : Value).ownBlock ∧ some k_ ≠ ((.slice Ao15 t276.length co15) : Value).ownBlock) (.slice Ao14 t283.length co14) t283) ∧ Aside0 (Kd.V Kd.string 9 wc w.heap.size (fun k_ => some k_ ≠ (v303 : Value).ownBlock ∧ some k_ ≠ ((.slice Ao15 t276.length co15) : Value).ownBlock ∧ some k_ ≠ ((.slice Ao14 t283.length co14) : Value).ownBlock ∧ k_ ≠ gb274 ∧ k_ ≠ gb275 ∧ k_ ≠ gb294 ∧ k_ ≠ gb306 ∧ k_ ≠ gb307) (.slice Ao24 t286.length co24) t286) ∧ Aside0 (Kd.V Kd.string 9 wc w.heap.size (fun k_ => some k_ ≠ (v303 : Value).ownBlock ∧ some k_ ≠ ((.slice Ao15 t276.length co15) : Value).ownBlock ∧ k_ ≠ gb274 ∧ k_ ≠ gb275 ∧ k_ ≠ gb294 ∧ k_ ≠ gb306 ∧ k_ ≠ gb307) (.slice Ao33 t295.length co33) t295) ∧ Aside0 (wc.heap[gb274]? = some (.cells #[(.slice Ao15 t276.length co15), .int .i64 t279, .int .i64 t280, .int .i64 t281, .bool t282] 26 (0, 0))) ∧ Aside0 (wc.heap[gb275]? = some (.cells #[(.slice Ao14 t283.length co14)] 24 (0, 0))) ∧ Aside0 (wc.heap[gb294]? = some (.cells #[(.slice Ao24 t286.length co24), .int .i64 t289, .int .i64 t290, .int .i64 t291, .bool t292] 26 (0, 0))) ∧ Aside0 (wc.heap[gb306]? = some (.cells #[(.slice Ao33 t295.length co33), .int .i64 t298, .int .i64 t299, .int .i64 t300, .bool t301] 26 (0, 0))) ∧ Aside0 (wc.heap[gb307]? = some (.cells #[(.slice none 0 0), .int .i64 0, .int .i64 0, .int .i64 0, .bool false] 26 (0, 0))) ∧ Aside0 (Below w.heap.size w wc))
      case first =>
       have H := HC61.out
       clear HC61
       by_cases c62 : x53_57 = true
       ·subst c62
        have H1 : (if t293 = 2 then ((foghornref04_Same.f kj57 t286 t289 t290 t291 t292 ([] : List ByteArray) 0 0 0 false).bind fun t311 => (if t311 = true then (foghornlaw04_StoreBoots.j2 kj57 t302 t305 t283 t295 t298 t299 t300 t301 0 0 0 false) else (some false))) else (some false)) = some r := by rw [if_pos rfl] at H; exact H
        clear H
        have H := H1
        clear H1
        by_cases c63 : t293 = 2
        ·rw [if_pos c63] at H
         have c63b0 : (t293 == 2) = true := beq_iff_eq.mpr c63
         have c63b1 : (t293 != 2) = false := bne_eq_false_iff_eq.mpr c63
         clear c63
         (first | rw [c63b0] | (simp only [i64_w, i32_w]; rw [c63b0]) | skip)
         replace H := Option.bind_eq_some_iff.mp H
         obtain ⟨t311, A640, H⟩ := H
         have A64 := aA A640
         clear A640
         by_cases c65 : t311 = true
         ·subst c65
          have H1 : (foghornlaw04_StoreBoots.j2 kj57 t302 t305 t283 t295 t298 t299 t300 t301 0 0 0 false) = some r := by rw [if_pos rfl] at H; exact H
          clear H
          have H := H1
          clear H1
          have H' := aA H
          clear H
          have hnb66 := NB294_274.out
          have hnc66 := NB274_294.out
          have hnb67 := NB294_275.out
          have hnc67 := NB275_294.out
          have hnb68 := NB294_306.out
          have hnc68 := NB306_294.out
          have hnb69 := NB294_307.out
          have hnc69 := NB307_294.out
          obtain ⟨hcz70_0, hcz70_1, hcz70_2, hcz70_3, hcz70_4⟩ := bC5 BK294.out
          obtain ⟨hfz70_0, hfz70_1, hfz70_2, hfz70_3, hfz70_4⟩ := bF5 BK294.out
          have hnb71 := NB307_274.out
          have hnc71 := NB274_307.out
          have hnb72 := NB307_275.out
          have hnc72 := NB275_307.out
          have hnb73 := NB307_306.out
          have hnc73 := NB306_307.out
          obtain ⟨hcz74_0, hcz74_1, hcz74_2, hcz74_3, hcz74_4⟩ := bC5 BK307.out
          obtain ⟨hfz74_0, hfz74_1, hfz74_2, hfz74_3, hfz74_4⟩ := bF5 BK307.out
          go_wp2_with (first | (go_at_call 16; (refine (foghornref04_Same.calls kj57 _ _ t286 t289 t290 t291 t292 _ _ ([] : List ByteArray) 0 0 0 false true _ ?side1 ?side2 ?side3 ?side4 A64.out).mono ?_); (case side1 => exact mC ((Kd.V_reads' HO_295000.out).2.2)); (case side2 => exact (Kd.V_reads' HO_295000.out).2.1); (case side3 => exact Kd.C_nil _ _); (case side4 => exact Nat.le_refl _); rintro e w75 ⟨rfl, hb⟩; have n0_ := aA (Kd.R_below (mR HO_10.out) hb); have n1_ := aA (Kd.R_below (mR HO_275000.out) hb); have n2_ := aA (Kd.R_below (mR HO_276000.out) hb); have n3_ := aA (Kd.V_below (by (with_reducible repeat (first | apply Kd.V_alloc | apply Kd.V_drewN | apply Kd.V_drew)); exact HO_295000.out) hb); have n4_ := aA (Kd.V_below (by (with_reducible repeat (first | apply Kd.V_alloc | apply Kd.V_drewN | apply Kd.V_drew)); exact HO_307000.out) hb); have n5_ := aA (bB BK274.out hb); have n6_ := aA (bB BK275.out hb); have n7_ := aA (bB BK294.out hb); have n8_ := aA (bB BK306.out hb); have n9_ := aA (bB BK307.out hb); have n10_ := aA (below_step (by repeat (first | (with_reducible first | exact HB.out | apply below_alloc | apply pw_below_drewN | apply below_drew1 | refine below_set ?_ GE274.out | refine below_set ?_ GE275.out | refine below_set ?_ GE294.out | refine below_set ?_ GE306.out | refine below_set ?_ GE307.out) | exact HB.out)) hb); clear HO_10 HO_275000 HO_276000 HO_295000 HO_307000 BK274 BK275 BK294 BK306 BK307 HB; have HO_10 := n0_; have HO_275000 := n1_; have HO_276000 := n2_; have HO_295000 := n3_; have HO_307000 := n4_; have BK274 := n5_; have BK275 := n6_; have BK294 := n7_; have BK306 := n8_; have BK307 := n9_; have HB := n10_; clear n0_ n1_ n2_ n3_ n4_ n5_ n6_ n7_ n8_ n9_ n10_; (try clear hb); (try clear hb2); (try clear hk); (try clear hi)))
          go_meet
          case rel => exact ⟨_, H', ⟨by have := HJ7.out; have := HJ57.out; first | omega | exact Nat.le_refl _⟩, ⟨by (with_reducible repeat (first | apply Kd.R_alloc | apply Kd.R_drewN | apply Kd.R_drew)); exact HO_10.out⟩, ⟨by (with_reducible repeat (first | apply Kd.R_alloc | apply Kd.R_drewN | apply Kd.R_drew)); exact HO_275000.out⟩, ⟨by (with_reducible repeat (first | apply Kd.R_alloc | apply Kd.R_drewN | apply Kd.R_drew)); exact HO_276000.out⟩, ⟨by (with_reducible repeat (first | apply Kd.V_alloc | apply Kd.V_drewN | apply Kd.V_drew)); exact HO_295000.out⟩, ⟨by (with_reducible repeat (first | apply Kd.V_alloc | apply Kd.V_drewN | apply Kd.V_drew)); exact HO_307000.out⟩, ⟨by (with_reducible repeat (first | refine blk_drewN ?_ _ | refine blk_drew ?_ | refine blk_alloc ?_ _)); exact BK274.out⟩, ⟨by (with_reducible repeat (first | refine blk_drewN ?_ _ | refine blk_drew ?_ | refine blk_alloc ?_ _)); exact BK275.out⟩, ⟨by (with_reducible repeat (first | refine blk_drewN ?_ _ | refine blk_drew ?_ | refine blk_alloc ?_ _)); exact BK294.out⟩, ⟨by (with_reducible repeat (first | refine blk_drewN ?_ _ | refine blk_drew ?_ | refine blk_alloc ?_ _)); exact BK306.out⟩, ⟨by (with_reducible repeat (first | refine blk_drewN ?_ _ | refine blk_drew ?_ | refine blk_alloc ?_ _)); exact BK307.out⟩, ⟨by repeat (first | (with_reducible first | exact HB.out | apply below_alloc | apply pw_below_drewN | apply below_drew1 | refine below_set ?_ GE274.out | refine below_set ?_ GE275.out | refine below_set ?_ GE294.out | refine below_set ?_ GE306.out | refine below_set ?_ GE307.out) | exact HB.out)⟩⟩
         ·replace c65 := Bool.eq_false_iff.mpr c65
          subst c65
          have H1 : (some false) = some r := by rw [if_neg (show ¬ (false = true) by decide)] at H; exact H
          clear H
          have H := H1
          clear H1
          exact absurd (Option.some.inj H) (by rw [hrt_]; decide)
        ·rw [if_neg c63] at H
         have c63b0 : (t293 == 2) = false := beq_eq_false_iff_ne.mpr c63
         have c63b1 : (t293 != 2) = true := bne_iff_ne.mpr c63
         (first | rw [c63b0] | (simp only [i64_w, i32_w]; rw [c63b0]) | skip)
         exact absurd (Option.some.inj H) (by rw [hrt_]; decide)
       ·replace c62 := Bool.eq_false_iff.mpr c62
        subst c62
        have H1 : (if t293 = 0 then ((foghornref04_New.f kj57 a0).bind fun bt312 => ((foghornref04_Same.f kj57 t286 t289 t290 t291 t292 bt312.1 bt312.2.1 bt312.2.2.1 bt312.2.2.2.1 bt312.2.2.2.2).bind fun t319 => (if t319 = true then (foghornlaw04_StoreBoots.j2 kj57 t302 t305 t283 t295 t298 t299 t300 t301 0 0 0 false) else (some false)))) else (some false)) = some r := by rw [if_neg (show ¬ (false = true) by decide)] at H; exact H
        clear H
        have H := H1
        clear H1
        by_cases c86 : t293 = 0
        ·rw [if_pos c86] at H
         have c86b0 : (t293 == 0) = true := beq_iff_eq.mpr c86
         have c86b1 : (t293 != 0) = false := bne_eq_false_iff_eq.mpr c86
         clear c86
         replace H := Option.bind_eq_some_iff.mp H
         obtain ⟨⟨t312, t315, t316, t317, t318⟩, A870, H⟩ := H
         have A87 := aA A870
         clear A870
         replace H := Option.bind_eq_some_iff.mp H
         obtain ⟨t319, A880, H⟩ := H
         have A88 := aA A880
         clear A880
         by_cases c89 : t319 = true
         ·subst c89
          have H1 : (foghornlaw04_StoreBoots.j2 kj57 t302 t305 t283 t295 t298 t299 t300 t301 0 0 0 false) = some r := by rw [if_pos rfl] at H; exact H
          clear H
          have H := H1
          clear H1
          have H' := aA H
          clear H
          try go_wp2
          have n0_ := aA (Kd.R_drew HO_10.out)
          have n1_ := aA (Kd.R_drew HO_275000.out)
          have n2_ := aA (Kd.R_drew HO_276000.out)
          have n3_ := aA (Kd.V_drew HO_295000.out)
          have n4_ := aA (Kd.V_drew HO_307000.out)
          have n5_ := aA (blk_drew BK274.out)
          have n6_ := aA (blk_drew BK275.out)
          have n7_ := aA (blk_drew BK294.out)
          have n8_ := aA (blk_drew BK306.out)
          have n9_ := aA (blk_drew BK307.out)
          have n10_ := aA (below_drew1 HB.out)
          clear HO_10
          clear HO_275000
          clear HO_276000
          clear HO_295000
          clear HO_307000
          clear BK274
          clear BK275
          clear BK294
          clear BK306
          clear BK307
          clear HB
          have HO_10 := n0_
          have HO_275000 := n1_
          have HO_276000 := n2_
          have HO_295000 := n3_
          have HO_307000 := n4_
          have BK274 := n5_
          have BK275 := n6_
          have BK294 := n7_
          have BK306 := n8_
          have BK307 := n9_
          have HB := n10_
          clear n0_ n1_ n2_ n3_ n4_ n5_ n6_ n7_ n8_ n9_ n10_
          refine start_ (n := 9) (S := fun w' => w'.cell? ⟨gb294, 0, none⟩ = some (.slice Ao24 t286.length co24) ∧ w'.cell? ⟨gb294, 1, none⟩ = some (.int .i64 t289) ∧ w'.cell? ⟨gb294, 2, none⟩ = some (.int .i64 t290) ∧ w'.cell? ⟨gb294, 3, none⟩ = some (.int .i64 t291) ∧ w'.cell? ⟨gb294, 4, none⟩ = some (.bool t292)) (ds := []) #[false, false, false, false, false, false, false, false, false] (by kernel_rfl) rfl rfl (bC5 BK294.out) (fun hHeld => ?_); refine with_tabW foghornlaw04_StoreBoots.tab10 foghornlaw04_StoreBoots.bits10 (fun HT_ HW_ => ?_)
          generalize wc.drew = w90 at HO_10 HO_275000 HO_276000 HO_295000 HO_307000 BK274 BK275 BK294 BK306 BK307 HB hHeld ⊢
          refine pure_ (i := 0) (N := some 62) (v := ?_) (a' := ?_) #[true, false, false, false, false, false, false, false, false] rfl rfl (any_of HT_.out (by kernel_rfl)) (fun _ _ _ h => h) (Or.inl ⟨by rfl, ?_⟩) ?_ ?_
          rotate_left
          ·intro w'
           go_simp
           with_reducible rfl
          rotate_left
          ·exact mP
          refine pure_ (i := 1) (N := some 63) (v := ?_) (a' := ?_) #[true, true, false, false, false, false, false, false, false] rfl rfl (any_of HT_.out (by kernel_rfl)) (fun _ _ _ h => h) (Or.inl ⟨by rfl, ?_⟩) ?_ ?_
          rotate_left
          ·intro w'
           go_simp
           with_reducible rfl
          rotate_left
          ·exact mP
          refine pure_ (i := 2) (N := some 64) (v := ?_) (a' := ?_) #[true, true, true, false, false, false, false, false, false] rfl rfl (any_of HT_.out (by kernel_rfl)) (fun _ _ _ h => h) (Or.inl ⟨by rfl, ?_⟩) ?_ ?_
          rotate_left
          ·intro w'
           go_simp
           with_reducible rfl
          rotate_left
          ·exact mP
          refine pure_ (i := 4) (N := some 66) (v := ?_) (a' := ?_) #[true, true, true, false, true, false, false, false, false] rfl rfl (any_of HT_.out (by kernel_rfl)) (fun _ _ _ h => h) (Or.inl ⟨by rfl, ?_⟩) ?_ ?_
          rotate_left
          ·intro w'
           go_simp
           with_reducible rfl
          rotate_left
          ·exact mP
          refine take_ (i := 3) (N := some 65) (v := ?_) (a' := ?_) #[true, true, true, true, true, false, false, false, false] rfl rfl (take_ofW HT_.out HW_.out (by kernel_rfl)) (fun _ _ _ h => h) (Or.inl ⟨by rfl, ?_⟩) hHeld ?_ ?_
          rotate_left
          ·rintro w' ⟨s0, s1, s2, s3, s4⟩
           go_simp
           with_reducible rfl
          rotate_left
          ·exact mP
          refine one_ (i := 5) (N := some 67) #[true, true, true, true, true, true, false, false, false] rfl rfl (one_of HT_.out (by kernel_rfl)) (by decide) (fun K hK => ?_)
          refine goes_ Try.func17 (by kernel_rfl) rfl #[.int .i64 a0] (by rfl) rfl rfl mS ?_
          with_reducible refine (foghornref04_New.calls kj57 a0 t312 t315 t316 t317 t318 _ A87.out).mono ?_
          rintro e w91 ⟨v313, rfl, ho0, hb⟩
          refine ⟨_, rfl, ?_⟩
          have n0_ := aA (Kd.R_elder' (mR HO_10.out) (Kd.R_base ho0) hb)
          have n1_ := aA (Kd.R_elder' (mR HO_275000.out) (Kd.R_base ho0) hb)
          have n2_ := aA (Kd.R_elder' (mR HO_276000.out) (Kd.R_base ho0) hb)
          have n3_ := aA (Kd.V_elder' (by (with_reducible repeat (first | apply Kd.V_alloc | apply Kd.V_drewN | apply Kd.V_drew)); exact HO_295000.out) (Kd.R_base ho0) hb)
          have n4_ := aA (Kd.V_elder' (by (with_reducible repeat (first | apply Kd.V_alloc | apply Kd.V_drewN | apply Kd.V_drew)); exact HO_307000.out) (Kd.R_base ho0) hb)
          have n5_ := aA (Kd.R_lower (Kd.R_new' (Kd.R_new' (Kd.R_new' ho0 (Kd.R_lt (mR HO_10.out))) (Kd.R_lt (mR HO_275000.out))) (Kd.R_lt (mR HO_276000.out))) (below_size (by repeat (first | (with_reducible first | exact HB.out | apply below_alloc | apply pw_below_drewN | apply below_drew1 | refine below_set ?_ GE274.out | refine below_set ?_ GE275.out | refine below_set ?_ GE294.out | refine below_set ?_ GE306.out | refine below_set ?_ GE307.out) | exact HB.out))))
          have n6_ := aA (bB BK274.out hb)
          have n7_ := aA (bB BK275.out hb)
          have n8_ := aA (bB BK294.out hb)
          have n9_ := aA (bB BK306.out hb)
          have n10_ := aA (bB BK307.out hb)
          have n11_ := aA (below_step (by repeat (first | (with_reducible first | exact HB.out | apply below_alloc | apply pw_below_drewN | apply below_drew1 | refine below_set ?_ GE274.out | refine below_set ?_ GE275.out | refine below_set ?_ GE294.out | refine below_set ?_ GE306.out | refine below_set ?_ GE307.out) | exact HB.out)) hb)
          clear HO_10
          clear HO_275000
          clear HO_276000
          clear HO_295000
          clear HO_307000
          clear BK274
          clear BK275
          clear BK294
          clear BK306
          clear BK307
          clear HB
          have HO_10 := n0_
          have HO_275000 := n1_
          have HO_276000 := n2_
          have HO_295000 := n3_
          have HO_307000 := n4_
          have HO314 := n5_
          have BK274 := n6_
          have BK275 := n7_
          have BK294 := n8_
          have BK306 := n9_
          have BK307 := n10_
          have HB := n11_
          clear n0_ n1_ n2_ n3_ n4_ n5_ n6_ n7_ n8_ n9_ n10_ n11_
          (try clear hb)
          (try clear hb2)
          (try clear hk)
          (try clear hi)
          (try clear ho0)
          obtain ⟨Ao92, co92, eo92⟩ := Kd.R_slice HO314.out
          (first | subst eo92 | (injection eo92 with f1_ f2_ f3_; have f4_ := f1_.symm; have f5_ := f3_.symm; clear f1_ f2_ f3_; subst f4_; subst f5_))
          refine hK.out _ _ (bC5 BK294.out) (fun hHeld => ?_)
          clear hK K
          refine norm_ (a' := ?_) ?_ ?_
          rotate_left
          ·show Act.put _ (some 67) _ = _
           simp only [Act.put, List.setIfInBounds_toArray, List.set_cons_zero, List.set_cons_succ, i64_w, i32_w]
           rfl
          refine one_ (i := 6) (N := some 68) #[true, true, true, true, true, true, true, false, false] rfl rfl (one_of HT_.out (by kernel_rfl)) (by decide) (fun K hK => ?_)
          refine goes_ Try.func16 (by kernel_rfl) rfl #[.agg #[.slice Ao24 t286.length co24, .int .i64 t289, .int .i64 t290, .int .i64 t291, .bool t292], .agg #[.slice Ao92 t312.length co92, .int .i64 t315, .int .i64 t316, .int .i64 t317, .bool t318]] (by rfl) rfl rfl mS ?_
          with_reducible refine (foghornref04_Same.calls kj57 _ _ t286 t289 t290 t291 t292 _ _ t312 t315 t316 t317 t318 true _ ?side1 ?side2 ?side3 ?side4 A88.out).mono ?_
          (case side1 => exact mC ((Kd.V_reads' HO_295000.out).2.2))
          (case side2 => exact (Kd.V_reads' HO_295000.out).2.1)
          (case side3 => exact mC ((Kd.R_reads' HO314.out).2.2))
          (case side4 => exact (Kd.R_reads' HO314.out).2.1)
          rintro e w93 ⟨rfl, hb⟩
          refine ⟨_, rfl, ?_⟩
          have n0_ := aA (Kd.R_below (mR HO_10.out) hb)
          have n1_ := aA (Kd.R_below (mR HO_275000.out) hb)
          have n2_ := aA (Kd.R_below (mR HO_276000.out) hb)
          have n3_ := aA (Kd.V_below (by (with_reducible repeat (first | apply Kd.V_alloc | apply Kd.V_drewN | apply Kd.V_drew)); exact HO_295000.out) hb)
          have n4_ := aA (Kd.V_below (by (with_reducible repeat (first | apply Kd.V_alloc | apply Kd.V_drewN | apply Kd.V_drew)); exact HO_307000.out) hb)
          have n5_ := aA (Kd.R_below (mR HO314.out) hb)
          have n6_ := aA (bB BK274.out hb)
          have n7_ := aA (bB BK275.out hb)
          have n8_ := aA (bB BK294.out hb)
          have n9_ := aA (bB BK306.out hb)
          have n10_ := aA (bB BK307.out hb)
          have n11_ := aA (below_step (by repeat (first | (with_reducible first | exact HB.out | apply below_alloc | apply pw_below_drewN | apply below_drew1 | refine below_set ?_ GE274.out | refine below_set ?_ GE275.out | refine below_set ?_ GE294.out | refine below_set ?_ GE306.out | refine below_set ?_ GE307.out) | exact HB.out)) hb)
          clear HO_10
          clear HO_275000
          clear HO_276000
          clear HO_295000
          clear HO_307000
          clear HO314
          clear BK274
          clear BK275
          clear BK294
          clear BK306
          clear BK307
          clear HB
          have HO_10 := n0_
          have HO_275000 := n1_
          have HO_276000 := n2_
          have HO_295000 := n3_
          have HO_307000 := n4_
          have HO314 := n5_
          have BK274 := n6_
          have BK275 := n7_
          have BK294 := n8_
          have BK306 := n9_
          have BK307 := n10_
          have HB := n11_
          clear n0_ n1_ n2_ n3_ n4_ n5_ n6_ n7_ n8_ n9_ n10_ n11_
          (try clear hb)
          (try clear hb2)
          (try clear hk)
          (try clear hi)
          refine hK.out _ _ (bC5 BK294.out) (fun hHeld => ?_)
          clear hK K
          refine norm_ (a' := ?_) ?_ ?_
          rotate_left
          ·show Act.put _ (some 68) _ = _
           simp only [Act.put, List.setIfInBounds_toArray, List.set_cons_zero, List.set_cons_succ, i64_w, i32_w]
           rfl
          refine pure_ (i := 7) (N := some 69) (v := ?_) (a' := ?_) #[true, true, true, true, true, true, true, true, false] rfl rfl (any_of HT_.out (by kernel_rfl)) (fun _ _ _ h => h) (Or.inl ⟨by rfl, ?_⟩) ?_ ?_
          rotate_left
          ·intro w'
           go_simp
           with_reducible rfl
          rotate_left
          ·exact mP
          refine pure_ (i := 8) (N := some 70) (v := ?_) (a' := ?_) #[true, true, true, true, true, true, true, true, true] rfl rfl (any_of HT_.out (by kernel_rfl)) (fun _ _ _ h => h) (Or.inl ⟨by rfl, ?_⟩) ?_ ?_
          rotate_left
          ·intro w'
           go_simp
           with_reducible rfl
          rotate_left
          ·exact mP
          refine done_ (done_of HT_.out (by kernel_rfl)) ?_
          try go_wp2
          go_meet
          case rel => exact ⟨_, H', ⟨by have := HJ7.out; have := HJ57.out; first | omega | exact Nat.le_refl _⟩, ⟨by (with_reducible repeat (first | apply Kd.R_alloc | apply Kd.R_drewN | apply Kd.R_drew)); exact Kd.R_mono HO_10.out (fun _ hk => ⟨hk.1.1, hk.1.2⟩)⟩, ⟨by (with_reducible repeat (first | apply Kd.R_alloc | apply Kd.R_drewN | apply Kd.R_drew)); exact Kd.R_mono HO_275000.out (fun _ hk => ⟨hk.1.1, hk.1.2⟩)⟩, ⟨by (with_reducible repeat (first | apply Kd.R_alloc | apply Kd.R_drewN | apply Kd.R_drew)); exact Kd.R_mono HO_276000.out (fun _ hk => ⟨hk.1.1, hk.1.2⟩)⟩, ⟨by (with_reducible repeat (first | apply Kd.V_alloc | apply Kd.V_drewN | apply Kd.V_drew)); exact Kd.V_mono HO_295000.out (fun _ hk => ⟨hk.1.1, ⟨hk.1.2.1, ⟨hk.1.2.2.1, ⟨hk.1.2.2.2.1, ⟨hk.1.2.2.2.2.1, ⟨hk.1.2.2.2.2.2.1, ⟨hk.1.2.2.2.2.2.2.1, hk.1.2.2.2.2.2.2.2⟩⟩⟩⟩⟩⟩⟩)⟩, ⟨by (with_reducible repeat (first | apply Kd.V_alloc | apply Kd.V_drewN | apply Kd.V_drew)); exact Kd.V_mono HO_307000.out (fun _ hk => ⟨hk.1.1, ⟨hk.1.2.1, ⟨hk.1.2.2.1, ⟨hk.1.2.2.2.1, ⟨hk.1.2.2.2.2.1, ⟨hk.1.2.2.2.2.2.1, hk.1.2.2.2.2.2.2⟩⟩⟩⟩⟩⟩)⟩, ⟨by (with_reducible repeat (first | refine blk_drewN ?_ _ | refine blk_drew ?_ | refine blk_alloc ?_ _)); exact BK274.out⟩, ⟨by (with_reducible repeat (first | refine blk_drewN ?_ _ | refine blk_drew ?_ | refine blk_alloc ?_ _)); exact BK275.out⟩, ⟨by (with_reducible repeat (first | refine blk_drewN ?_ _ | refine blk_drew ?_ | refine blk_alloc ?_ _)); exact BK294.out⟩, ⟨by (with_reducible repeat (first | refine blk_drewN ?_ _ | refine blk_drew ?_ | refine blk_alloc ?_ _)); exact BK306.out⟩, ⟨by (with_reducible repeat (first | refine blk_drewN ?_ _ | refine blk_drew ?_ | refine blk_alloc ?_ _)); exact BK307.out⟩, ⟨by repeat (first | (with_reducible first | exact HB.out | apply below_alloc | apply pw_below_drewN | apply below_drew1 | refine below_set ?_ GE274.out | refine below_set ?_ GE275.out | refine below_set ?_ GE294.out | refine below_set ?_ GE306.out | refine below_set ?_ GE307.out) | exact HB.out)⟩⟩
         ·replace c89 := Bool.eq_false_iff.mpr c89
          subst c89
          have H1 : (some false) = some r := by rw [if_neg (show ¬ (false = true) by decide)] at H; exact H
          clear H
          have H := H1
          clear H1
          exact absurd (Option.some.inj H) (by rw [hrt_]; decide)
        ·rw [if_neg c86] at H
         have c86b0 : (t293 == 0) = false := beq_eq_false_iff_ne.mpr c86
         have c86b1 : (t293 != 0) = true := bne_iff_ne.mpr c86
         exact absurd (Option.some.inj H) (by rw [hrt_]; decide)
      case rest =>
       clear HC61
       try clear c1
       try clear p2
       try clear c6
       try clear c7
       try clear c8
       try clear c16
       try clear c17
       try clear c62
       try clear c63
       try clear c63b0
       try clear c63b1
       try clear c76
       try clear c77
       try clear c78
       try clear c79
       try clear c81
       try clear c82
       try clear c83
       try clear c86
       try clear c86b0
       try clear c86b1
       try clear c89
       try clear hcz80_0 hcz80_1 hcz80_2 hcz80_3 hcz80_4
       try clear hcz84_0 hcz84_1 hcz84_2 hcz84_3 hcz84_4
       try clear hfz80_0 hfz80_1 hfz80_2 hfz80_3 hfz80_4
       try clear hfz84_0 hfz84_1 hfz84_2 hfz84_3 hfz84_4
       obtain ⟨kq, HA, HJ60, HO_10, HO_275000, HO_276000, HO_295000, HO_307000, BK274, BK275, BK294, BK306, BK307, HB⟩ := hcut
       cases kq with
       | zero => exact absurd HA.out (by simp [foghornlaw04_StoreBoots.j2])
       | succ kj60 =>
        have H := HA.out
        clear HA
        simp only [foghornlaw04_StoreBoots.j2] at H
        replace H := Option.bind_eq_some_iff.mp H
        obtain ⟨t320, A990, H⟩ := H
        have A99 := aA A990
        clear A990
        by_cases c100 : t320 = true
        ·subst c100
         have H1 : ((foghornref04_Boot.f kj60 t283).bind fun bt322 => (if bt322.2.2.2.2.2.2 = true then (if t305 = 0 then ((foghornref04_Same.f kj60 t295 t298 t299 t300 t301 bt322.1 bt322.2.1 bt322.2.2.1 bt322.2.2.2.1 bt322.2.2.2.2.1).bind fun t334 => (if t334 = true then ((foghornref04_Texts.f kj60 t302 bt322.2.2.2.2.2.1).bind fun t335 => (some t335)) else (some false))) else (some false)) else (if t305 = 4 then (if (t302.length : Int) = 0 then ((foghornref04_Same.f kj60 t295 t298 t299 t300 t301 ([] : List ByteArray) 0 0 0 false).bind fun t336 => (some t336)) else (some false)) else (some false)))) = some r := by rw [if_pos rfl] at H; exact H
         clear H
         have H := H1
         clear H1
         replace H := Option.bind_eq_some_iff.mp H
         obtain ⟨⟨t322, t325, t326, t327, t328, t329, t332⟩, A1010, H⟩ := H
         have A101 := aA A1010
         clear A1010
         by_cases c102 : t332 = true
         ·subst c102
          have H1 : (if t305 = 0 then ((foghornref04_Same.f kj60 t295 t298 t299 t300 t301 t322 t325 t326 t327 t328).bind fun t334 => (if t334 = true then ((foghornref04_Texts.f kj60 t302 t329).bind fun t335 => (some t335)) else (some false))) else (some false)) = some r := by rw [if_pos rfl] at H; exact H
          clear H
          have H := H1
          clear H1
          by_cases c103 : t305 = 0
          ·rw [if_pos c103] at H
           have c103b0 : (t305 == 0) = true := beq_iff_eq.mpr c103
           have c103b1 : (t305 != 0) = false := bne_eq_false_iff_eq.mpr c103
           clear c103
           replace H := Option.bind_eq_some_iff.mp H
           obtain ⟨t334, A1040, H⟩ := H
           have A104 := aA A1040
           clear A1040
           by_cases c105 : t334 = true
           ·subst c105
            have H1 : ((foghornref04_Texts.f kj60 t302 t329).bind fun t335 => (some t335)) = some r := by rw [if_pos rfl] at H; exact H
            clear H
            have H := H1
            clear H1
            replace H := Option.bind_eq_some_iff.mp H
            obtain ⟨t335, A1060, H⟩ := H
            have A106 := aA A1060
            clear A1060
            obtain rfl := Option.some.inj H
            have hnb107 := NB275_274.out
            have hnc107 := NB274_275.out
            have hnb108 := NB275_294.out
            have hnc108 := NB294_275.out
            have hnb109 := NB275_306.out
            have hnc109 := NB306_275.out
            have hnb110 := NB275_307.out
            have hnc110 := NB307_275.out
            have hcz111_0 : wc.cell? ⟨gb275, 0, none⟩ = some (.slice Ao14 t283.length co14) := (blk_cell BK275.out 0).trans rfl
            have hfz111_0 := blk_frozen BK275.out 0
            go_wp2_with (first | ((with_reducible refine gate_callee (f := 18) rfl ?_); refine goesL_ (some 72) rfl rfl Try.func18 (by kernel_rfl) rfl #[.agg #[.slice Ao14 t283.length co14]] rfl mS ?_; (with_reducible refine (foghornref04_Log.calls kj60 _ _ t283 true _ ?side1 ?side2 A99.out).mono ?_); (case side1 => exact mC ((Kd.R_reads' HO_276000.out).2.2)); (case side2 => exact (Kd.R_reads' HO_276000.out).2.1); rintro e w112 ⟨rfl, hb⟩; refine ⟨_, rfl, ?_⟩; have n0_ := aA (Kd.R_below (mR HO_10.out) hb); have n1_ := aA (Kd.R_below (mR HO_275000.out) hb); have n2_ := aA (Kd.R_below (mR HO_276000.out) hb); have n3_ := aA (Kd.V_below (by (with_reducible repeat (first | apply Kd.V_alloc | apply Kd.V_drewN | apply Kd.V_drew)); exact HO_295000.out) hb); have n4_ := aA (Kd.V_below (by (with_reducible repeat (first | apply Kd.V_alloc | apply Kd.V_drewN | apply Kd.V_drew)); exact HO_307000.out) hb); have n5_ := aA (bB BK274.out hb); have n6_ := aA (bB BK275.out hb); have n7_ := aA (bB BK294.out hb); have n8_ := aA (bB BK306.out hb); have n9_ := aA (bB BK307.out hb); have n10_ := aA (below_step (by repeat (first | (with_reducible first | exact HB.out | apply below_alloc | apply pw_below_drewN | apply below_drew1 | refine below_set ?_ GE274.out | refine below_set ?_ GE275.out | refine below_set ?_ GE294.out | refine below_set ?_ GE306.out | refine below_set ?_ GE307.out) | exact HB.out)) hb); clear HO_10 HO_275000 HO_276000 HO_295000 HO_307000 BK274 BK275 BK294 BK306 BK307 HB; have HO_10 := n0_; have HO_275000 := n1_; have HO_276000 := n2_; have HO_295000 := n3_; have HO_307000 := n4_; have BK274 := n5_; have BK275 := n6_; have BK294 := n7_; have BK306 := n8_; have BK307 := n9_; have HB := n10_; clear n0_ n1_ n2_ n3_ n4_ n5_ n6_ n7_ n8_ n9_ n10_; (try clear hb); (try clear hb2); (try clear hk); (try clear hi); have hcz113_0 : w112.cell? ⟨gb275, 0, none⟩ = some (.slice Ao14 t283.length co14) := (blk_cell BK275.out 0).trans rfl; have hfz113_0 := blk_frozen BK275.out 0) | ((with_reducible refine gate_callee (f := 19) rfl ?_); refine goesL_ (some 88) rfl rfl Try.func19 (by kernel_rfl) rfl #[.agg #[.slice Ao14 t283.length co14]] rfl mS ?_; (with_reducible refine (foghornref04_Boot.calls kj60 (fun k_ => some k_ = (.slice Ao14 t283.length co14 : Value).ownBlock) _ _ t283 t322 t325 t326 t327 t328 t329 true _ ?side1 A101.out).mono ?_); (case side1 => exact Kd.R_V (Kd.R_tight rfl (Kd.R_types (Kd.R_types (Kd.R_types (Kd.R_types (Kd.R_types (HO_276000.out) BK274.out (by decide)) BK275.out (by decide)) BK294.out (by decide)) BK306.out (by decide)) BK307.out (by decide)))); rintro e w114 ⟨v323, v330, rfl, ho0, ho1, hb⟩; refine ⟨_, rfl, ?_⟩; have n0_ := aA (Kd.R_elder' (mR HO_10.out) (Kd.R_base ho1) hb); have n1_ := aA (Kd.R_elder' (mR HO_275000.out) (Kd.R_base ho1) hb); have n2_ := aA (Kd.R_elder' (mR HO_276000.out) (Kd.R_base ho1) hb); have n3_ := aA (Kd.V_elder' (by (with_reducible repeat (first | apply Kd.V_alloc | apply Kd.V_drewN | apply Kd.V_drew)); exact HO_295000.out) (Kd.R_base ho1) hb); have n4_ := aA (Kd.V_elder' (by (with_reducible repeat (first | apply Kd.V_alloc | apply Kd.V_drewN | apply Kd.V_drew)); exact HO_307000.out) (Kd.R_base ho1) hb); have n5_ := aA (Kd.V_lower (Kd.V_mono (ok' := fun k_ => some k_ ≠ (v330 : Value).ownBlock ∧ some k_ ≠ (v303 : Value).ownBlock ∧ some k_ ≠ (.slice Ao15 t276.length co15 : Value).ownBlock ∧ k_ ≠ gb274 ∧ k_ ≠ gb275 ∧ k_ ≠ gb294 ∧ k_ ≠ gb306 ∧ k_ ≠ gb307) ho0 (fun k_ hk_ => ⟨hk_.2, Or.elim hk_.1 (fun hs_ => ((Kd.R_types (Kd.R_types (Kd.R_types (Kd.R_types (Kd.R_types (HO_276000.out) BK274.out (by decide)) BK275.out (by decide)) BK294.out (by decide)) BK306.out (by decide)) BK307.out (by decide)).1 k_ hs_.symm).1.1.1.1.1.1) (fun hn_ => (Kd.fresh' (Kd.R_lt (mR HO_10.out)) k_ hn_)), Or.elim hk_.1 (fun hs_ => ((Kd.R_types (Kd.R_types (Kd.R_types (Kd.R_types (Kd.R_types (HO_276000.out) BK274.out (by decide)) BK275.out (by decide)) BK294.out (by decide)) BK306.out (by decide)) BK307.out (by decide)).1 k_ hs_.symm).1.1.1.1.1.2) (fun hn_ => (Kd.fresh' (Kd.R_lt (mR HO_275000.out)) k_ hn_)), Or.elim hk_.1 (fun hs_ => ((Kd.R_types (Kd.R_types (Kd.R_types (Kd.R_types (Kd.R_types (HO_276000.out) BK274.out (by decide)) BK275.out (by decide)) BK294.out (by decide)) BK306.out (by decide)) BK307.out (by decide)).1 k_ hs_.symm).1.1.1.1.2) (fun hn_ => (Kd.freshB (g := gb274) (o := .cells #[.slice Ao15 t276.length co15, .int .i64 t279, .int .i64 t280, .int .i64 t281, .bool t282] 26 (0, 0)) (mK BK274.out) k_ hn_)), Or.elim hk_.1 (fun hs_ => ((Kd.R_types (Kd.R_types (Kd.R_types (Kd.R_types (Kd.R_types (HO_276000.out) BK274.out (by decide)) BK275.out (by decide)) BK294.out (by decide)) BK306.out (by decide)) BK307.out (by decide)).1 k_ hs_.symm).1.1.1.2) (fun hn_ => (Kd.freshB (g := gb275) (o := .cells #[.slice Ao14 t283.length co14] 24 (0, 0)) (mK BK275.out) k_ hn_)), Or.elim hk_.1 (fun hs_ => ((Kd.R_types (Kd.R_types (Kd.R_types (Kd.R_types (Kd.R_types (HO_276000.out) BK274.out (by decide)) BK275.out (by decide)) BK294.out (by decide)) BK306.out (by decide)) BK307.out (by decide)).1 k_ hs_.symm).1.1.2) (fun hn_ => (Kd.freshB (g := gb294) (o := .cells #[.slice Ao24 t286.length co24, .int .i64 t289, .int .i64 t290, .int .i64 t291, .bool t292] 26 (0, 0)) (mK BK294.out) k_ hn_)), Or.elim hk_.1 (fun hs_ => ((Kd.R_types (Kd.R_types (Kd.R_types (Kd.R_types (Kd.R_types (HO_276000.out) BK274.out (by decide)) BK275.out (by decide)) BK294.out (by decide)) BK306.out (by decide)) BK307.out (by decide)).1 k_ hs_.symm).1.2) (fun hn_ => (Kd.freshB (g := gb306) (o := .cells #[.slice Ao33 t295.length co33, .int .i64 t298, .int .i64 t299, .int .i64 t300, .bool t301] 26 (0, 0)) (mK BK306.out) k_ hn_)), Or.elim hk_.1 (fun hs_ => ((Kd.R_types (Kd.R_types (Kd.R_types (Kd.R_types (Kd.R_types (HO_276000.out) BK274.out (by decide)) BK275.out (by decide)) BK294.out (by decide)) BK306.out (by decide)) BK307.out (by decide)).1 k_ hs_.symm).2) (fun hn_ => (Kd.freshB (g := gb307) (o := .cells #[.slice none 0 0, .int .i64 0, .int .i64 0, .int .i64 0, .bool false] 26 (0, 0)) (mK BK307.out) k_ hn_))⟩)) (below_size (by repeat (first | (with_reducible first | exact HB.out | apply below_alloc | apply pw_below_drewN | apply below_drew1 | refine below_set ?_ GE274.out | refine below_set ?_ GE275.out | refine below_set ?_ GE294.out | refine below_set ?_ GE306.out | refine below_set ?_ GE307.out) | exact HB.out)))); have n6_ := aA (Kd.R_lower (Kd.R_new' (Kd.R_new' (Kd.R_new' (Kd.R_mono (ok' := fun k_ => True) ho1 (fun _ hk_ => trivial)) (Kd.R_lt (mR HO_10.out))) (Kd.R_lt (mR HO_275000.out))) (Kd.R_lt (mR HO_276000.out))) (below_size (by repeat (first | (with_reducible first | exact HB.out | apply below_alloc | apply pw_below_drewN | apply below_drew1 | refine below_set ?_ GE274.out | refine below_set ?_ GE275.out | refine below_set ?_ GE294.out | refine below_set ?_ GE306.out | refine below_set ?_ GE307.out) | exact HB.out)))); have n7_ := aA (bB BK274.out hb); have n8_ := aA (bB BK275.out hb); have n9_ := aA (bB BK294.out hb); have n10_ := aA (bB BK306.out hb); have n11_ := aA (bB BK307.out hb); have n12_ := aA (below_step (by repeat (first | (with_reducible first | exact HB.out | apply below_alloc | apply pw_below_drewN | apply below_drew1 | refine below_set ?_ GE274.out | refine below_set ?_ GE275.out | refine below_set ?_ GE294.out | refine below_set ?_ GE306.out | refine below_set ?_ GE307.out) | exact HB.out)) hb); clear HO_10 HO_275000 HO_276000 HO_295000 HO_307000 BK274 BK275 BK294 BK306 BK307 HB; have HO_10 := n0_; have HO_275000 := n1_; have HO_276000 := n2_; have HO_295000 := n3_; have HO_307000 := n4_; have HO324 := n5_; have HO331 := n6_; have BK274 := n7_; have BK275 := n8_; have BK294 := n9_; have BK306 := n10_; have BK307 := n11_; have HB := n12_; clear n0_ n1_ n2_ n3_ n4_ n5_ n6_ n7_ n8_ n9_ n10_ n11_ n12_; (try clear hb); (try clear hb2); (try clear hk); (try clear hi); (try clear ho0); (try clear ho1)) | ((with_reducible refine gate_dst (N := 13) rfl ?_); (try (refine gate_guard (by rfl) ?_; dsimp only)); refine box_event ?hg (N := 13) ?hd (cs := #[.slice none 0 0, .int .i64 0, .int .i64 0, .int .i64 0, .bool false]) (t := 26) ?hr ?_; (case hd => rfl); (case hg => rfl); (case hr => first | (go_simp; done) | (go_simp; rfl)); intro gb333 hg w115 hbox hb; have n0_ := aA (Kd.R_below (mR HO_10.out) hb); have n1_ := aA (Kd.R_below (mR HO_275000.out) hb); have n2_ := aA (Kd.R_below (mR HO_276000.out) hb); have n3_ := aA (Kd.V_below (Kd.V_elderB (by (with_reducible repeat (first | apply Kd.V_alloc | apply Kd.V_drewN | apply Kd.V_drew)); exact HO_295000.out) gb333 (Nat.le_of_eq hg.symm)) hb); have n4_ := aA (Kd.V_below (Kd.V_elderB (by (with_reducible repeat (first | apply Kd.V_alloc | apply Kd.V_drewN | apply Kd.V_drew)); exact HO_307000.out) gb333 (Nat.le_of_eq hg.symm)) hb); have n5_ := aA (Kd.V_below (Kd.V_elderB (by (with_reducible repeat (first | apply Kd.V_alloc | apply Kd.V_drewN | apply Kd.V_drew)); exact HO324.out) gb333 (Nat.le_of_eq hg.symm)) hb); have n6_ := aA (Kd.R_below (mR HO331.out) hb); have n7_ := aA (bB BK274.out hb); have n8_ := aA (bB BK275.out hb); have n9_ := aA (bB BK294.out hb); have n10_ := aA (bB BK306.out hb); have n11_ := aA (bB BK307.out hb); have n12_ := aA (below_step (by repeat (first | (with_reducible first | exact HB.out | apply below_alloc | apply pw_below_drewN | apply below_drew1 | refine below_set ?_ GE274.out | refine below_set ?_ GE275.out | refine below_set ?_ GE294.out | refine below_set ?_ GE306.out | refine below_set ?_ GE307.out) | exact HB.out)) hb); have n13_ := aA (hbox); have n14_ := aA ((by rw [hg]; exact (below_size (by repeat (first | (with_reducible first | exact HB.out | apply below_alloc | apply pw_below_drewN | apply below_drew1 | refine below_set ?_ GE274.out | refine below_set ?_ GE275.out | refine below_set ?_ GE294.out | refine below_set ?_ GE306.out | refine below_set ?_ GE307.out) | exact HB.out))) : w.heap.size ≤ gb333)); have n15_ := aA ((by rw [hg]; exact (below_size (by repeat (first | (with_reducible first | exact HB.out | apply below_alloc | apply pw_below_drewN | apply below_drew1 | refine below_set ?_ GE274.out | refine below_set ?_ GE275.out | refine below_set ?_ GE294.out | refine below_set ?_ GE306.out | refine below_set ?_ GE307.out) | exact HB.out))) : w.heap.size ≤ gb333)); have n16_ := aA ((bL hg BK274.out)); have n17_ := aA ((bG hg BK274.out)); have n18_ := aA ((bL hg BK275.out)); have n19_ := aA ((bG hg BK275.out)); have n20_ := aA ((bL hg BK294.out)); have n21_ := aA ((bG hg BK294.out)); have n22_ := aA ((bL hg BK306.out)); have n23_ := aA ((bG hg BK306.out)); have n24_ := aA ((bL hg BK307.out)); have n25_ := aA ((bG hg BK307.out)); clear HO_10 HO_275000 HO_276000 HO_295000 HO_307000 HO324 HO331 BK274 BK275 BK294 BK306 BK307 HB; have HO_10 := n0_; have HO_275000 := n1_; have HO_276000 := n2_; have HO_295000 := n3_; have HO_307000 := n4_; have HO324 := n5_; have HO331 := n6_; have BK274 := n7_; have BK275 := n8_; have BK294 := n9_; have BK306 := n10_; have BK307 := n11_; have HB := n12_; have BK333 := n13_; have GW333 := n14_; have GE333 := n15_; have NB274_333 := n16_; have NB333_274 := n17_; have NB275_333 := n18_; have NB333_275 := n19_; have NB294_333 := n20_; have NB333_294 := n21_; have NB306_333 := n22_; have NB333_306 := n23_; have NB307_333 := n24_; have NB333_307 := n25_; clear n0_ n1_ n2_ n3_ n4_ n5_ n6_ n7_ n8_ n9_ n10_ n11_ n12_ n13_ n14_ n15_ n16_ n17_ n18_ n19_ n20_ n21_ n22_ n23_ n24_ n25_ hb hbox hg; obtain ⟨Ao116, co116, eo116⟩ := Kd.V_slice HO324.out; subst eo116; have hnb117 := NB333_274.out; have hnc117 := NB274_333.out; have hnb118 := NB333_275.out; have hnc118 := NB275_333.out; have hnb119 := NB333_294.out; have hnc119 := NB294_333.out; have hnb120 := NB333_306.out; have hnc120 := NB306_333.out; have hnb121 := NB333_307.out; have hnc121 := NB307_333.out; obtain ⟨hcz122_0, hcz122_1, hcz122_2, hcz122_3, hcz122_4⟩ := bC5 BK333.out; obtain ⟨hfz122_0, hfz122_1, hfz122_2, hfz122_3, hfz122_4⟩ := bF5 BK333.out; have hnb123 := NB306_274.out; have hnc123 := NB274_306.out; have hnb124 := NB306_294.out; have hnc124 := NB294_306.out; have hnb125 := NB306_307.out; have hnc125 := NB307_306.out; obtain ⟨hcz126_0, hcz126_1, hcz126_2, hcz126_3, hcz126_4⟩ := bC5 BK306.out; obtain ⟨hfz126_0, hfz126_1, hfz126_2, hfz126_3, hfz126_4⟩ := bF5 BK306.out) | (go_at_call 16; (with_reducible refine (foghornref04_Same.calls kj60 _ _ t295 t298 t299 t300 t301 _ _ t322 t325 t326 t327 t328 true _ ?side1 ?side2 ?side3 ?side4 A104.out).mono ?_); (case side1 => refine (Kd.V_reads' (e := 9) (base := w.heap.size) (ok := fun k_ => (((some k_ ≠ (v303 : Value).ownBlock ∧ (some k_ ≠ (.slice Ao15 t276.length co15 : Value).ownBlock ∧ (k_ ≠ gb274 ∧ (k_ ≠ gb275 ∧ (k_ ≠ gb294 ∧ (k_ ≠ gb306 ∧ k_ ≠ gb307)))))) ∧ some k_ ≠ (v330 : Value).ownBlock) ∧ k_ ≠ gb333)) (n := t295.length) (c := co33) ?_).2.2; exact (by (with_reducible repeat (first | apply Kd.V_alloc | apply Kd.V_drewN | apply Kd.V_drew)); exact (Kd.V_mono (Kd.V_far (p := ⟨gb333, 4, none⟩) (Kd.V_far (p := ⟨gb333, 3, none⟩) (Kd.V_far (p := ⟨gb333, 2, none⟩) (Kd.V_far (p := ⟨gb333, 1, none⟩) (Kd.V_far (p := ⟨gb333, 0, none⟩) (Kd.V_mono HO_307000.out (fun k_ hk => (⟨hk, hk.2⟩ : _ ∧ k_ ≠ gb333))) (fun _ hk => hk.2) (.slice Ao116 t322.length co116)) (fun _ hk => hk.2) (.int .i64 t325)) (fun _ hk => hk.2) (.int .i64 t326)) (fun _ hk => hk.2) (.int .i64 t327)) (fun _ hk => hk.2) (.bool t328)) (fun _ h_ => h_.1)))); (case side2 => exact (Kd.V_reads' HO_307000.out).2.1); (case side3 => refine (Kd.V_reads' (e := 9) (base := w.heap.size) (ok := fun k_ => ((some k_ ≠ (v330 : Value).ownBlock ∧ (some k_ ≠ (v303 : Value).ownBlock ∧ (some k_ ≠ (.slice Ao15 t276.length co15 : Value).ownBlock ∧ (k_ ≠ gb274 ∧ (k_ ≠ gb275 ∧ (k_ ≠ gb294 ∧ (k_ ≠ gb306 ∧ k_ ≠ gb307))))))) ∧ k_ ≠ gb333)) (n := t322.length) (c := co116) ?_).2.2; exact (by (with_reducible repeat (first | apply Kd.V_alloc | apply Kd.V_drewN | apply Kd.V_drew)); exact (Kd.V_mono (Kd.V_far (p := ⟨gb333, 4, none⟩) (Kd.V_far (p := ⟨gb333, 3, none⟩) (Kd.V_far (p := ⟨gb333, 2, none⟩) (Kd.V_far (p := ⟨gb333, 1, none⟩) (Kd.V_far (p := ⟨gb333, 0, none⟩) (Kd.V_mono HO324.out (fun k_ hk => (⟨hk, hk.2⟩ : _ ∧ k_ ≠ gb333))) (fun _ hk => hk.2) (.slice Ao116 t322.length co116)) (fun _ hk => hk.2) (.int .i64 t325)) (fun _ hk => hk.2) (.int .i64 t326)) (fun _ hk => hk.2) (.int .i64 t327)) (fun _ hk => hk.2) (.bool t328)) (fun _ h_ => h_.1)))); (case side4 => exact (Kd.V_reads' HO324.out).2.1); rintro e w127 ⟨rfl, hb⟩; have n0_ := aA (Kd.R_below (by (with_reducible repeat (first | apply Kd.R_alloc | apply Kd.R_drewN | apply Kd.R_drew)); exact (Kd.R_mono (rF 4 (rF 3 (rF 2 (rF 1 (rF 0 (Kd.R_types HO_10.out BK333.out (by decide))))))) (fun _ h_ => h_.1))) hb); have n1_ := aA (Kd.R_below (by (with_reducible repeat (first | apply Kd.R_alloc | apply Kd.R_drewN | apply Kd.R_drew)); exact (Kd.R_mono (rF 4 (rF 3 (rF 2 (rF 1 (rF 0 (Kd.R_types HO_275000.out BK333.out (by decide))))))) (fun _ h_ => h_.1))) hb); have n2_ := aA (Kd.R_below (by (with_reducible repeat (first | apply Kd.R_alloc | apply Kd.R_drewN | apply Kd.R_drew)); exact (Kd.R_mono (rF 4 (rF 3 (rF 2 (rF 1 (rF 0 (Kd.R_types HO_276000.out BK333.out (by decide))))))) (fun _ h_ => h_.1))) hb); have n3_ := aA (Kd.V_below (by (with_reducible repeat (first | apply Kd.V_alloc | apply Kd.V_drewN | apply Kd.V_drew)); exact (Kd.V_mono (Kd.V_far (p := ⟨gb333, 4, none⟩) (Kd.V_far (p := ⟨gb333, 3, none⟩) (Kd.V_far (p := ⟨gb333, 2, none⟩) (Kd.V_far (p := ⟨gb333, 1, none⟩) (Kd.V_far (p := ⟨gb333, 0, none⟩) (Kd.V_mono HO_295000.out (fun k_ hk => (⟨hk, hk.2⟩ : _ ∧ k_ ≠ gb333))) (fun _ hk => hk.2) (.slice Ao116 t322.length co116)) (fun _ hk => hk.2) (.int .i64 t325)) (fun _ hk => hk.2) (.int .i64 t326)) (fun _ hk => hk.2) (.int .i64 t327)) (fun _ hk => hk.2) (.bool t328)) (fun _ h_ => h_.1))) hb); have n4_ := aA (Kd.V_below (by (with_reducible repeat (first | apply Kd.V_alloc | apply Kd.V_drewN | apply Kd.V_drew)); exact (Kd.V_mono (Kd.V_far (p := ⟨gb333, 4, none⟩) (Kd.V_far (p := ⟨gb333, 3, none⟩) (Kd.V_far (p := ⟨gb333, 2, none⟩) (Kd.V_far (p := ⟨gb333, 1, none⟩) (Kd.V_far (p := ⟨gb333, 0, none⟩) (Kd.V_mono HO_307000.out (fun k_ hk => (⟨hk, hk.2⟩ : _ ∧ k_ ≠ gb333))) (fun _ hk => hk.2) (.slice Ao116 t322.length co116)) (fun _ hk => hk.2) (.int .i64 t325)) (fun _ hk => hk.2) (.int .i64 t326)) (fun _ hk => hk.2) (.int .i64 t327)) (fun _ hk => hk.2) (.bool t328)) (fun _ h_ => h_.1))) hb); have n5_ := aA (Kd.V_below (by (with_reducible repeat (first | apply Kd.V_alloc | apply Kd.V_drewN | apply Kd.V_drew)); exact (Kd.V_mono (Kd.V_far (p := ⟨gb333, 4, none⟩) (Kd.V_far (p := ⟨gb333, 3, none⟩) (Kd.V_far (p := ⟨gb333, 2, none⟩) (Kd.V_far (p := ⟨gb333, 1, none⟩) (Kd.V_far (p := ⟨gb333, 0, none⟩) (Kd.V_mono HO324.out (fun k_ hk => (⟨hk, hk.2⟩ : _ ∧ k_ ≠ gb333))) (fun _ hk => hk.2) (.slice Ao116 t322.length co116)) (fun _ hk => hk.2) (.int .i64 t325)) (fun _ hk => hk.2) (.int .i64 t326)) (fun _ hk => hk.2) (.int .i64 t327)) (fun _ hk => hk.2) (.bool t328)) (fun _ h_ => h_.1))) hb); have n6_ := aA (Kd.R_below (by (with_reducible repeat (first | apply Kd.R_alloc | apply Kd.R_drewN | apply Kd.R_drew)); exact (Kd.R_mono (rF 4 (rF 3 (rF 2 (rF 1 (rF 0 (Kd.R_types HO331.out BK333.out (by decide))))))) (fun _ h_ => h_.1))) hb); have n7_ := aA (blk_below (g := gb274) (o := .cells #[.slice Ao15 t276.length co15, .int .i64 t279, .int .i64 t280, .int .i64 t281, .bool t282] 26 (0, 0)) (by (with_reducible repeat (first | refine blk_drewN ?_ _ | refine blk_drew ?_ | refine blk_alloc ?_ _)); refine blk_far ?_ NB274_333.out _; (with_reducible repeat (first | refine blk_drewN ?_ _ | refine blk_drew ?_ | refine blk_alloc ?_ _)); refine blk_far ?_ NB274_333.out _; (with_reducible repeat (first | refine blk_drewN ?_ _ | refine blk_drew ?_ | refine blk_alloc ?_ _)); refine blk_far ?_ NB274_333.out _; (with_reducible repeat (first | refine blk_drewN ?_ _ | refine blk_drew ?_ | refine blk_alloc ?_ _)); refine blk_far ?_ NB274_333.out _; (with_reducible repeat (first | refine blk_drewN ?_ _ | refine blk_drew ?_ | refine blk_alloc ?_ _)); refine blk_far ?_ NB274_333.out _; (with_reducible repeat (first | refine blk_drewN ?_ _ | refine blk_drew ?_ | refine blk_alloc ?_ _)); exact BK274.out) hb); have n8_ := aA (blk_below (g := gb275) (o := .cells #[.slice Ao14 t283.length co14] 24 (0, 0)) (by (with_reducible repeat (first | refine blk_drewN ?_ _ | refine blk_drew ?_ | refine blk_alloc ?_ _)); refine blk_far ?_ NB275_333.out _; (with_reducible repeat (first | refine blk_drewN ?_ _ | refine blk_drew ?_ | refine blk_alloc ?_ _)); refine blk_far ?_ NB275_333.out _; (with_reducible repeat (first | refine blk_drewN ?_ _ | refine blk_drew ?_ | refine blk_alloc ?_ _)); refine blk_far ?_ NB275_333.out _; (with_reducible repeat (first | refine blk_drewN ?_ _ | refine blk_drew ?_ | refine blk_alloc ?_ _)); refine blk_far ?_ NB275_333.out _; (with_reducible repeat (first | refine blk_drewN ?_ _ | refine blk_drew ?_ | refine blk_alloc ?_ _)); refine blk_far ?_ NB275_333.out _; (with_reducible repeat (first | refine blk_drewN ?_ _ | refine blk_drew ?_ | refine blk_alloc ?_ _)); exact BK275.out) hb); have n9_ := aA (blk_below (g := gb294) (o := .cells #[.slice Ao24 t286.length co24, .int .i64 t289, .int .i64 t290, .int .i64 t291, .bool t292] 26 (0, 0)) (by (with_reducible repeat (first | refine blk_drewN ?_ _ | refine blk_drew ?_ | refine blk_alloc ?_ _)); refine blk_far ?_ NB294_333.out _; (with_reducible repeat (first | refine blk_drewN ?_ _ | refine blk_drew ?_ | refine blk_alloc ?_ _)); refine blk_far ?_ NB294_333.out _; (with_reducible repeat (first | refine blk_drewN ?_ _ | refine blk_drew ?_ | refine blk_alloc ?_ _)); refine blk_far ?_ NB294_333.out _; (with_reducible repeat (first | refine blk_drewN ?_ _ | refine blk_drew ?_ | refine blk_alloc ?_ _)); refine blk_far ?_ NB294_333.out _; (with_reducible repeat (first | refine blk_drewN ?_ _ | refine blk_drew ?_ | refine blk_alloc ?_ _)); refine blk_far ?_ NB294_333.out _; (with_reducible repeat (first | refine blk_drewN ?_ _ | refine blk_drew ?_ | refine blk_alloc ?_ _)); exact BK294.out) hb); have n10_ := aA (blk_below (g := gb306) (o := .cells #[.slice Ao33 t295.length co33, .int .i64 t298, .int .i64 t299, .int .i64 t300, .bool t301] 26 (0, 0)) (by (with_reducible repeat (first | refine blk_drewN ?_ _ | refine blk_drew ?_ | refine blk_alloc ?_ _)); refine blk_far ?_ NB306_333.out _; (with_reducible repeat (first | refine blk_drewN ?_ _ | refine blk_drew ?_ | refine blk_alloc ?_ _)); refine blk_far ?_ NB306_333.out _; (with_reducible repeat (first | refine blk_drewN ?_ _ | refine blk_drew ?_ | refine blk_alloc ?_ _)); refine blk_far ?_ NB306_333.out _; (with_reducible repeat (first | refine blk_drewN ?_ _ | refine blk_drew ?_ | refine blk_alloc ?_ _)); refine blk_far ?_ NB306_333.out _; (with_reducible repeat (first | refine blk_drewN ?_ _ | refine blk_drew ?_ | refine blk_alloc ?_ _)); refine blk_far ?_ NB306_333.out _; (with_reducible repeat (first | refine blk_drewN ?_ _ | refine blk_drew ?_ | refine blk_alloc ?_ _)); exact BK306.out) hb); have n11_ := aA (blk_below (g := gb307) (o := .cells #[.slice none 0 0, .int .i64 0, .int .i64 0, .int .i64 0, .bool false] 26 (0, 0)) (by (with_reducible repeat (first | refine blk_drewN ?_ _ | refine blk_drew ?_ | refine blk_alloc ?_ _)); refine blk_far ?_ NB307_333.out _; (with_reducible repeat (first | refine blk_drewN ?_ _ | refine blk_drew ?_ | refine blk_alloc ?_ _)); refine blk_far ?_ NB307_333.out _; (with_reducible repeat (first | refine blk_drewN ?_ _ | refine blk_drew ?_ | refine blk_alloc ?_ _)); refine blk_far ?_ NB307_333.out _; (with_reducible repeat (first | refine blk_drewN ?_ _ | refine blk_drew ?_ | refine blk_alloc ?_ _)); refine blk_far ?_ NB307_333.out _; (with_reducible repeat (first | refine blk_drewN ?_ _ | refine blk_drew ?_ | refine blk_alloc ?_ _)); refine blk_far ?_ NB307_333.out _; (with_reducible repeat (first | refine blk_drewN ?_ _ | refine blk_drew ?_ | refine blk_alloc ?_ _)); exact BK307.out) hb); have n12_ := aA (blk_below (g := gb333) (o := .cells #[.slice Ao116 t322.length co116, .int .i64 t325, .int .i64 t326, .int .i64 t327, .bool t328] 26 (0, 0)) (by (with_reducible repeat (first | refine blk_drewN ?_ _ | refine blk_drew ?_ | refine blk_alloc ?_ _)); have h_ := BK333.out; exact pK 4 (pK 3 (pK 2 (pK 1 (pK 0 (h_)))))) hb); have n13_ := aA (below_step (by repeat (first | (with_reducible first | exact HB.out | apply below_alloc | apply pw_below_drewN | apply below_drew1 | refine below_set ?_ GE274.out | refine below_set ?_ GE275.out | refine below_set ?_ GE294.out | refine below_set ?_ GE306.out | refine below_set ?_ GE307.out | refine below_set ?_ GE333.out) | exact HB.out)) hb); clear HO_10 HO_275000 HO_276000 HO_295000 HO_307000 HO324 HO331 BK274 BK275 BK294 BK306 BK307 BK333 HB; have HO_10 := n0_; have HO_275000 := n1_; have HO_276000 := n2_; have HO_295000 := n3_; have HO_307000 := n4_; have HO324 := n5_; have HO331 := n6_; have BK274 := n7_; have BK275 := n8_; have BK294 := n9_; have BK306 := n10_; have BK307 := n11_; have BK333 := n12_; have HB := n13_; clear n0_ n1_ n2_ n3_ n4_ n5_ n6_ n7_ n8_ n9_ n10_ n11_ n12_ n13_; (try clear hb); (try clear hb2); (try clear hk); (try clear hi); obtain ⟨Ao128, co128, eo128⟩ := Kd.R_slice HO_10.out; subst eo128; obtain ⟨Ao129, co129, eo129⟩ := Kd.R_slice HO331.out; subst eo129) | (go_at_call 20; (with_reducible refine (foghornref04_Texts.calls kj60 _ _ t302 _ _ t329 t335 _ ?side1 ?side2 ?side3 ?side4 A106.out).mono ?_); (case side1 => exact mC ((Kd.R_reads' HO_10.out).2.2)); (case side2 => exact (Kd.R_reads' HO_10.out).2.1); (case side3 => exact mC ((Kd.R_reads' HO331.out).2.2)); (case side4 => exact (Kd.R_reads' HO331.out).2.1); rintro e w' ⟨rfl, ⟨nd, rfl⟩⟩))
            go_ret
            exact ⟨by first | rfl | (simp [errW_none, errW_some] <;> rfl) | (simp [*, errW_none, errW_some] <;> rfl), by repeat (first | (with_reducible first | exact HB.out | apply below_alloc | apply pw_below_drewN | apply below_drew1 | refine below_set ?_ GE274.out | refine below_set ?_ GE275.out | refine below_set ?_ GE294.out | refine below_set ?_ GE306.out | refine below_set ?_ GE307.out | refine below_set ?_ GE333.out) | exact HB.out)⟩
           ·replace c105 := Bool.eq_false_iff.mpr c105
            subst c105
            have H1 : (some false) = some r := by rw [if_neg (show ¬ (false = true) by decide)] at H; exact H
            clear H
            have H := H1
            clear H1
            exact absurd (Option.some.inj H) (by rw [hrt_]; decide)
          ·rw [if_neg c103] at H
           have c103b0 : (t305 == 0) = false := beq_eq_false_iff_ne.mpr c103
           have c103b1 : (t305 != 0) = true := bne_iff_ne.mpr c103
           exact absurd (Option.some.inj H) (by rw [hrt_]; decide)
         ·replace c102 := Bool.eq_false_iff.mpr c102
          subst c102
          have H1 : (if t305 = 4 then (if (t302.length : Int) = 0 then ((foghornref04_Same.f kj60 t295 t298 t299 t300 t301 ([] : List ByteArray) 0 0 0 false).bind fun t336 => (some t336)) else (some false)) else (some false)) = some r := by rw [if_neg (show ¬ (false = true) by decide)] at H; exact H
          clear H
          have H := H1
          clear H1
          by_cases c167 : t305 = 4
          ·rw [if_pos c167] at H
           have c167b0 : (t305 == 4) = true := beq_iff_eq.mpr c167
           have c167b1 : (t305 != 4) = false := bne_eq_false_iff_eq.mpr c167
           clear c167
           by_cases c168 : (t302.length : Int) = 0
           ·rw [if_pos c168] at H
            have c168b0 : ((t302.length : Int) == 0) = true := beq_iff_eq.mpr c168
            have c168b1 : ((t302.length : Int) != 0) = false := bne_eq_false_iff_eq.mpr c168
            clear c168
            replace H := Option.bind_eq_some_iff.mp H
            obtain ⟨t336, A1690, H⟩ := H
            have A169 := aA A1690
            clear A1690
            obtain rfl := Option.some.inj H
            have hnb170 := NB275_274.out
            have hnc170 := NB274_275.out
            have hnb171 := NB275_294.out
            have hnc171 := NB294_275.out
            have hnb172 := NB275_306.out
            have hnc172 := NB306_275.out
            have hnb173 := NB275_307.out
            have hnc173 := NB307_275.out
            have hcz174_0 : wc.cell? ⟨gb275, 0, none⟩ = some (.slice Ao14 t283.length co14) := (blk_cell BK275.out 0).trans rfl
            have hfz174_0 := blk_frozen BK275.out 0
            go_wp2_with (first | ((with_reducible refine gate_callee (f := 18) rfl ?_); refine goesL_ (some 72) rfl rfl Try.func18 (by kernel_rfl) rfl #[.agg #[.slice Ao14 t283.length co14]] rfl mS ?_; (with_reducible refine (foghornref04_Log.calls kj60 _ _ t283 true _ ?side1 ?side2 A99.out).mono ?_); (case side1 => exact mC ((Kd.R_reads' HO_276000.out).2.2)); (case side2 => exact (Kd.R_reads' HO_276000.out).2.1); rintro e w175 ⟨rfl, hb⟩; refine ⟨_, rfl, ?_⟩; have n0_ := aA (Kd.R_below (mR HO_10.out) hb); have n1_ := aA (Kd.R_below (mR HO_275000.out) hb); have n2_ := aA (Kd.R_below (mR HO_276000.out) hb); have n3_ := aA (Kd.V_below (by (with_reducible repeat (first | apply Kd.V_alloc | apply Kd.V_drewN | apply Kd.V_drew)); exact HO_295000.out) hb); have n4_ := aA (Kd.V_below (by (with_reducible repeat (first | apply Kd.V_alloc | apply Kd.V_drewN | apply Kd.V_drew)); exact HO_307000.out) hb); have n5_ := aA (bB BK274.out hb); have n6_ := aA (bB BK275.out hb); have n7_ := aA (bB BK294.out hb); have n8_ := aA (bB BK306.out hb); have n9_ := aA (bB BK307.out hb); have n10_ := aA (below_step (by repeat (first | (with_reducible first | exact HB.out | apply below_alloc | apply pw_below_drewN | apply below_drew1 | refine below_set ?_ GE274.out | refine below_set ?_ GE275.out | refine below_set ?_ GE294.out | refine below_set ?_ GE306.out | refine below_set ?_ GE307.out) | exact HB.out)) hb); clear HO_10 HO_275000 HO_276000 HO_295000 HO_307000 BK274 BK275 BK294 BK306 BK307 HB; have HO_10 := n0_; have HO_275000 := n1_; have HO_276000 := n2_; have HO_295000 := n3_; have HO_307000 := n4_; have BK274 := n5_; have BK275 := n6_; have BK294 := n7_; have BK306 := n8_; have BK307 := n9_; have HB := n10_; clear n0_ n1_ n2_ n3_ n4_ n5_ n6_ n7_ n8_ n9_ n10_; (try clear hb); (try clear hb2); (try clear hk); (try clear hi); have hcz176_0 : w175.cell? ⟨gb275, 0, none⟩ = some (.slice Ao14 t283.length co14) := (blk_cell BK275.out 0).trans rfl; have hfz176_0 := blk_frozen BK275.out 0) | ((with_reducible refine gate_callee (f := 19) rfl ?_); refine goesL_ (some 88) rfl rfl Try.func19 (by kernel_rfl) rfl #[.agg #[.slice Ao14 t283.length co14]] rfl mS ?_; (with_reducible refine (foghornref04_Boot.calls kj60 (fun k_ => some k_ = (.slice Ao14 t283.length co14 : Value).ownBlock) _ _ t283 t322 t325 t326 t327 t328 t329 false _ ?side1 A101.out).mono ?_); (case side1 => exact Kd.R_V (Kd.R_tight rfl (Kd.R_types (Kd.R_types (Kd.R_types (Kd.R_types (Kd.R_types (HO_276000.out) BK274.out (by decide)) BK275.out (by decide)) BK294.out (by decide)) BK306.out (by decide)) BK307.out (by decide)))); rintro e w177 ⟨v323, v330, rfl, ho0, ho1, hb⟩; refine ⟨_, rfl, ?_⟩; have n0_ := aA (Kd.R_elder' (mR HO_10.out) (Kd.R_base ho1) hb); have n1_ := aA (Kd.R_elder' (mR HO_275000.out) (Kd.R_base ho1) hb); have n2_ := aA (Kd.R_elder' (mR HO_276000.out) (Kd.R_base ho1) hb); have n3_ := aA (Kd.V_elder' (by (with_reducible repeat (first | apply Kd.V_alloc | apply Kd.V_drewN | apply Kd.V_drew)); exact HO_295000.out) (Kd.R_base ho1) hb); have n4_ := aA (Kd.V_elder' (by (with_reducible repeat (first | apply Kd.V_alloc | apply Kd.V_drewN | apply Kd.V_drew)); exact HO_307000.out) (Kd.R_base ho1) hb); have n5_ := aA (Kd.V_lower (Kd.V_mono (ok' := fun k_ => some k_ ≠ (v330 : Value).ownBlock ∧ some k_ ≠ (v303 : Value).ownBlock ∧ some k_ ≠ (.slice Ao15 t276.length co15 : Value).ownBlock ∧ k_ ≠ gb274 ∧ k_ ≠ gb275 ∧ k_ ≠ gb294 ∧ k_ ≠ gb306 ∧ k_ ≠ gb307) ho0 (fun k_ hk_ => ⟨hk_.2, Or.elim hk_.1 (fun hs_ => ((Kd.R_types (Kd.R_types (Kd.R_types (Kd.R_types (Kd.R_types (HO_276000.out) BK274.out (by decide)) BK275.out (by decide)) BK294.out (by decide)) BK306.out (by decide)) BK307.out (by decide)).1 k_ hs_.symm).1.1.1.1.1.1) (fun hn_ => (Kd.fresh' (Kd.R_lt (mR HO_10.out)) k_ hn_)), Or.elim hk_.1 (fun hs_ => ((Kd.R_types (Kd.R_types (Kd.R_types (Kd.R_types (Kd.R_types (HO_276000.out) BK274.out (by decide)) BK275.out (by decide)) BK294.out (by decide)) BK306.out (by decide)) BK307.out (by decide)).1 k_ hs_.symm).1.1.1.1.1.2) (fun hn_ => (Kd.fresh' (Kd.R_lt (mR HO_275000.out)) k_ hn_)), Or.elim hk_.1 (fun hs_ => ((Kd.R_types (Kd.R_types (Kd.R_types (Kd.R_types (Kd.R_types (HO_276000.out) BK274.out (by decide)) BK275.out (by decide)) BK294.out (by decide)) BK306.out (by decide)) BK307.out (by decide)).1 k_ hs_.symm).1.1.1.1.2) (fun hn_ => (Kd.freshB (g := gb274) (o := .cells #[.slice Ao15 t276.length co15, .int .i64 t279, .int .i64 t280, .int .i64 t281, .bool t282] 26 (0, 0)) (mK BK274.out) k_ hn_)), Or.elim hk_.1 (fun hs_ => ((Kd.R_types (Kd.R_types (Kd.R_types (Kd.R_types (Kd.R_types (HO_276000.out) BK274.out (by decide)) BK275.out (by decide)) BK294.out (by decide)) BK306.out (by decide)) BK307.out (by decide)).1 k_ hs_.symm).1.1.1.2) (fun hn_ => (Kd.freshB (g := gb275) (o := .cells #[.slice Ao14 t283.length co14] 24 (0, 0)) (mK BK275.out) k_ hn_)), Or.elim hk_.1 (fun hs_ => ((Kd.R_types (Kd.R_types (Kd.R_types (Kd.R_types (Kd.R_types (HO_276000.out) BK274.out (by decide)) BK275.out (by decide)) BK294.out (by decide)) BK306.out (by decide)) BK307.out (by decide)).1 k_ hs_.symm).1.1.2) (fun hn_ => (Kd.freshB (g := gb294) (o := .cells #[.slice Ao24 t286.length co24, .int .i64 t289, .int .i64 t290, .int .i64 t291, .bool t292] 26 (0, 0)) (mK BK294.out) k_ hn_)), Or.elim hk_.1 (fun hs_ => ((Kd.R_types (Kd.R_types (Kd.R_types (Kd.R_types (Kd.R_types (HO_276000.out) BK274.out (by decide)) BK275.out (by decide)) BK294.out (by decide)) BK306.out (by decide)) BK307.out (by decide)).1 k_ hs_.symm).1.2) (fun hn_ => (Kd.freshB (g := gb306) (o := .cells #[.slice Ao33 t295.length co33, .int .i64 t298, .int .i64 t299, .int .i64 t300, .bool t301] 26 (0, 0)) (mK BK306.out) k_ hn_)), Or.elim hk_.1 (fun hs_ => ((Kd.R_types (Kd.R_types (Kd.R_types (Kd.R_types (Kd.R_types (HO_276000.out) BK274.out (by decide)) BK275.out (by decide)) BK294.out (by decide)) BK306.out (by decide)) BK307.out (by decide)).1 k_ hs_.symm).2) (fun hn_ => (Kd.freshB (g := gb307) (o := .cells #[.slice none 0 0, .int .i64 0, .int .i64 0, .int .i64 0, .bool false] 26 (0, 0)) (mK BK307.out) k_ hn_))⟩)) (below_size (by repeat (first | (with_reducible first | exact HB.out | apply below_alloc | apply pw_below_drewN | apply below_drew1 | refine below_set ?_ GE274.out | refine below_set ?_ GE275.out | refine below_set ?_ GE294.out | refine below_set ?_ GE306.out | refine below_set ?_ GE307.out) | exact HB.out)))); have n6_ := aA (Kd.R_lower (Kd.R_new' (Kd.R_new' (Kd.R_new' (Kd.R_mono (ok' := fun k_ => True) ho1 (fun _ hk_ => trivial)) (Kd.R_lt (mR HO_10.out))) (Kd.R_lt (mR HO_275000.out))) (Kd.R_lt (mR HO_276000.out))) (below_size (by repeat (first | (with_reducible first | exact HB.out | apply below_alloc | apply pw_below_drewN | apply below_drew1 | refine below_set ?_ GE274.out | refine below_set ?_ GE275.out | refine below_set ?_ GE294.out | refine below_set ?_ GE306.out | refine below_set ?_ GE307.out) | exact HB.out)))); have n7_ := aA (bB BK274.out hb); have n8_ := aA (bB BK275.out hb); have n9_ := aA (bB BK294.out hb); have n10_ := aA (bB BK306.out hb); have n11_ := aA (bB BK307.out hb); have n12_ := aA (below_step (by repeat (first | (with_reducible first | exact HB.out | apply below_alloc | apply pw_below_drewN | apply below_drew1 | refine below_set ?_ GE274.out | refine below_set ?_ GE275.out | refine below_set ?_ GE294.out | refine below_set ?_ GE306.out | refine below_set ?_ GE307.out) | exact HB.out)) hb); clear HO_10 HO_275000 HO_276000 HO_295000 HO_307000 BK274 BK275 BK294 BK306 BK307 HB; have HO_10 := n0_; have HO_275000 := n1_; have HO_276000 := n2_; have HO_295000 := n3_; have HO_307000 := n4_; have HO324 := n5_; have HO331 := n6_; have BK274 := n7_; have BK275 := n8_; have BK294 := n9_; have BK306 := n10_; have BK307 := n11_; have HB := n12_; clear n0_ n1_ n2_ n3_ n4_ n5_ n6_ n7_ n8_ n9_ n10_ n11_ n12_; (try clear hb); (try clear hb2); (try clear hk); (try clear hi); (try clear ho0); (try clear ho1)) | ((with_reducible refine gate_dst (N := 13) rfl ?_); (try (refine gate_guard (by rfl) ?_; dsimp only)); refine box_event ?hg (N := 13) ?hd (cs := #[.slice none 0 0, .int .i64 0, .int .i64 0, .int .i64 0, .bool false]) (t := 26) ?hr ?_; (case hd => rfl); (case hg => rfl); (case hr => first | (go_simp; done) | (go_simp; rfl)); intro gb333 hg w178 hbox hb; have n0_ := aA (Kd.R_below (mR HO_10.out) hb); have n1_ := aA (Kd.R_below (mR HO_275000.out) hb); have n2_ := aA (Kd.R_below (mR HO_276000.out) hb); have n3_ := aA (Kd.V_below (Kd.V_elderB (by (with_reducible repeat (first | apply Kd.V_alloc | apply Kd.V_drewN | apply Kd.V_drew)); exact HO_295000.out) gb333 (Nat.le_of_eq hg.symm)) hb); have n4_ := aA (Kd.V_below (Kd.V_elderB (by (with_reducible repeat (first | apply Kd.V_alloc | apply Kd.V_drewN | apply Kd.V_drew)); exact HO_307000.out) gb333 (Nat.le_of_eq hg.symm)) hb); have n5_ := aA (Kd.V_below (Kd.V_elderB (by (with_reducible repeat (first | apply Kd.V_alloc | apply Kd.V_drewN | apply Kd.V_drew)); exact HO324.out) gb333 (Nat.le_of_eq hg.symm)) hb); have n6_ := aA (Kd.R_below (mR HO331.out) hb); have n7_ := aA (bB BK274.out hb); have n8_ := aA (bB BK275.out hb); have n9_ := aA (bB BK294.out hb); have n10_ := aA (bB BK306.out hb); have n11_ := aA (bB BK307.out hb); have n12_ := aA (below_step (by repeat (first | (with_reducible first | exact HB.out | apply below_alloc | apply pw_below_drewN | apply below_drew1 | refine below_set ?_ GE274.out | refine below_set ?_ GE275.out | refine below_set ?_ GE294.out | refine below_set ?_ GE306.out | refine below_set ?_ GE307.out) | exact HB.out)) hb); have n13_ := aA (hbox); have n14_ := aA ((by rw [hg]; exact (below_size (by repeat (first | (with_reducible first | exact HB.out | apply below_alloc | apply pw_below_drewN | apply below_drew1 | refine below_set ?_ GE274.out | refine below_set ?_ GE275.out | refine below_set ?_ GE294.out | refine below_set ?_ GE306.out | refine below_set ?_ GE307.out) | exact HB.out))) : w.heap.size ≤ gb333)); have n15_ := aA ((by rw [hg]; exact (below_size (by repeat (first | (with_reducible first | exact HB.out | apply below_alloc | apply pw_below_drewN | apply below_drew1 | refine below_set ?_ GE274.out | refine below_set ?_ GE275.out | refine below_set ?_ GE294.out | refine below_set ?_ GE306.out | refine below_set ?_ GE307.out) | exact HB.out))) : w.heap.size ≤ gb333)); have n16_ := aA ((bL hg BK274.out)); have n17_ := aA ((bG hg BK274.out)); have n18_ := aA ((bL hg BK275.out)); have n19_ := aA ((bG hg BK275.out)); have n20_ := aA ((bL hg BK294.out)); have n21_ := aA ((bG hg BK294.out)); have n22_ := aA ((bL hg BK306.out)); have n23_ := aA ((bG hg BK306.out)); have n24_ := aA ((bL hg BK307.out)); have n25_ := aA ((bG hg BK307.out)); clear HO_10 HO_275000 HO_276000 HO_295000 HO_307000 HO324 HO331 BK274 BK275 BK294 BK306 BK307 HB; have HO_10 := n0_; have HO_275000 := n1_; have HO_276000 := n2_; have HO_295000 := n3_; have HO_307000 := n4_; have HO324 := n5_; have HO331 := n6_; have BK274 := n7_; have BK275 := n8_; have BK294 := n9_; have BK306 := n10_; have BK307 := n11_; have HB := n12_; have BK333 := n13_; have GW333 := n14_; have GE333 := n15_; have NB274_333 := n16_; have NB333_274 := n17_; have NB275_333 := n18_; have NB333_275 := n19_; have NB294_333 := n20_; have NB333_294 := n21_; have NB306_333 := n22_; have NB333_306 := n23_; have NB307_333 := n24_; have NB333_307 := n25_; clear n0_ n1_ n2_ n3_ n4_ n5_ n6_ n7_ n8_ n9_ n10_ n11_ n12_ n13_ n14_ n15_ n16_ n17_ n18_ n19_ n20_ n21_ n22_ n23_ n24_ n25_ hb hbox hg; obtain ⟨Ao179, co179, eo179⟩ := Kd.V_slice HO324.out; subst eo179; have hnb180 := NB333_274.out; have hnc180 := NB274_333.out; have hnb181 := NB333_275.out; have hnc181 := NB275_333.out; have hnb182 := NB333_294.out; have hnc182 := NB294_333.out; have hnb183 := NB333_306.out; have hnc183 := NB306_333.out; have hnb184 := NB333_307.out; have hnc184 := NB307_333.out; obtain ⟨hcz185_0, hcz185_1, hcz185_2, hcz185_3, hcz185_4⟩ := bC5 BK333.out; obtain ⟨hfz185_0, hfz185_1, hfz185_2, hfz185_3, hfz185_4⟩ := bF5 BK333.out; obtain ⟨Ao186, co186, eo186⟩ := Kd.R_slice HO_10.out; subst eo186; have hnb187 := NB306_274.out; have hnc187 := NB274_306.out; have hnb188 := NB306_294.out; have hnc188 := NB294_306.out; have hnb189 := NB306_307.out; have hnc189 := NB307_306.out; obtain ⟨hcz190_0, hcz190_1, hcz190_2, hcz190_3, hcz190_4⟩ := bC5 BK306.out; obtain ⟨hfz190_0, hfz190_1, hfz190_2, hfz190_3, hfz190_4⟩ := bF5 BK306.out; have hnb191 := NB307_274.out; have hnc191 := NB274_307.out; have hnb192 := NB307_294.out; have hnc192 := NB294_307.out; obtain ⟨hcz193_0, hcz193_1, hcz193_2, hcz193_3, hcz193_4⟩ := bC5 BK307.out; obtain ⟨hfz193_0, hfz193_1, hfz193_2, hfz193_3, hfz193_4⟩ := bF5 BK307.out) | (go_at_call 16; (refine (foghornref04_Same.calls kj60 _ _ t295 t298 t299 t300 t301 _ _ ([] : List ByteArray) 0 0 0 false t336 _ ?side1 ?side2 ?side3 ?side4 A169.out).mono ?_); (case side1 => refine (Kd.V_reads' (e := 9) (base := w.heap.size) (ok := fun k_ => (((some k_ ≠ (.slice Ao186 t302.length co186 : Value).ownBlock ∧ (some k_ ≠ (.slice Ao15 t276.length co15 : Value).ownBlock ∧ (k_ ≠ gb274 ∧ (k_ ≠ gb275 ∧ (k_ ≠ gb294 ∧ (k_ ≠ gb306 ∧ k_ ≠ gb307)))))) ∧ some k_ ≠ (v330 : Value).ownBlock) ∧ k_ ≠ gb333)) (n := t295.length) (c := co33) ?_).2.2; exact (by (with_reducible repeat (first | apply Kd.V_alloc | apply Kd.V_drewN | apply Kd.V_drew)); exact (Kd.V_mono (Kd.V_far (p := ⟨gb333, 4, none⟩) (Kd.V_far (p := ⟨gb333, 3, none⟩) (Kd.V_far (p := ⟨gb333, 2, none⟩) (Kd.V_far (p := ⟨gb333, 1, none⟩) (Kd.V_far (p := ⟨gb333, 0, none⟩) (Kd.V_mono HO_307000.out (fun k_ hk => (⟨hk, hk.2⟩ : _ ∧ k_ ≠ gb333))) (fun _ hk => hk.2) (.slice Ao179 t322.length co179)) (fun _ hk => hk.2) (.int .i64 t325)) (fun _ hk => hk.2) (.int .i64 t326)) (fun _ hk => hk.2) (.int .i64 t327)) (fun _ hk => hk.2) (.bool t328)) (fun _ h_ => h_.1)))); (case side2 => exact (Kd.V_reads' HO_307000.out).2.1); (case side3 => exact Kd.C_nil _ _); (case side4 => exact Nat.le_refl _); rintro e w194 ⟨rfl, hb⟩; have n0_ := aA (Kd.R_below (by (with_reducible repeat (first | apply Kd.R_alloc | apply Kd.R_drewN | apply Kd.R_drew)); exact (Kd.R_mono (rF 4 (rF 3 (rF 2 (rF 1 (rF 0 (Kd.R_types HO_10.out BK333.out (by decide))))))) (fun _ h_ => h_.1))) hb); have n1_ := aA (Kd.R_below (by (with_reducible repeat (first | apply Kd.R_alloc | apply Kd.R_drewN | apply Kd.R_drew)); exact (Kd.R_mono (rF 4 (rF 3 (rF 2 (rF 1 (rF 0 (Kd.R_types HO_275000.out BK333.out (by decide))))))) (fun _ h_ => h_.1))) hb); have n2_ := aA (Kd.R_below (by (with_reducible repeat (first | apply Kd.R_alloc | apply Kd.R_drewN | apply Kd.R_drew)); exact (Kd.R_mono (rF 4 (rF 3 (rF 2 (rF 1 (rF 0 (Kd.R_types HO_276000.out BK333.out (by decide))))))) (fun _ h_ => h_.1))) hb); have n3_ := aA (Kd.V_below (by (with_reducible repeat (first | apply Kd.V_alloc | apply Kd.V_drewN | apply Kd.V_drew)); exact (Kd.V_mono (Kd.V_far (p := ⟨gb333, 4, none⟩) (Kd.V_far (p := ⟨gb333, 3, none⟩) (Kd.V_far (p := ⟨gb333, 2, none⟩) (Kd.V_far (p := ⟨gb333, 1, none⟩) (Kd.V_far (p := ⟨gb333, 0, none⟩) (Kd.V_mono HO_295000.out (fun k_ hk => (⟨hk, hk.2⟩ : _ ∧ k_ ≠ gb333))) (fun _ hk => hk.2) (.slice Ao179 t322.length co179)) (fun _ hk => hk.2) (.int .i64 t325)) (fun _ hk => hk.2) (.int .i64 t326)) (fun _ hk => hk.2) (.int .i64 t327)) (fun _ hk => hk.2) (.bool t328)) (fun _ h_ => h_.1))) hb); have n4_ := aA (Kd.V_below (by (with_reducible repeat (first | apply Kd.V_alloc | apply Kd.V_drewN | apply Kd.V_drew)); exact (Kd.V_mono (Kd.V_far (p := ⟨gb333, 4, none⟩) (Kd.V_far (p := ⟨gb333, 3, none⟩) (Kd.V_far (p := ⟨gb333, 2, none⟩) (Kd.V_far (p := ⟨gb333, 1, none⟩) (Kd.V_far (p := ⟨gb333, 0, none⟩) (Kd.V_mono HO_307000.out (fun k_ hk => (⟨hk, hk.2⟩ : _ ∧ k_ ≠ gb333))) (fun _ hk => hk.2) (.slice Ao179 t322.length co179)) (fun _ hk => hk.2) (.int .i64 t325)) (fun _ hk => hk.2) (.int .i64 t326)) (fun _ hk => hk.2) (.int .i64 t327)) (fun _ hk => hk.2) (.bool t328)) (fun _ h_ => h_.1))) hb); have n5_ := aA (Kd.V_below (by (with_reducible repeat (first | apply Kd.V_alloc | apply Kd.V_drewN | apply Kd.V_drew)); exact (Kd.V_mono (Kd.V_far (p := ⟨gb333, 4, none⟩) (Kd.V_far (p := ⟨gb333, 3, none⟩) (Kd.V_far (p := ⟨gb333, 2, none⟩) (Kd.V_far (p := ⟨gb333, 1, none⟩) (Kd.V_far (p := ⟨gb333, 0, none⟩) (Kd.V_mono HO324.out (fun k_ hk => (⟨hk, hk.2⟩ : _ ∧ k_ ≠ gb333))) (fun _ hk => hk.2) (.slice Ao179 t322.length co179)) (fun _ hk => hk.2) (.int .i64 t325)) (fun _ hk => hk.2) (.int .i64 t326)) (fun _ hk => hk.2) (.int .i64 t327)) (fun _ hk => hk.2) (.bool t328)) (fun _ h_ => h_.1))) hb); have n6_ := aA (Kd.R_below (by (with_reducible repeat (first | apply Kd.R_alloc | apply Kd.R_drewN | apply Kd.R_drew)); exact (Kd.R_mono (rF 4 (rF 3 (rF 2 (rF 1 (rF 0 (Kd.R_types HO331.out BK333.out (by decide))))))) (fun _ h_ => h_.1))) hb); have n7_ := aA (blk_below (g := gb274) (o := .cells #[.slice Ao15 t276.length co15, .int .i64 t279, .int .i64 t280, .int .i64 t281, .bool t282] 26 (0, 0)) (by (with_reducible repeat (first | refine blk_drewN ?_ _ | refine blk_drew ?_ | refine blk_alloc ?_ _)); refine blk_far ?_ NB274_333.out _; (with_reducible repeat (first | refine blk_drewN ?_ _ | refine blk_drew ?_ | refine blk_alloc ?_ _)); refine blk_far ?_ NB274_333.out _; (with_reducible repeat (first | refine blk_drewN ?_ _ | refine blk_drew ?_ | refine blk_alloc ?_ _)); refine blk_far ?_ NB274_333.out _; (with_reducible repeat (first | refine blk_drewN ?_ _ | refine blk_drew ?_ | refine blk_alloc ?_ _)); refine blk_far ?_ NB274_333.out _; (with_reducible repeat (first | refine blk_drewN ?_ _ | refine blk_drew ?_ | refine blk_alloc ?_ _)); refine blk_far ?_ NB274_333.out _; (with_reducible repeat (first | refine blk_drewN ?_ _ | refine blk_drew ?_ | refine blk_alloc ?_ _)); exact BK274.out) hb); have n8_ := aA (blk_below (g := gb275) (o := .cells #[.slice Ao14 t283.length co14] 24 (0, 0)) (by (with_reducible repeat (first | refine blk_drewN ?_ _ | refine blk_drew ?_ | refine blk_alloc ?_ _)); refine blk_far ?_ NB275_333.out _; (with_reducible repeat (first | refine blk_drewN ?_ _ | refine blk_drew ?_ | refine blk_alloc ?_ _)); refine blk_far ?_ NB275_333.out _; (with_reducible repeat (first | refine blk_drewN ?_ _ | refine blk_drew ?_ | refine blk_alloc ?_ _)); refine blk_far ?_ NB275_333.out _; (with_reducible repeat (first | refine blk_drewN ?_ _ | refine blk_drew ?_ | refine blk_alloc ?_ _)); refine blk_far ?_ NB275_333.out _; (with_reducible repeat (first | refine blk_drewN ?_ _ | refine blk_drew ?_ | refine blk_alloc ?_ _)); refine blk_far ?_ NB275_333.out _; (with_reducible repeat (first | refine blk_drewN ?_ _ | refine blk_drew ?_ | refine blk_alloc ?_ _)); exact BK275.out) hb); have n9_ := aA (blk_below (g := gb294) (o := .cells #[.slice Ao24 t286.length co24, .int .i64 t289, .int .i64 t290, .int .i64 t291, .bool t292] 26 (0, 0)) (by (with_reducible repeat (first | refine blk_drewN ?_ _ | refine blk_drew ?_ | refine blk_alloc ?_ _)); refine blk_far ?_ NB294_333.out _; (with_reducible repeat (first | refine blk_drewN ?_ _ | refine blk_drew ?_ | refine blk_alloc ?_ _)); refine blk_far ?_ NB294_333.out _; (with_reducible repeat (first | refine blk_drewN ?_ _ | refine blk_drew ?_ | refine blk_alloc ?_ _)); refine blk_far ?_ NB294_333.out _; (with_reducible repeat (first | refine blk_drewN ?_ _ | refine blk_drew ?_ | refine blk_alloc ?_ _)); refine blk_far ?_ NB294_333.out _; (with_reducible repeat (first | refine blk_drewN ?_ _ | refine blk_drew ?_ | refine blk_alloc ?_ _)); refine blk_far ?_ NB294_333.out _; (with_reducible repeat (first | refine blk_drewN ?_ _ | refine blk_drew ?_ | refine blk_alloc ?_ _)); exact BK294.out) hb); have n10_ := aA (blk_below (g := gb306) (o := .cells #[.slice Ao33 t295.length co33, .int .i64 t298, .int .i64 t299, .int .i64 t300, .bool t301] 26 (0, 0)) (by (with_reducible repeat (first | refine blk_drewN ?_ _ | refine blk_drew ?_ | refine blk_alloc ?_ _)); refine blk_far ?_ NB306_333.out _; (with_reducible repeat (first | refine blk_drewN ?_ _ | refine blk_drew ?_ | refine blk_alloc ?_ _)); refine blk_far ?_ NB306_333.out _; (with_reducible repeat (first | refine blk_drewN ?_ _ | refine blk_drew ?_ | refine blk_alloc ?_ _)); refine blk_far ?_ NB306_333.out _; (with_reducible repeat (first | refine blk_drewN ?_ _ | refine blk_drew ?_ | refine blk_alloc ?_ _)); refine blk_far ?_ NB306_333.out _; (with_reducible repeat (first | refine blk_drewN ?_ _ | refine blk_drew ?_ | refine blk_alloc ?_ _)); refine blk_far ?_ NB306_333.out _; (with_reducible repeat (first | refine blk_drewN ?_ _ | refine blk_drew ?_ | refine blk_alloc ?_ _)); exact BK306.out) hb); have n11_ := aA (blk_below (g := gb307) (o := .cells #[.slice none 0 0, .int .i64 0, .int .i64 0, .int .i64 0, .bool false] 26 (0, 0)) (by (with_reducible repeat (first | refine blk_drewN ?_ _ | refine blk_drew ?_ | refine blk_alloc ?_ _)); refine blk_far ?_ NB307_333.out _; (with_reducible repeat (first | refine blk_drewN ?_ _ | refine blk_drew ?_ | refine blk_alloc ?_ _)); refine blk_far ?_ NB307_333.out _; (with_reducible repeat (first | refine blk_drewN ?_ _ | refine blk_drew ?_ | refine blk_alloc ?_ _)); refine blk_far ?_ NB307_333.out _; (with_reducible repeat (first | refine blk_drewN ?_ _ | refine blk_drew ?_ | refine blk_alloc ?_ _)); refine blk_far ?_ NB307_333.out _; (with_reducible repeat (first | refine blk_drewN ?_ _ | refine blk_drew ?_ | refine blk_alloc ?_ _)); refine blk_far ?_ NB307_333.out _; (with_reducible repeat (first | refine blk_drewN ?_ _ | refine blk_drew ?_ | refine blk_alloc ?_ _)); exact BK307.out) hb); have n12_ := aA (blk_below (g := gb333) (o := .cells #[.slice Ao179 t322.length co179, .int .i64 t325, .int .i64 t326, .int .i64 t327, .bool t328] 26 (0, 0)) (by (with_reducible repeat (first | refine blk_drewN ?_ _ | refine blk_drew ?_ | refine blk_alloc ?_ _)); have h_ := BK333.out; exact pK 4 (pK 3 (pK 2 (pK 1 (pK 0 (h_)))))) hb); have n13_ := aA (below_step (by repeat (first | (with_reducible first | exact HB.out | apply below_alloc | apply pw_below_drewN | apply below_drew1 | refine below_set ?_ GE274.out | refine below_set ?_ GE275.out | refine below_set ?_ GE294.out | refine below_set ?_ GE306.out | refine below_set ?_ GE307.out | refine below_set ?_ GE333.out) | exact HB.out)) hb); clear HO_10 HO_275000 HO_276000 HO_295000 HO_307000 HO324 HO331 BK274 BK275 BK294 BK306 BK307 BK333 HB; have HO_10 := n0_; have HO_275000 := n1_; have HO_276000 := n2_; have HO_295000 := n3_; have HO_307000 := n4_; have HO324 := n5_; have HO331 := n6_; have BK274 := n7_; have BK275 := n8_; have BK294 := n9_; have BK306 := n10_; have BK307 := n11_; have BK333 := n12_; have HB := n13_; clear n0_ n1_ n2_ n3_ n4_ n5_ n6_ n7_ n8_ n9_ n10_ n11_ n12_ n13_; (try clear hb); (try clear hb2); (try clear hk); (try clear hi)))
            go_ret
            exact ⟨by first | rfl | (simp [errW_none, errW_some] <;> rfl) | (simp [*, errW_none, errW_some] <;> rfl), by repeat (first | (with_reducible first | exact HB.out | apply below_alloc | apply pw_below_drewN | apply below_drew1 | refine below_set ?_ GE274.out | refine below_set ?_ GE275.out | refine below_set ?_ GE294.out | refine below_set ?_ GE306.out | refine below_set ?_ GE307.out | refine below_set ?_ GE333.out) | exact HB.out)⟩
           ·rw [if_neg c168] at H
            have c168b0 : ((t302.length : Int) == 0) = false := beq_eq_false_iff_ne.mpr c168
            have c168b1 : ((t302.length : Int) != 0) = true := bne_iff_ne.mpr c168
            have c168b2 : ¬ (t302 = []) := fun h_ => c168 (by rw [h_]; rfl)
            exact absurd (Option.some.inj H) (by rw [hrt_]; decide)
          ·rw [if_neg c167] at H
           have c167b0 : (t305 == 4) = false := beq_eq_false_iff_ne.mpr c167
           have c167b1 : (t305 != 4) = true := bne_iff_ne.mpr c167
           exact absurd (Option.some.inj H) (by rw [hrt_]; decide)
        ·replace c100 := Bool.eq_false_iff.mpr c100
         subst c100
         have H1 : (if t305 = 1 then (if (t302.length : Int) = 0 then ((foghornref04_Same.f kj60 t295 t298 t299 t300 t301 ([] : List ByteArray) 0 0 0 false).bind fun t321 => (some t321)) else (some false)) else (some false)) = some r := by rw [if_neg (show ¬ (false = true) by decide)] at H; exact H
         clear H
         have H := H1
         clear H1
         by_cases c228 : t305 = 1
         ·rw [if_pos c228] at H
          have c228b0 : (t305 == 1) = true := beq_iff_eq.mpr c228
          have c228b1 : (t305 != 1) = false := bne_eq_false_iff_eq.mpr c228
          clear c228
          by_cases c229 : (t302.length : Int) = 0
          ·rw [if_pos c229] at H
           have c229b0 : ((t302.length : Int) == 0) = true := beq_iff_eq.mpr c229
           have c229b1 : ((t302.length : Int) != 0) = false := bne_eq_false_iff_eq.mpr c229
           clear c229
           replace H := Option.bind_eq_some_iff.mp H
           obtain ⟨t321, A2300, H⟩ := H
           have A230 := aA A2300
           clear A2300
           obtain rfl := Option.some.inj H
           have hnb231 := NB275_274.out
           have hnc231 := NB274_275.out
           have hnb232 := NB275_294.out
           have hnc232 := NB294_275.out
           have hnb233 := NB275_306.out
           have hnc233 := NB306_275.out
           have hnb234 := NB275_307.out
           have hnc234 := NB307_275.out
           have hcz235_0 : wc.cell? ⟨gb275, 0, none⟩ = some (.slice Ao14 t283.length co14) := (blk_cell BK275.out 0).trans rfl
           have hfz235_0 := blk_frozen BK275.out 0
           go_wp2_with (first | ((with_reducible refine gate_callee (f := 18) rfl ?_); refine goesL_ (some 72) rfl rfl Try.func18 (by kernel_rfl) rfl #[.agg #[.slice Ao14 t283.length co14]] rfl mS ?_; (with_reducible refine (foghornref04_Log.calls kj60 _ _ t283 false _ ?side1 ?side2 A99.out).mono ?_); (case side1 => exact mC ((Kd.R_reads' HO_276000.out).2.2)); (case side2 => exact (Kd.R_reads' HO_276000.out).2.1); rintro e w236 ⟨rfl, hb⟩; refine ⟨_, rfl, ?_⟩; have n0_ := aA (Kd.R_below (mR HO_10.out) hb); have n1_ := aA (Kd.R_below (mR HO_275000.out) hb); have n2_ := aA (Kd.R_below (mR HO_276000.out) hb); have n3_ := aA (Kd.V_below (by (with_reducible repeat (first | apply Kd.V_alloc | apply Kd.V_drewN | apply Kd.V_drew)); exact HO_295000.out) hb); have n4_ := aA (Kd.V_below (by (with_reducible repeat (first | apply Kd.V_alloc | apply Kd.V_drewN | apply Kd.V_drew)); exact HO_307000.out) hb); have n5_ := aA (bB BK274.out hb); have n6_ := aA (bB BK275.out hb); have n7_ := aA (bB BK294.out hb); have n8_ := aA (bB BK306.out hb); have n9_ := aA (bB BK307.out hb); have n10_ := aA (below_step (by repeat (first | (with_reducible first | exact HB.out | apply below_alloc | apply pw_below_drewN | apply below_drew1 | refine below_set ?_ GE274.out | refine below_set ?_ GE275.out | refine below_set ?_ GE294.out | refine below_set ?_ GE306.out | refine below_set ?_ GE307.out) | exact HB.out)) hb); clear HO_10 HO_275000 HO_276000 HO_295000 HO_307000 BK274 BK275 BK294 BK306 BK307 HB; have HO_10 := n0_; have HO_275000 := n1_; have HO_276000 := n2_; have HO_295000 := n3_; have HO_307000 := n4_; have BK274 := n5_; have BK275 := n6_; have BK294 := n7_; have BK306 := n8_; have BK307 := n9_; have HB := n10_; clear n0_ n1_ n2_ n3_ n4_ n5_ n6_ n7_ n8_ n9_ n10_; (try clear hb); (try clear hb2); (try clear hk); (try clear hi); obtain ⟨Ao237, co237, eo237⟩ := Kd.R_slice HO_10.out; subst eo237; have hnb238 := NB306_274.out; have hnc238 := NB274_306.out; have hnb239 := NB306_294.out; have hnc239 := NB294_306.out; have hnb240 := NB306_307.out; have hnc240 := NB307_306.out; obtain ⟨hcz241_0, hcz241_1, hcz241_2, hcz241_3, hcz241_4⟩ := bC5 BK306.out; obtain ⟨hfz241_0, hfz241_1, hfz241_2, hfz241_3, hfz241_4⟩ := bF5 BK306.out; have hnb242 := NB307_274.out; have hnc242 := NB274_307.out; have hnb243 := NB307_294.out; have hnc243 := NB294_307.out; obtain ⟨hcz244_0, hcz244_1, hcz244_2, hcz244_3, hcz244_4⟩ := bC5 BK307.out; obtain ⟨hfz244_0, hfz244_1, hfz244_2, hfz244_3, hfz244_4⟩ := bF5 BK307.out) | (go_at_call 16; (refine (foghornref04_Same.calls kj60 _ _ t295 t298 t299 t300 t301 _ _ ([] : List ByteArray) 0 0 0 false t321 _ ?side1 ?side2 ?side3 ?side4 A230.out).mono ?_); (case side1 => exact mC ((Kd.V_reads' HO_307000.out).2.2)); (case side2 => exact (Kd.V_reads' HO_307000.out).2.1); (case side3 => exact Kd.C_nil _ _); (case side4 => exact Nat.le_refl _); rintro e w245 ⟨rfl, hb⟩; have n0_ := aA (Kd.R_below (mR HO_10.out) hb); have n1_ := aA (Kd.R_below (mR HO_275000.out) hb); have n2_ := aA (Kd.R_below (mR HO_276000.out) hb); have n3_ := aA (Kd.V_below (by (with_reducible repeat (first | apply Kd.V_alloc | apply Kd.V_drewN | apply Kd.V_drew)); exact HO_295000.out) hb); have n4_ := aA (Kd.V_below (by (with_reducible repeat (first | apply Kd.V_alloc | apply Kd.V_drewN | apply Kd.V_drew)); exact HO_307000.out) hb); have n5_ := aA (bB BK274.out hb); have n6_ := aA (bB BK275.out hb); have n7_ := aA (bB BK294.out hb); have n8_ := aA (bB BK306.out hb); have n9_ := aA (bB BK307.out hb); have n10_ := aA (below_step (by repeat (first | (with_reducible first | exact HB.out | apply below_alloc | apply pw_below_drewN | apply below_drew1 | refine below_set ?_ GE274.out | refine below_set ?_ GE275.out | refine below_set ?_ GE294.out | refine below_set ?_ GE306.out | refine below_set ?_ GE307.out) | exact HB.out)) hb); clear HO_10 HO_275000 HO_276000 HO_295000 HO_307000 BK274 BK275 BK294 BK306 BK307 HB; have HO_10 := n0_; have HO_275000 := n1_; have HO_276000 := n2_; have HO_295000 := n3_; have HO_307000 := n4_; have BK274 := n5_; have BK275 := n6_; have BK294 := n7_; have BK306 := n8_; have BK307 := n9_; have HB := n10_; clear n0_ n1_ n2_ n3_ n4_ n5_ n6_ n7_ n8_ n9_ n10_; (try clear hb); (try clear hb2); (try clear hk); (try clear hi)))
           go_ret
           exact ⟨by first | rfl | (simp [errW_none, errW_some] <;> rfl) | (simp [*, errW_none, errW_some] <;> rfl), by repeat (first | (with_reducible first | exact HB.out | apply below_alloc | apply pw_below_drewN | apply below_drew1 | refine below_set ?_ GE274.out | refine below_set ?_ GE275.out | refine below_set ?_ GE294.out | refine below_set ?_ GE306.out | refine below_set ?_ GE307.out) | exact HB.out)⟩
          ·rw [if_neg c229] at H
           have c229b0 : ((t302.length : Int) == 0) = false := beq_eq_false_iff_ne.mpr c229
           have c229b1 : ((t302.length : Int) != 0) = true := bne_iff_ne.mpr c229
           have c229b2 : ¬ (t302 = []) := fun h_ => c229 (by rw [h_]; rfl)
           exact absurd (Option.some.inj H) (by rw [hrt_]; decide)
         ·rw [if_neg c228] at H
          have c228b0 : (t305 == 1) = false := beq_eq_false_iff_ne.mpr c228
          have c228b1 : (t305 != 1) = true := bne_iff_ne.mpr c228
          exact absurd (Option.some.inj H) (by rw [hrt_]; decide)
end Go.Proofs.YtopaddpclipnjaaQ.P
namespace Go.Proofs.YtopaddpclipnjaaQ.P
open Go.RowKit Go.Proofs.YtopaddpclipnjaaW.PrintWords Go.Proofs.YtopaddpclipnjaaW.PrintLast Go.Proofs.YtopaddpclipnjaaW.PrintMore
attribute [local go_sem] max2_int min2_int max_two min_two max_three min_three max_four min_four
def foghornref04_Append.T1 : Bool × List (List Nat × List Nat) := (true, [([], []), ([], []), ([1], [1]), ([], []), ([3], [3]), ([], []), ([5], [5]), ([2, 4, 6], [2, 4, 6]), ([], []), ([8], [8]), ([], []), ([10], [10]), ([11], [11]), ([], []), ([9, 12, 13, 7], [9, 12, 13]), ([], []), ([0, 7, 14, 15, 14], [0, 7, 14, 15]), ([16], [16]), ([17], [17]), ([17], [17]), ([], []), ([20, 18, 16, 0, 1, 2, 3, 4, 5, 6, 7, 8, 9, 10, 11, 12, 13, 14, 15, 16, 17, 18, 20], [18, 20]), ([19, 21, 0, 1, 2, 3, 4, 5, 6, 7, 8, 9, 10, 11, 12, 13, 14, 15, 16, 17, 18, 19, 20, 21], [19])])
def foghornref04_Append.B1 : List Nat := [0, 0, 2, 0, 8, 0, 32, 126, 0, 256, 0, 1024, 3072, 0, 16382, 0, 65535, 131071, 262143, 262143, 0, 1572863, 4194303]
theorem foghornref04_Append.tab1 : rtab .any (opsOf Try.f25 1) = foghornref04_Append.T1 := by kernel_rfl
theorem foghornref04_Append.bits1 : waitsOk foghornref04_Append.T1.2 foghornref04_Append.B1 = true := by kernel_rfl
end Go.Proofs.YtopaddpclipnjaaQ.P
namespace Go.Proofs.YtopaddpclipnjaaQ.P
open Go.RowKit Go.Proofs.YtopaddpclipnjaaW.PrintWords Go.Proofs.YtopaddpclipnjaaW.PrintMore Go.Proofs.Ytopaddpclipnjaa
theorem over_ext {X T : ByteArray} (hX : X.size = 128) (hT : T.size = 128) {k : Nat} (hk : k ≤ 128) : T.extract 0 k ++ X.extract k X.size = over X T k := by
  apply bytes_ext
  rw [over_list, ByteArray.data_append, Array.toList_append, ext_list, ext_list, List.drop_zero, Nat.sub_zero]
  have h2 : (X.data.toList.drop k).take (X.size - k) = X.data.toList.drop k := List.take_of_length_le (by rw [List.length_drop, len_data]; omega)
  rw [h2]
theorem rtear_l {xs : List ByteArray} (hlog : logB xs = true) {q : Int} (q0 : 0 ≤ q) (q1 : q < xs.length) {T : ByteArray} (hT : T.size = 128) {kk : Int} (k0 : 0 ≤ kk) (k1 : kk ≤ 128) (d : Nat) : ∀ (k i : Nat) (acc : List ByteArray), i + d = xs.length → d < k → acc.length = i →
    foghornref02_Tear.l0 k q T kk acc xs (xs.length : Int) i = some (acc ++ (xs.set q.toNat (over (sec xs q) T kk.toNat)).drop i) := by
  obtain ⟨n1, n2, _, hsz, _, _, hlen, a1, a2⟩ := logB_nums hlog
  induction d with
  | zero =>
    intro k i acc h hk ha
    obtain ⟨k, rfl⟩ : ∃ m, k = m + 1 := ⟨k - 1, by omega⟩
    simp only [foghornref02_Tear.l0]
    rw [if_neg (by omega), drop_end (by rw [List.length_set]; omega), List.append_nil]
  | succ d ih =>
    intro k i acc h hk ha
    obtain ⟨k, rfl⟩ : ∃ m, k = m + 1 := ⟨k - 1, by omega⟩
    have hi : i < xs.length := by omega
    have hs : (sec xs i).size = 128 := sec_size hlog (by omega) (by omega)
    have hd : (xs.set q.toNat (over (sec xs q) T kk.toNat)).drop i = (if (i : Int) = q then over (sec xs q) T kk.toNat else sec xs i) :: (xs.set q.toNat (over (sec xs q) T kk.toNat)).drop (i + 1) := by
      have hi2 : i < (xs.set q.toNat (over (sec xs q) T kk.toNat)).length := by rw [List.length_set]; exact hi
      rw [drop_cons hi2, ← sec_get hi2, sec_set q0 q1 i (by omega)]
    simp only [foghornref02_Tear.l0]
    rw [if_pos (by omega), if_pos (by omega), if_pos (by omega), rd_sec, w64s (by omega), hd]
    by_cases e : (i : Int) = q
    · have hz : (T.extract 0 (kk : Int).toNat).size + ((sec xs i).extract (kk : Int).toNat (sec xs i).size).size ≤ 9223372036854775807 := by
        rw [ByteArray.size_extract, ByteArray.size_extract]
        omega
      rw [if_pos e, if_pos k0, if_pos (by omega), if_pos (by omega), if_pos hz, if_pos (by omega), over_ext hs hT (by omega), ih k (i + 1) _ (by omega) (by omega) (by simp; omega), if_pos e, e]
      simp only [List.append_assoc, List.singleton_append]
    · rw [if_neg e, if_pos (by omega), ih k (i + 1) _ (by omega) (by omega) (by simp; omega), if_neg e]
      simp only [List.append_assoc, List.singleton_append]
theorem rtear_f {xs : List ByteArray} (hlog : logB xs = true) {q : Int} (q0 : 0 ≤ q) (q1 : q < xs.length) {T : ByteArray} (hT : T.size = 128) {kk : Int} (k0 : 0 ≤ kk) (k1 : kk ≤ 128) {k : Nat} (hk : 140 < k) :
    foghornref02_Tear.f k xs q T kk = some (tearL xs q T kk) := by
  have := (logB_nums hlog).2.1
  unfold foghornref02_Tear.f
  rw [tearL_set hlog q0 q1 hT k0 k1]
  have := rtear_l hlog q0 q1 hT k0 k1 xs.length k 0 [] (by omega) (by omega) rfl
  simpa using this
theorem rwrite_f {xs : List ByteArray} (hlog : logB xs = true) {q : Int} (q0 : 0 ≤ q) (q1 : q < xs.length) {T : ByteArray} (hT : T.size = 128) {k : Nat} (hk : 140 < k) :
    foghornref02_Write.f k xs q T = some (tearL xs q T 128) := by
  unfold foghornref02_Write.f
  rw [rtear_f hlog q0 q1 hT (by omega) (by omega) hk]
  rfl
theorem zeros_l (d : Nat) : ∀ (k i : Nat) (x : ByteArray), i + d = 128 → d < k → x = ⟨(zeros i).toArray⟩ → foghornref02_Zeros.l0 k 128 x i = some z128 := by
  induction d with
  | zero =>
    intro k i x h hk hx
    obtain ⟨k, rfl⟩ : ∃ m, k = m + 1 := ⟨k - 1, by omega⟩
    obtain rfl : i = 128 := by omega
    simp only [foghornref02_Zeros.l0]
    rw [if_neg (by omega), hx]
    rfl
  | succ d ih =>
    intro k i x h hk hx
    obtain ⟨k, rfl⟩ : ∃ m, k = m + 1 := ⟨k - 1, by omega⟩
    have hs : x.size = i := by rw [hx, ← len_data]; exact zeros_len i
    simp only [foghornref02_Zeros.l0]
    rw [if_pos (by omega), if_pos (by omega), w64s (by omega)]
    refine ih k (i + 1) _ (by omega) (by omega) ?_
    rw [hx]
    apply bytes_ext
    rw [ByteArray.data_append, Array.toList_append, zeros_add]
    rfl
theorem zeros_f {k : Nat} (hk : 130 < k) : foghornref02_Zeros.f k 128 = some z128 := by
  unfold foghornref02_Zeros.f
  exact zeros_l 128 k 0 _ (by omega) (by omega) rfl
theorem rnew_l {n : Nat} (hn : n ≤ 1000) (d : Nat) : ∀ (k i : Nat), i + d = n → d + 135 < k → foghornref02_New.l0 k n i (List.replicate i z128) = some (List.replicate n z128) := by
  induction d with
  | zero =>
    intro k i h hk
    obtain ⟨k, rfl⟩ : ∃ m, k = m + 1 := ⟨k - 1, by omega⟩
    obtain rfl : i = n := by omega
    simp only [foghornref02_New.l0]
    rw [if_neg (by omega)]
  | succ d ih =>
    intro k i h hk
    obtain ⟨k, rfl⟩ : ∃ m, k = m + 1 := ⟨k - 1, by omega⟩
    simp only [foghornref02_New.l0]
    rw [if_pos (by omega), zeros_f (by omega), Option.bind_some, if_pos (by rw [List.length_replicate]; omega), w64s (by omega)]
    have := ih k (i + 1) (by omega) (by omega)
    rw [List.replicate_succ'] at this
    exact this
theorem newL_log {n : Int} (h : goodN n) : logB (newL n) = true ∧ (newL n).length = n.toNat := by
  have hl : (newL n).length = n.toNat := by unfold newL; rw [if_pos ⟨h.1, h.2.1⟩, List.length_replicate]
  refine ⟨?_, hl⟩
  have hsz : z128.size = 128 := by
    rw [← len_data]
    exact List.length_replicate
  unfold logB rightD
  have ha : (newL n).any badSize = false := by
    rw [List.any_eq_false]
    intro x hx
    have : x = z128 := by unfold newL at hx; rw [if_pos ⟨h.1, h.2.1⟩] at hx; exact List.eq_of_mem_replicate hx
    simp [badSize, this, hsz]
  rw [ha, hl]
  obtain ⟨h1, h2, h3⟩ := h
  simp
  omega
theorem rseal_f {g no : Int} {p : ByteArray} (g1 : 1 ≤ g) (g2 : g ≤ 250) (n0 : 0 ≤ no) (n1 : no ≤ 64) (hp : p.size ≤ 96) : foghornref03_Seal.f g no p = some (sealT g no p) ∧ sealS g no p = sealT g no p ∧ (sealT g no p).size = 128 := by
  obtain ⟨hT, hTe⟩ := sealT_is g1 g2 n0 n1 hp
  refine ⟨?_, hTe, hT.size⟩
  unfold foghornref03_Seal.f
  rw [if_pos hp]
  rfl
theorem rnew_f {n : Int} (h : goodN n) {k : Nat} (hk : 280 < k) : foghornref04_New.f k n = some ((new0 n).xs, 1, 0, 1, false) := by
  obtain ⟨hlog, hl⟩ := newL_log h
  obtain ⟨e1, e2, e3⟩ := rseal_f (g := 1) (no := 0) (p := ⟨#[]⟩) (by omega) (by omega) (by omega) (by omega) (by decide)
  have hh := h
  obtain ⟨h1, h2, h3⟩ := hh
  unfold foghornref04_New.f foghornref02_New.f
  have hr := rnew_l (n := n.toNat) (by omega) n.toNat k 0 (by omega) (by omega)
  rw [Int.toNat_of_nonneg (by omega)] at hr
  have hN : List.replicate n.toNat z128 = newL n := by unfold newL; rw [if_pos ⟨h1, h2⟩]
  rw [hN] at hr
  rw [show foghornref02_New.l0 k n 0 [] = some (newL n) from hr, Option.bind_some, e1, Option.bind_some, rwrite_f hlog (by omega) (by omega) e3 (by omega), Option.bind_some]
  unfold new0
  rw [e2]
theorem same_zero {k : Nat} (hk : 0 < k) : foghornref04_Same.f k Sto.zero.xs Sto.zero.gen Sto.zero.used Sto.zero.top Sto.zero.down [] 0 0 0 false = some true := by
  have := ssame_f Sto.zero Sto.zero (by decide) (k := k) hk
  rw [stoEq_self] at this
  exact this
end Go.Proofs.YtopaddpclipnjaaQ.P
namespace Go.Proofs.YtopaddpclipnjaaQ.P
open Go.RowKit Go.Proofs.YtopaddpclipnjaaW.PrintWords Go.Proofs.YtopaddpclipnjaaW.PrintMore Go.Proofs.Ytopaddpclipnjaa
theorem boots_pure (a0 : Int) (l1_0 : List ByteArray) (a1_1 a1_2 a1_3 : Int) (a1_4 : Bool) (l2_0 : List ByteArray) : foghornlaw04_StoreBoots.f 400 a0 l1_0 a1_1 a1_2 a1_3 a1_4 l2_0 = some true := by
  have hl1 := cutD_len l1_0
  have hl2 := cutD_len l2_0
  have hs := storeRight_f ⟨cutD l1_0, a1_1, a1_2, a1_3, a1_4⟩ (by unfold maxLen; show (cutD l1_0).length ≤ _; omega)
  have hr := rright_f ⟨cutD l1_0, a1_1, a1_2, a1_3, a1_4⟩ (by show (cutD l1_0).length < _; omega) (k := 400) (by show (cutD l1_0).length < _; omega)
  simp only at hs hr
  unfold foghornlaw04_StoreBoots.f
  rw [cut_f ⟨l1_0, a1_1, a1_2, a1_3, a1_4⟩ (by omega), Option.bind_some, few132 _ (by omega), Option.bind_some, new_f a0 (by omega)]
  unfold stoOut
  rw [Option.bind_some, boot_f (cutD l2_0) (by omega) (by omega), Option.bind_some]
  simp only
  rw [hs, Option.bind_some, hr, Option.bind_some, if_neg (by simp), alive_f (by omega), Option.bind_some]
  have j2 : ∀ k : Nat, 300 < k → foghornlaw04_StoreBoots.j2 k (bootOut (bootS (cutD l2_0))).2.2.2.2.2.1 (bootOut (bootS (cutD l2_0))).2.2.2.2.2.2 (cutD l2_0) (bootOut (bootS (cutD l2_0))).1 (bootOut (bootS (cutD l2_0))).2.1 (bootOut (bootS (cutD l2_0))).2.2.1 (bootOut (bootS (cutD l2_0))).2.2.2.1 (bootOut (bootS (cutD l2_0))).2.2.2.2.1 0 0 0 false = some true := by
    intro k hk
    obtain ⟨k, rfl⟩ : ∃ m, k = m + 1 := ⟨k - 1, by omega⟩
    simp only [foghornlaw04_StoreBoots.j2]
    rw [rlog_f _ (by omega) (by omega), Option.bind_some]
    cases hlog : logB (cutD l2_0)
    · have hb : bootS (cutD l2_0) = (Sto.zero, [], 1) := by unfold bootS; rw [if_pos hlog]
      rw [hb, if_neg (by decide)]
      unfold bootOut
      simp only
      rw [if_pos trivial, if_pos (by simp), same_zero (by omega)]
      rfl
    · rw [if_pos rfl, rboot_f hlog (by omega), Option.bind_some]
      by_cases h0 : newestD (cutD l2_0) = 0
      · have hb : bootS (cutD l2_0) = (Sto.zero, [], 4) := by unfold bootS; rw [if_neg (by rw [hlog]; decide), if_pos h0]
        rw [hb, if_pos h0]
        unfold bootOut
        simp only
        rw [if_neg (by decide), if_pos trivial, if_pos (by simp), same_zero (by omega)]
        rfl
      · have hb : bootS (cutD l2_0) = (⟨cutD l2_0, newestD (cutD l2_0), (foundA (cutD l2_0) (newestD (cutD l2_0))).length, topF 0 (cutD l2_0), false⟩, foundA (cutD l2_0) (newestD (cutD l2_0)), 0) := by unfold bootS; rw [if_neg (by rw [hlog]; decide), if_neg h0]
        rw [hb, if_neg h0]
        unfold bootOut
        simp only
        have hf := foundD_len (cutD l2_0) (newestD (cutD l2_0)) (areaD (cutD l2_0)).toNat 0
        have ha := (logB_nums hlog).2.2.2.2.2.2.2.2
        have hff : (foundA (cutD l2_0) (newestD (cutD l2_0))).length ≤ 64 := by unfold foundA; omega
        rw [if_pos trivial, if_pos trivial, topF_newest hlog, ssame_f ⟨cutD l2_0, newestD (cutD l2_0), (foundA (cutD l2_0) (newestD (cutD l2_0))).length, topF 0 (cutD l2_0), false⟩ ⟨cutD l2_0, newestD (cutD l2_0), (foundA (cutD l2_0) (newestD (cutD l2_0))).length, topF 0 (cutD l2_0), false⟩ (by show (cutD l2_0).length < _; omega) (by show (cutD l2_0).length < _; omega), Option.bind_some, stoEq_self, if_pos rfl, texts_f _ _ (by omega) (by omega)]
        simp
  simp only [foghornlaw04_StoreBoots.j0]
  rw [if_neg (by decide)]
  have j1 : foghornlaw04_StoreBoots.j1 399 a0 (if goodN a0 then (new0 a0, (0 : Int)) else (Sto.zero, 2)).2 (bootOut (bootS (cutD l2_0))).2.2.2.2.2.1 (bootOut (bootS (cutD l2_0))).2.2.2.2.2.2 (!decide (goodN a0)) (cutD l2_0) (if goodN a0 then (new0 a0, (0 : Int)) else (Sto.zero, 2)).1.xs (if goodN a0 then (new0 a0, (0 : Int)) else (Sto.zero, 2)).1.gen (if goodN a0 then (new0 a0, (0 : Int)) else (Sto.zero, 2)).1.used (if goodN a0 then (new0 a0, (0 : Int)) else (Sto.zero, 2)).1.top (if goodN a0 then (new0 a0, (0 : Int)) else (Sto.zero, 2)).1.down (bootOut (bootS (cutD l2_0))).1 (bootOut (bootS (cutD l2_0))).2.1 (bootOut (bootS (cutD l2_0))).2.2.1 (bootOut (bootS (cutD l2_0))).2.2.2.1 (bootOut (bootS (cutD l2_0))).2.2.2.2.1 0 0 0 false = some true := by
    simp only [foghornlaw04_StoreBoots.j1]
    by_cases h : goodN a0
    · have hn := newL_log h
      have hlen : (new0 a0).xs.length ≤ 130 := (logB_nums (has_new h.1 h.2.1 h.2.2).inv.log).2.1
      rw [if_pos h, if_neg (by simp [h]), if_pos rfl, rnew_f h (by omega), Option.bind_some, ssame_f (new0 a0) ⟨(new0 a0).xs, 1, 0, 1, false⟩ (by omega) (by omega), Option.bind_some, show stoEq (new0 a0) ⟨(new0 a0).xs, 1, 0, 1, false⟩ = true from stoEq_self (new0 a0), if_pos rfl]
      exact j2 398 (by omega)
    · rw [if_neg h, if_pos (by simp [h]), if_pos rfl, same_zero (by omega), Option.bind_some, if_pos rfl]
      exact j2 398 (by omega)
  by_cases h1 : a0 < 10
  · rw [if_pos h1]
    rw [show (!decide (goodN a0)) = true by simp; intro h; have := h.1; omega] at j1
    exact j1
  · rw [if_neg h1]
    by_cases h2 : a0 > 130
    · rw [if_pos h2]
      rw [show (!decide (goodN a0)) = true by simp; intro h; have := h.2.1; omega] at j1
      exact j1
    · rw [if_neg h2]
      rw [show (!decide (goodN a0)) = (Int.tmod a0 2 != 0) by
        rw [show Int.tmod a0 2 = a0 % 2 from Int.tmod_eq_emod_of_nonneg (by omega)]
        by_cases h3 : a0 % 2 = 0
        · have : goodN a0 := ⟨by omega, by omega, h3⟩
          simp [this, h3]
        · have : ¬ goodN a0 := fun h => h3 h.2.2
          simp [this, h3]] at j1
      exact j1
end Go.Proofs.YtopaddpclipnjaaQ.P
namespace Go.Proofs.Ytopaddpclipnjaa
open Go.RowKit Go.ChangeShapes Go.WideShapes Go.ChangeAt Go.Proofs.YtopaddpclipnjaaW.PrintWords
def Opens (P : Program) (W : World) (t : TypeId) {α : Type} (d : Kd α) (Q : α → Prop) : Prop :=
  ∀ {H : Type} (enc : TypeId × Value → H) (base : Nat) (spare : Nat → Bool) (held : Bool) (fuel : Nat) (cs : List Value) (y : DataW H × List MemPlace), DataW.trod enc P W base spare held fuel t cs = some y → cs.length = d.sz → ∃ x, d.K W x cs ∧ Q x
def OpensL (P : Program) (W : World) (fs : List Field) (o : Nat) {α : Type} (d : Kd α) (Q : α → Prop) : Prop :=
  ∀ {H : Type} (enc : TypeId × Value → H) (base : Nat) (spare : Nat → Bool) (held : Bool) (cs : List Value), (∀ (j : Nat) (f : Field), fs[j]? = some f → ∃ fuel y, DataW.trod enc P W base spare held fuel f.type ((cs.drop (f.offset - o)).take (P.cellsOf f.type)) = some y) → cs.length = d.sz → ∃ x, d.K W x cs ∧ Q x
section
variable {P : Program} {W : World} {t e : TypeId} {α β : Type} {d : Kd α} {Q : α → Prop}
theorem opens_int {k : IntKind} (ht : P.underlying t = some (.int k)) : Opens P W t (Kd.int k) (fun n => (Lit.int k n).wf = true) := by
  intro H enc base spare held fuel cs y h _
  obtain ⟨n, rfl, _, hw⟩ := DataW.trod_int ht h
  exact ⟨n, rfl, hw⟩
theorem opens_bool (ht : P.underlying t = some .bool) : Opens P W t Kd.bool (fun _ => True) := by
  intro H enc base spare held fuel cs y h _
  obtain ⟨n, rfl, _⟩ := DataW.trod_bool ht h
  exact ⟨n, rfl, trivial⟩
theorem opens_string (ht : P.underlying t = some .string) : Opens P W t Kd.string (fun s => s.size ≤ maxLen) := by
  intro H enc base spare held fuel cs y h _
  obtain ⟨n, rfl, _, hw⟩ := DataW.trod_string ht h
  exact ⟨n, rfl, hw⟩
theorem opens_C (hc : P.cellsOf e = d.sz) (h0 : 0 < d.sz) (h : Opens P W e d Q) {H : Type} {enc : TypeId × Value → H} {base : Nat} {spare : Nat → Bool} {held : Bool} {p : List MemPlace} {dd : DataW H} (ht : P.underlying t = some (.slice e)) {v : Value} (ht2 : DataW.Trod enc P W base spare held t v dd p) (hv : ∃ a l c, v = .slice a l c) :
    ∃ (xs : List α) (A : Option Addr) (c : Nat), v = .slice A xs.length c ∧ xs.length ≤ c ∧ d.C W A xs.length xs ∧ ∀ x ∈ xs, Q x := by
  obtain ⟨n, cells, hS, hel⟩ := sl_of_trod ht hc h0 ht2 hv
  have hx : ∀ i, i < n → ∃ x, d.K W x ((cells.drop (i * d.sz)).take d.sz) ∧ Q x := by
    intro i hi
    obtain ⟨f, y, hy⟩ := hel i hi
    refine h enc base spare held f _ y hy ?_
    have hle : i * d.sz + d.sz ≤ n * d.sz := by rw [← Nat.succ_mul]; exact Nat.mul_le_mul_right _ hi
    rw [List.length_take, List.length_drop, hS.1]
    omega
  have hxs : ∀ m, m ≤ n → ∃ xs : List α, xs.length = m ∧ ∀ i x, xs[i]? = some x → d.K W x ((cells.drop (i * d.sz)).take d.sz) ∧ Q x := by
    intro m
    induction m with
    | zero => exact fun _ => ⟨[], rfl, fun i x hx => by simp at hx⟩
    | succ m ih =>
      intro hm
      obtain ⟨xs, hl, hq⟩ := ih (by omega)
      obtain ⟨x, hk, hqx⟩ := hx m (by omega)
      refine ⟨xs ++ [x], by simp [hl], fun i y hy => ?_⟩
      rcases Nat.lt_or_ge i xs.length with hi | hi
      · rw [List.getElem?_append_left hi] at hy
        exact hq i y hy
      · rw [List.getElem?_append_right hi] at hy
        obtain ⟨h1, h2⟩ := List.getElem?_eq_some_iff.1 hy
        have hi2 : i = m := by simp at h1; omega
        subst hi2
        simp at h2
        subst h2
        exact ⟨hk, hqx⟩
  obtain ⟨xs, hl, hq⟩ := hxs n (Nat.le_refl _)
  obtain ⟨a, c, hv2, hnc, hnm⟩ := hS.form
  subst hv2
  subst hl
  refine ⟨xs, a, c, rfl, hnc, ⟨rfl, by unfold maxLen at hnm; omega, fun hp => ?_⟩, fun x hx => ?_⟩
  · obtain ⟨b, o, rfl, _, hcell⟩ := hS.at hp
    refine ⟨_, rfl, fun j p hj => ⟨_, ?_, (hq j p hj).1, fun i u hu => ?_⟩⟩
    · exact d.K_len (hq j p hj).1
    · rw [List.getElem?_take] at hu
      split at hu
      · rw [List.getElem?_drop] at hu
        rw [add_off]
        exact hcell _ _ hu
      · cases hu
  · obtain ⟨i, hi, rfl⟩ := List.mem_iff_getElem.1 hx
    exact (hq i _ (List.getElem?_eq_getElem hi)).2
theorem opens_slice (ht : P.underlying t = some (.slice e)) (hc : P.cellsOf e = d.sz) (h0 : 0 < d.sz) (h : Opens P W e d Q) : Opens P W t (Kd.slice e d) (fun xs => ∀ x ∈ xs, Q x) := by
  intro H enc base spare held fuel cs y hy hl
  obtain ⟨u, rfl⟩ : ∃ u, cs = [u] := by
    match cs, hl with
    | [u], _ => exact ⟨u, rfl⟩
  obtain ⟨hv, h2⟩ := slice_of_trod ht hy
  obtain ⟨xs, A, c, rfl, h3, h4, h5⟩ := opens_C hc h0 h ht h2 hv
  exact ⟨xs, ⟨A, c, rfl, h3, h4⟩, h5⟩
theorem opensL_one {f : Field} (h : Opens P W f.type d Q) (hc : P.cellsOf f.type = d.sz) : OpensL P W [f] f.offset d Q := by
  intro H enc base spare held cs hf hl
  obtain ⟨fuel, y, hy⟩ := hf 0 f rfl
  rw [Nat.sub_self, List.drop_zero, hc, List.take_of_length_le (by omega)] at hy
  exact h enc base spare held fuel cs y hy hl
theorem opensL_cons {f : Field} {fs : List Field} {b : Kd β} {Qb : β → Prop} (h : Opens P W f.type d Q) (hc : P.cellsOf f.type = d.sz) (hs : OpensL P W fs (f.offset + d.sz) b Qb) (ho : (fs.all fun g => decide (f.offset + d.sz ≤ g.offset)) = true) :
    OpensL P W (f :: fs) f.offset (Kd.pair d b) (fun x => Q x.1 ∧ Qb x.2) := by
  intro H enc base spare held cs hf hl
  have hl' : cs.length = d.sz + b.sz := hl
  obtain ⟨fuel, y, hy⟩ := hf 0 f rfl
  rw [Nat.sub_self, List.drop_zero, hc] at hy
  obtain ⟨x, hk, hq⟩ := h enc base spare held fuel _ y hy (by rw [List.length_take]; omega)
  obtain ⟨z, hkz, hqz⟩ := hs enc base spare held (cs.drop d.sz) (fun j g hg => by
    obtain ⟨fuel, y, hy⟩ := hf (j + 1) g (by simpa using hg)
    have hog : f.offset + d.sz ≤ g.offset := by simpa using List.all_eq_true.1 ho g (List.mem_of_getElem? hg)
    refine ⟨fuel, y, ?_⟩
    rw [List.drop_drop, show d.sz + (g.offset - (f.offset + d.sz)) = g.offset - f.offset by omega]
    exact hy) (by rw [List.length_drop]; omega)
  exact ⟨(x, z), ⟨_, _, (List.take_append_drop d.sz cs).symm, hk, hkz⟩, hq, hqz⟩
theorem opens_struct {fs : Array Field} (ht : P.underlying t = some (.struct fs)) (h : OpensL P W fs.toList 0 d Q) : Opens P W t d Q := by
  intro H enc base spare held fuel cs y hy hl
  obtain ⟨xs, n, _, _, _, hlx, hx⟩ := DataW.trod_struct ht hy
  refine h enc base spare held cs (fun j f hf => ?_) hl
  have hf' : fs[j]? = some f := by simpa using hf
  have h1 := hx j f hf'
  have hj : j < xs.length := by rw [hlx]; exact (Array.getElem?_eq_some_iff.1 hf').1
  rw [List.getElem?_eq_getElem hj] at h1
  exact ⟨n, _, h1⟩
theorem Opens.imp {Q' : α → Prop} (h : Opens P W t d Q) (hq : ∀ x, Q x → Q' x) : Opens P W t d Q' := by
  intro H enc base spare held fuel cs y hy hl
  obtain ⟨x, hk, hx⟩ := h enc base spare held fuel cs y hy hl
  exact ⟨x, hk, hq x hx⟩
theorem arg_struct (h : Opens P W t d Q) {fs : Array Field} (hc : P.cellsOf t = d.sz) {H : Type} {enc : TypeId × Value → H} {r : Reach} {base bb : Nat} {spare : Nat → Bool} {held : Bool} {p : List MemPlace} {dd : DataW H} (ht : P.underlying t = some (.struct fs)) {v : Value} (hv : Value.okWide P W r bb t v) (h2 : DataW.Trod enc P W base spare held t v dd p) :
    ∃ x : α, (∃ cs : List Value, v = .agg cs.toArray ∧ d.K W x cs) ∧ Q x := by
  obtain ⟨cs, rfl, hsz⟩ := okWide_struct ht hv
  obtain ⟨fuel, hf⟩ := h2
  obtain ⟨x, hk, hq⟩ := h enc base spare held fuel cs.toList _ hf (by simpa [hc] using hsz)
  exact ⟨x, ⟨cs.toList, by simp, hk⟩, hq⟩
end
end Go.Proofs.Ytopaddpclipnjaa
namespace Go.Proofs.YtopaddpclipnjaaQ.P
open Go.RowKit Go.ChangeShapes Go.WideShapes Go.ChangeAt Go.Proofs.YtopaddpclipnjaaW.PrintWords Go.Proofs.Ytopaddpclipnjaa
theorem anyO4 {P : Program} {W : World} {t : TypeId} {α : Type} {d : Kd α} {Q : α → Prop} (h : Opens P W t d Q) : Opens P W t d (fun _ => True) := h.imp fun _ _ => trivial
theorem opensI4 (W : World) : Opens Try.prog W 3 (Kd.int .i64) (fun _ => True) := anyO4 (opens_int Try.underlying3)
theorem opensB4 (W : World) : Opens Try.prog W 4 Kd.bool (fun _ => True) := anyO4 (opens_bool Try.underlying4)
theorem opensS4 (W : World) : Opens Try.prog W 9 Kd.string (fun _ => True) := anyO4 (opens_string Try.underlying9)
theorem opensSs4 (W : World) : Opens Try.prog W 22 (Kd.slice 9 Kd.string) (fun _ => True) := anyO4 (opens_slice Try.underlying22 (by kernel_rfl) (by decide) (opensS4 W))
theorem opensDsk4 (W : World) : Opens Try.prog W 24 (Kd.slice 9 Kd.string) (fun _ => True) := opens_struct Try.underlying24 (opensL_one (opensSs4 W) (by kernel_rfl))
theorem opensSto4 (W : World) : Opens Try.prog W 26 (Kd.pair (Kd.slice 9 Kd.string) (Kd.pair (Kd.int .i64) (Kd.pair (Kd.int .i64) (Kd.pair (Kd.int .i64) Kd.bool)))) (fun _ => True) :=
  anyO4 (opens_struct Try.underlying26 (opensL_cons (opensDsk4 W) (by kernel_rfl) (opensL_cons (opensI4 W) (by kernel_rfl) (opensL_cons (opensI4 W) (by kernel_rfl) (opensL_cons (opensI4 W) (by kernel_rfl) (opensL_one (opensB4 W) (by kernel_rfl)) (by rfl)) (by rfl)) (by rfl)) (by rfl)))
def StoR (v : Value) (W : World) (s : Sto) : Prop := ∃ (A : Option Addr) (c : Nat), v = .agg #[.slice A s.xs.length c, .int .i64 s.gen, .int .i64 s.used, .int .i64 s.top, .bool s.down] ∧ Kd.C Kd.string W A s.xs.length s.xs ∧ s.xs.length ≤ c
def DskR (v : Value) (W : World) (xs : List ByteArray) : Prop := ∃ (A : Option Addr) (c : Nat), v = .agg #[.slice A xs.length c] ∧ Kd.C Kd.string W A xs.length xs ∧ xs.length ≤ c
section
variable {W : World} {H : Type} {enc : TypeId × Value → H} {r : Reach} {base bb : Nat} {spare : Nat → Bool} {held : Bool} {p : List MemPlace} {dd : DataW H} {v : Value}
set_option maxRecDepth 100000 in
theorem argSto (hv : Value.okWide Try.prog W r bb 26 v) (h2 : DataW.Trod enc Try.prog W base spare held 26 v dd p) : ∃ s : Sto, StoR v W s := by
  obtain ⟨⟨xs, a1, a2, a3, a4⟩, ⟨cs, rfl, hk⟩, _⟩ := arg_struct (opensSto4 W) (by kernel_rfl) Try.underlying26 hv h2
  obtain ⟨_, _, rfl, ⟨A, c, rfl, h1, k1⟩, _, _, rfl, rfl, _, _, rfl, rfl, _, _, rfl, rfl, rfl⟩ := hk
  exact ⟨⟨xs, a1, a2, a3, a4⟩, A, c, rfl, k1, h1⟩
set_option maxRecDepth 100000 in
theorem argDsk (hv : Value.okWide Try.prog W r bb 24 v) (h2 : DataW.Trod enc Try.prog W base spare held 24 v dd p) : ∃ xs : List ByteArray, DskR v W xs := by
  obtain ⟨xs, ⟨cs, rfl, hk⟩, _⟩ := arg_struct (opensDsk4 W) (by kernel_rfl) Try.underlying24 hv h2
  obtain ⟨A, c, rfl, h1, k1⟩ := hk
  exact ⟨xs, A, c, rfl, k1, h1⟩
end
end Go.Proofs.YtopaddpclipnjaaQ.P
namespace Go.Proofs.YtopaddpclipnjaaQ.P
open Go.RowKit Go.Proofs.YtopaddpclipnjaaW.PrintWords Go.Proofs.Ytopaddpclipnjaa
theorem StoreBoots_walk (n : Int) (v1 : Value) (s : Sto) (v2 : Value) (xs : List ByteArray) (w : World) (h0 : (Lit.int .i64 n).wf = true) (h1 : StoR v1 w s) (h2 : DskR v2 w xs) :
    Calls Try.prog 3 #[.int .i64 n, v1, v2] w fun e w' => e = .returned (.bool true) ∧ Below w.heap.size w w' := by
  obtain ⟨A, c, rfl, k1, k2⟩ := h1
  obtain ⟨B, d, rfl, k3, k4⟩ := h2
  exact foghornlaw04_StoreBoots.calls 400 n A c s.xs s.gen s.used s.top s.down B d xs true w k1 k2 k3 k4 (boots_pure ..)
end Go.Proofs.YtopaddpclipnjaaQ.P
namespace Go.Proofs.Ytopaddpclipnjaa.storeBoots
open Go.ChangeShapes Go.WideShapes Go.ChangeAt Go.RowKit Go.Proofs.YtopaddpclipnjaaQ.P
open Go.ChangeMaps (open_string shut_string)
theorem own : ownKnob Try.prog.godebug = none := by kernel_rfl
theorem laidOut : laidOutB Try.prog = true := by kernel_rfl
set_option maxRecDepth 100000 in
theorem lifted (os : Os) (started : os.Started) (H : Type) (enc : TypeId × Value → H) :
    ReturnsInHanded {} Try.checked os 3 .any (Rows.storeBootsSpec.pre6 enc Try.prog Try.f3 Rows.storeBootsRow.domain false) (Rows.storeBootsSpec.post enc Try.prog Try.f3 false true false false) := by
  refine returnsInHanded_of_change (C := Try.checked) own started (by kernel_rfl) Try.func3
    (ChangeSpec.witness6 (enc := enc) (C := Try.checked) false ⟨#[], #[.int .i64 0, .agg #[.slice none 0 0, .int .i64 0, .int .i64 0, .int .i64 0, .bool false], .agg #[.slice none 0 0]], []⟩ 8 (by kernel_rfl) (by kernel_rfl) (by kernel_rfl) (by kernel_rfl)) ?_
  intro W base args ds gs before hval0 hW hcnd _
  have hval : ∀ (j : Nat) t v, Try.f3.params[j]? = some t → args[j]? = some v → Value.okWide Try.prog W .any base t v := hval0
  have hW' := hW
  obtain ⟨p, q, hA0, hV, rfl, hfz, hnd⟩ := hW
  have hA : DataW.TrodAll enc Try.prog W 0 (fun _ => true) true Try.f3.params.toList args.toList ds p := hA0
  rw [Try.params3] at hA hval
  obtain ⟨v0, vs0, d0, ds0, p0, q0, hargs, rfl, rfl, h0, r0⟩ := trodAll_cons hA
  obtain ⟨v1, vs1, d1, ds1, p1, q1, rfl, rfl, rfl, h1, r1⟩ := trodAll_cons r0
  obtain ⟨v2, vs2, d2, ds2, p2, q2, rfl, rfl, rfl, h2, r2⟩ := trodAll_cons r1
  obtain ⟨rfl, rfl, rfl⟩ := trodAll_nil r2
  obtain rfl : args = #[v0, v1, v2] := by cases args; simp_all
  obtain ⟨rfl, rfl⟩ := trodVars_none hV
  have lt0 : ∀ x ∈ p0, x.block < W.heap.size := by obtain ⟨m, hm⟩ := h0; exact DataW.trod_lt m _ _ _ hm
  have k0 := h0
  have lt1 : ∀ x ∈ p1, x.block < W.heap.size := by obtain ⟨m, hm⟩ := h1; exact DataW.trod_lt m _ _ _ hm
  have k1 := h1
  have lt2 : ∀ x ∈ p2, x.block < W.heap.size := by obtain ⟨m, hm⟩ := h2; exact DataW.trod_lt m _ _ _ hm
  have k2 := h2
  obtain ⟨a0, rfl, rfl, rfl, w0⟩ := open_int Try.underlying3 (hval 0 3 v0 rfl rfl) h0
  obtain ⟨a1, w1⟩ := argSto (hval 1 26 v1 rfl rfl) h1
  obtain ⟨a2, w2⟩ := argDsk (hval 2 24 v2 rfl rfl) h2
  clear hA0 hval0
  refine (StoreBoots_walk a0 v1 a1 v2 a2 W w0 w1 w2).mono fun e W' ⟨he, bel⟩ => ?_
  subst he
  exact ⟨_, rfl, _, _, _, [], _, [], hW', trodAll_mk1 (shut_bool Try.underlying4 _), (trodAll_cons_mk (Below.trod laidOut (by kernel_rfl) (of_decide_eq_true (by kernel_rfl)) k0 bel lt0) (trodAll_cons_mk (Below.trod laidOut (by kernel_rfl) (of_decide_eq_true (by kernel_rfl)) k1 bel lt1) (trodAll_cons_mk (Below.trod laidOut (by kernel_rfl) (of_decide_eq_true (by kernel_rfl)) k2 bel lt2) trodAll_mk0))), rfl, bel.frame _, fun h => by cases h⟩
theorem over : Rows.storeBootsRow.holds Try.pinned (OpenSpec.ofChange Rows.storeBootsSpec) :=
  OpenClaim.holds_of_wide 3 Try.f3 rfl rfl rfl rfl rfl rfl rfl ⟨rfl, rfl, rfl, rfl, rfl⟩ rfl rfl rfl rfl rfl (by kernel_rfl) Try.func3 (by kernel_rfl)
    (of_decide_eq_true (by kernel_rfl)) (by unfold Func.isWrapper; first | (rw [if_pos (by decide +kernel)]; kernel_rfl) | (rw [if_neg (by decide +kernel)]; exact ⟨rfl, rfl⟩))
    (fun os started H enc _ => lifted os started H enc)
end Go.Proofs.Ytopaddpclipnjaa.storeBoots
namespace Go.Proofs.Ytopaddpclipnjaa
theorem storeBoots_holds : Rows.StoreBootsSaid := storeBoots.over
#print axioms storeBoots_holds
end Go.Proofs.Ytopaddpclipnjaa
