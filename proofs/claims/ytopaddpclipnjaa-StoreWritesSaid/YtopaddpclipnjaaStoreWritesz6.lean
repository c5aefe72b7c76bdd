/- Part 6 of a proof: contracts and plain laws of what the statement reaches. No condition. -/
import Derived.Test.YtopaddpclipnjaaStoreWritesz1
import Derived.Test.YtopaddpclipnjaaStoreWritesz2
import Derived.Test.YtopaddpclipnjaaStoreWritesz3
import Derived.Test.YtopaddpclipnjaaStoreWritesz4
import Derived.Test.YtopaddpclipnjaaStoreWritesz5
set_option linter.unusedVariables false
set_option linter.unusedSimpArgs false
namespace Go.Proofs.YtopaddpclipnjaaQ.P
open Go.RowKit Go.Proofs.YtopaddpclipnjaaW.PrintWords Go.Proofs.YtopaddpclipnjaaW.PrintLast Go.Proofs.YtopaddpclipnjaaW.PrintMore
attribute [local go_sem] max2_int min2_int max_two min_two max_three min_three max_four min_four
mutual
def foghornlaw04_StoreWrites.j1 : Nat → ByteArray → List ByteArray → List (S45) → Int → Int → Int → List ByteArray → Int → Int → Int → Bool → Int → Int → List ByteArray → Int → Int → Int → Bool → List ByteArray → Int → Int → Int → Bool → Int → Int → Int → Bool → Option (Bool)
 | 0, _, _, _, _, _, _, _, _, _, _, _, _, _, _, _, _, _, _, _, _, _, _, _, _, _, _, _ => none
 | k + 1, x1, x3, x4, x12, x14, x16, x434000, x434001, x434002, x434003, x434004, x435000, x435001, x458000, x458001, x458002, x458003, x458004, x467000, x467001, x467002, x467003, x467004, x468001, x468002, x468003, x468004 => if x16 = 0 then ((foghornref04_Append.f k x434000 x434001 x434002 x434003 x434004 x1 x435000 x435001).bind fun bt472 => (if x12 = bt472.2.2.2.2.2 then ((foghornref04_Same.f k x458000 x458001 x458002 x458003 x458004 bt472.1 bt472.2.1 bt472.2.2.1 bt472.2.2.2.1 bt472.2.2.2.2.1).bind fun t481 => (if t481 = true then (foghornlaw04_StoreWrites.j2 k x3 x4 x14 x434000 x434001 x434002 x434003 x434004 x467000 x467001 x467002 x467003 x467004 x468001 x468002 x468003 x468004) else (some false))) else (some false))) else (if x12 = x16 then ((foghornref04_Same.f k x458000 x458001 x458002 x458003 x458004 ([] : List ByteArray) x468001 x468002 x468003 x468004).bind fun t482 => (if t482 = true then (foghornlaw04_StoreWrites.j2 k x3 x4 x14 x434000 x434001 x434002 x434003 x434004 x467000 x467001 x467002 x467003 x467004 x468001 x468002 x468003 x468004) else (some false))) else (some false))
def foghornlaw04_StoreWrites.j2 : Nat → List ByteArray → List (S45) → Int → List ByteArray → Int → Int → Int → Bool → List ByteArray → Int → Int → Int → Bool → Int → Int → Int → Bool → Option (Bool)
 | 0, _, _, _, _, _, _, _, _, _, _, _, _, _, _, _, _, _ => none
 | k + 1, x3, x4, x14, x434000, x434001, x434002, x434003, x434004, x467000, x467001, x467002, x467003, x467004, x468001, x468002, x468003, x468004 => (foghornref04_Right.f k x434000 x434001 x434002 x434003 x434004).bind fun t483 => (if t483 = true then ((foghornref04_Faults.f k x4).bind fun t484 => (foghornlaw04_StoreWrites.j3 k x3 x4 x14 0 (!t484) x434000 x434001 x434002 x434003 x434004 x467000 x467001 x467002 x467003 x467004 x468001 x468002 x468003 x468004)) else (foghornlaw04_StoreWrites.j3 k x3 x4 x14 0 true x434000 x434001 x434002 x434003 x434004 x467000 x467001 x467002 x467003 x467004 x468001 x468002 x468003 x468004))
def foghornlaw04_StoreWrites.j4 : Nat → List ByteArray → List (S45) → Int → Int → List ByteArray → Int → Int → Int → Bool → List ByteArray → Int → Int → Int → Bool → Int → Int → Int → Bool → Option (Bool)
 | 0, _, _, _, _, _, _, _, _, _, _, _, _, _, _, _, _, _, _ => none
 | k + 1, x3, x4, x14, x16, x434000, x434001, x434002, x434003, x434004, x467000, x467001, x467002, x467003, x467004, x468001, x468002, x468003, x468004 => if x16 = 0 then ((foghornref04_Turn.f k x434000 x434001 x434002 x434003 x434004 x3 x4).bind fun bt488 => (if x14 = bt488.2.2.2.2.2 then ((foghornref04_Same.f k x467000 x467001 x467002 x467003 x467004 bt488.1 bt488.2.1 bt488.2.2.1 bt488.2.2.2.1 bt488.2.2.2.2.1).bind fun t497 => (some t497)) else (some false))) else (if x14 = x16 then ((foghornref04_Same.f k x467000 x467001 x467002 x467003 x467004 ([] : List ByteArray) x468001 x468002 x468003 x468004).bind fun t498 => (some t498)) else (some false))
def foghornlaw04_StoreWrites.j3 : Nat → List ByteArray → List (S45) → Int → Int → Bool → List ByteArray → Int → Int → Int → Bool → List ByteArray → Int → Int → Int → Bool → Int → Int → Int → Bool → Option (Bool)
 | 0, _, _, _, _, _, _, _, _, _, _, _, _, _, _, _, _, _, _, _ => none
 | k + 1, x3, x4, x14, x16, x102, x434000, x434001, x434002, x434003, x434004, x467000, x467001, x467002, x467003, x467004, x468001, x468002, x468003, x468004 => if x102 = true then (foghornlaw04_StoreWrites.j4 k x3 x4 x14 1 x434000 x434001 x434002 x434003 x434004 x467000 x467001 x467002 x467003 x467004 x468001 x468002 x468003 x468004) else ((foghornref04_Payloads.f k x3).bind fun t485 => (if t485 = true then (if x434004 = true then (foghornlaw04_StoreWrites.j4 k x3 x4 x14 9 x434000 x434001 x434002 x434003 x434004 x467000 x467001 x467002 x467003 x467004 x468001 x468002 x468003 x468004) else ((foghornref04_Area.f x434000).bind fun t486 => (if (x3.length : Int) > t486 then (foghornlaw04_StoreWrites.j4 k x3 x4 x14 5 x434000 x434001 x434002 x434003 x434004 x467000 x467001 x467002 x467003 x467004 x468001 x468002 x468003 x468004) else ((foghornref04_Next.f x434000 x434001 x434002 x434003 x434004).bind fun t487 => (if t487 > 250 then (foghornlaw04_StoreWrites.j4 k x3 x4 x14 5 x434000 x434001 x434002 x434003 x434004 x467000 x467001 x467002 x467003 x467004 x468001 x468002 x468003 x468004) else (foghornlaw04_StoreWrites.j4 k x3 x4 x14 x16 x434000 x434001 x434002 x434003 x434004 x467000 x467001 x467002 x467003 x467004 x468001 x468002 x468003 x468004)))))) else (foghornlaw04_StoreWrites.j4 k x3 x4 x14 2 x434000 x434001 x434002 x434003 x434004 x467000 x467001 x467002 x467003 x467004 x468001 x468002 x468003 x468004)))
def foghornlaw04_StoreWrites.j0 : Nat → ByteArray → List ByteArray → List (S45) → Int → Int → Int → Bool → List ByteArray → Int → Int → Int → Bool → Int → Int → List ByteArray → Int → Int → Int → Bool → List ByteArray → Int → Int → Int → Bool → Int → Int → Int → Bool → Option (Bool)
 | 0, _, _, _, _, _, _, _, _, _, _, _, _, _, _, _, _, _, _, _, _, _, _, _, _, _, _, _, _ => none
 | k + 1, x1, x3, x4, x12, x14, x16, x52, x434000, x434001, x434002, x434003, x434004, x435000, x435001, x458000, x458001, x458002, x458003, x458004, x467000, x467001, x467002, x467003, x467004, x468001, x468002, x468003, x468004 => if x52 = true then (foghornlaw04_StoreWrites.j1 k x1 x3 x4 x12 x14 1 x434000 x434001 x434002 x434003 x434004 x435000 x435001 x458000 x458001 x458002 x458003 x458004 x467000 x467001 x467002 x467003 x467004 x468001 x468002 x468003 x468004) else (if (x1.size : Int) > 96 then (foghornlaw04_StoreWrites.j1 k x1 x3 x4 x12 x14 2 x434000 x434001 x434002 x434003 x434004 x435000 x435001 x458000 x458001 x458002 x458003 x458004 x467000 x467001 x467002 x467003 x467004 x468001 x468002 x468003 x468004) else (if x434004 = true then (foghornlaw04_StoreWrites.j1 k x1 x3 x4 x12 x14 9 x434000 x434001 x434002 x434003 x434004 x435000 x435001 x458000 x458001 x458002 x458003 x458004 x467000 x467001 x467002 x467003 x467004 x468001 x468002 x468003 x468004) else ((foghornref04_Area.f x434000).bind fun t471 => (if x434002 = t471 then (foghornlaw04_StoreWrites.j1 k x1 x3 x4 x12 x14 5 x434000 x434001 x434002 x434003 x434004 x435000 x435001 x458000 x458001 x458002 x458003 x458004 x467000 x467001 x467002 x467003 x467004 x468001 x468002 x468003 x468004) else (foghornlaw04_StoreWrites.j1 k x1 x3 x4 x12 x14 x16 x434000 x434001 x434002 x434003 x434004 x435000 x435001 x458000 x458001 x458002 x458003 x458004 x467000 x467001 x467002 x467003 x467004 x468001 x468002 x468003 x468004)))))
end
def foghornlaw04_StoreWrites.f (k : Nat) (l0_0 : List ByteArray) (a0_1 : Int) (a0_2 : Int) (a0_3 : Int) (a0_4 : Bool) (a1 : ByteArray) (a2_0 : Int) (a2_1 : Int) (l3 : List ByteArray) (l4 : List (S45)) : Option (Bool) := (foghornlaw04_cut.f k l0_0 a0_1 a0_2 a0_3 a0_4).bind fun bt435 => (if 0 ≤ (mn (a1.size : Int) 130) then (if (mn (a1.size : Int) 130) ≤ (a1.size : Int) then ((foghornlaw04_few.f k l3 70).bind fun t442 => (if 0 ≤ (mn (l4.length : Int) 70) then (if (mn (l4.length : Int) 70) ≤ (l4.length : Int) then ((some (l4.take ((mn (l4.length : Int) 70) : Int).toNat : List (S45))).bind fun y445 => ((store_Append.f bt435.1 bt435.2.1 bt435.2.2.1 bt435.2.2.2.1 bt435.2.2.2.2 (a1.extract 0 ((mn (a1.size : Int) 130) : Int).toNat) a2_0 a2_1).bind fun bt449 => ((store_Turn.f bt435.1 bt435.2.1 bt435.2.2.1 bt435.2.2.2.1 bt435.2.2.2.2 t442 y445).bind fun bt458 => ((foghornlaw04_alive.f k).bind fun t468 => (if t468 = true then ((foghornref04_Right.f k bt435.1 bt435.2.1 bt435.2.2.1 bt435.2.2.2.1 bt435.2.2.2.2).bind fun t469 => (if t469 = true then ((foghornref04_Fault.f a2_0 a2_1).bind fun t470 => (foghornlaw04_StoreWrites.j0 k (a1.extract 0 ((mn (a1.size : Int) 130) : Int).toNat) t442 y445 bt449.2.2.2.2.2 bt458.2.2.2.2.2 0 (!t470) bt435.1 bt435.2.1 bt435.2.2.1 bt435.2.2.2.1 bt435.2.2.2.2 a2_0 a2_1 bt449.1 bt449.2.1 bt449.2.2.1 bt449.2.2.2.1 bt449.2.2.2.2.1 bt458.1 bt458.2.1 bt458.2.2.1 bt458.2.2.2.1 bt458.2.2.2.2.1 0 0 0 false)) else (foghornlaw04_StoreWrites.j0 k (a1.extract 0 ((mn (a1.size : Int) 130) : Int).toNat) t442 y445 bt449.2.2.2.2.2 bt458.2.2.2.2.2 0 true bt435.1 bt435.2.1 bt435.2.2.1 bt435.2.2.2.1 bt435.2.2.2.2 a2_0 a2_1 bt449.1 bt449.2.1 bt449.2.2.1 bt449.2.2.2.1 bt449.2.2.2.2.1 bt458.1 bt458.2.1 bt458.2.2.1 bt458.2.2.2.1 bt458.2.2.2.2.1 0 0 0 false))) else (some false)))))) else (none)) else (none))) else (none)) else (none))
theorem foghornlaw04_StoreWrites.mono_l : ∀ k, (∀ y0 y1 y2 y3 y4 y5 y6 y7 y8 y9 y10 y11 y12 y13 y14 y15 y16 y17 y18 y19 y20 y21 y22 y23 y24 y25 y26, LeO (foghornlaw04_StoreWrites.j1 k y0 y1 y2 y3 y4 y5 y6 y7 y8 y9 y10 y11 y12 y13 y14 y15 y16 y17 y18 y19 y20 y21 y22 y23 y24 y25 y26) (foghornlaw04_StoreWrites.j1 (k + 1) y0 y1 y2 y3 y4 y5 y6 y7 y8 y9 y10 y11 y12 y13 y14 y15 y16 y17 y18 y19 y20 y21 y22 y23 y24 y25 y26)) ∧ (∀ y0 y1 y2 y3 y4 y5 y6 y7 y8 y9 y10 y11 y12 y13 y14 y15 y16, LeO (foghornlaw04_StoreWrites.j2 k y0 y1 y2 y3 y4 y5 y6 y7 y8 y9 y10 y11 y12 y13 y14 y15 y16) (foghornlaw04_StoreWrites.j2 (k + 1) y0 y1 y2 y3 y4 y5 y6 y7 y8 y9 y10 y11 y12 y13 y14 y15 y16)) ∧ (∀ y0 y1 y2 y3 y4 y5 y6 y7 y8 y9 y10 y11 y12 y13 y14 y15 y16 y17, LeO (foghornlaw04_StoreWrites.j4 k y0 y1 y2 y3 y4 y5 y6 y7 y8 y9 y10 y11 y12 y13 y14 y15 y16 y17) (foghornlaw04_StoreWrites.j4 (k + 1) y0 y1 y2 y3 y4 y5 y6 y7 y8 y9 y10 y11 y12 y13 y14 y15 y16 y17)) ∧ (∀ y0 y1 y2 y3 y4 y5 y6 y7 y8 y9 y10 y11 y12 y13 y14 y15 y16 y17 y18, LeO (foghornlaw04_StoreWrites.j3 k y0 y1 y2 y3 y4 y5 y6 y7 y8 y9 y10 y11 y12 y13 y14 y15 y16 y17 y18) (foghornlaw04_StoreWrites.j3 (k + 1) y0 y1 y2 y3 y4 y5 y6 y7 y8 y9 y10 y11 y12 y13 y14 y15 y16 y17 y18)) ∧ (∀ y0 y1 y2 y3 y4 y5 y6 y7 y8 y9 y10 y11 y12 y13 y14 y15 y16 y17 y18 y19 y20 y21 y22 y23 y24 y25 y26 y27, LeO (foghornlaw04_StoreWrites.j0 k y0 y1 y2 y3 y4 y5 y6 y7 y8 y9 y10 y11 y12 y13 y14 y15 y16 y17 y18 y19 y20 y21 y22 y23 y24 y25 y26 y27) (foghornlaw04_StoreWrites.j0 (k + 1) y0 y1 y2 y3 y4 y5 y6 y7 y8 y9 y10 y11 y12 y13 y14 y15 y16 y17 y18 y19 y20 y21 y22 y23 y24 y25 y26 y27))
 | 0 => ⟨fun _ _ _ _ _ _ _ _ _ _ _ _ _ _ _ _ _ _ _ _ _ _ _ _ _ _ _ r h => by simp [foghornlaw04_StoreWrites.j1] at h, fun _ _ _ _ _ _ _ _ _ _ _ _ _ _ _ _ _ r h => by simp [foghornlaw04_StoreWrites.j2] at h, fun _ _ _ _ _ _ _ _ _ _ _ _ _ _ _ _ _ _ r h => by simp [foghornlaw04_StoreWrites.j4] at h, fun _ _ _ _ _ _ _ _ _ _ _ _ _ _ _ _ _ _ _ r h => by simp [foghornlaw04_StoreWrites.j3] at h, fun _ _ _ _ _ _ _ _ _ _ _ _ _ _ _ _ _ _ _ _ _ _ _ _ _ _ _ _ r h => by simp [foghornlaw04_StoreWrites.j0] at h⟩
 | k + 1 => by
  obtain ⟨ih0, ih1, ih2, ih3, ih4⟩ := foghornlaw04_StoreWrites.mono_l k
  refine ⟨?_, ?_, ?_, ?_, ?_⟩
  ·intro y0 y1 y2 y3 y4 y5 y6 y7 y8 y9 y10 y11 y12 y13 y14 y15 y16 y17 y18 y19 y20 y21 y22 y23 y24 y25 y26
   unfold foghornlaw04_StoreWrites.j1
   repeat' first
   | (with_reducible exact ih0 _ _ _ _ _ _ _ _ _ _ _ _ _ _ _ _ _ _ _ _ _ _ _ _ _ _ _)
   | (with_reducible exact ih1 _ _ _ _ _ _ _ _ _ _ _ _ _ _ _ _ _)
   | (with_reducible exact ih2 _ _ _ _ _ _ _ _ _ _ _ _ _ _ _ _ _ _)
   | (with_reducible exact ih3 _ _ _ _ _ _ _ _ _ _ _ _ _ _ _ _ _ _ _)
   | (with_reducible exact ih4 _ _ _ _ _ _ _ _ _ _ _ _ _ _ _ _ _ _ _ _ _ _ _ _ _ _ _ _)
   | (with_reducible exact foghornlaw04_alive.mono _)
   | (with_reducible exact foghornlaw04_cut.mono _ _ _ _ _ _)
   | (with_reducible exact foghornlaw04_few.mono _ _ _)
   | (with_reducible exact foghornref04_Append.mono _ _ _ _ _ _ _ _ _)
   | (with_reducible exact foghornref04_Faults.mono _ _)
   | (with_reducible exact foghornref04_Payloads.mono _ _)
   | (with_reducible exact foghornref04_Right.mono _ _ _ _ _ _)
   | (with_reducible exact foghornref04_Same.mono _ _ _ _ _ _ _ _ _ _ _)
   | (with_reducible exact foghornref04_Turn.mono _ _ _ _ _ _ _ _)
   | (with_reducible exact LeO.refl _)
   | (with_reducible exact LeO.none _)
   | (with_reducible refine LeO.ite ?_ ?_)
   | (with_reducible refine LeO.bind ?_ (fun _ => ?_))
   | exact ih0 _ _ _ _ _ _ _ _ _ _ _ _ _ _ _ _ _ _ _ _ _ _ _ _ _ _ _
   | exact ih1 _ _ _ _ _ _ _ _ _ _ _ _ _ _ _ _ _
   | exact ih2 _ _ _ _ _ _ _ _ _ _ _ _ _ _ _ _ _ _
   | exact ih3 _ _ _ _ _ _ _ _ _ _ _ _ _ _ _ _ _ _ _
   | exact ih4 _ _ _ _ _ _ _ _ _ _ _ _ _ _ _ _ _ _ _ _ _ _ _ _ _ _ _ _
   | exact foghornlaw04_alive.mono _
   | exact foghornlaw04_cut.mono _ _ _ _ _ _
   | exact foghornlaw04_few.mono _ _ _
   | exact foghornref04_Append.mono _ _ _ _ _ _ _ _ _
   | exact foghornref04_Faults.mono _ _
   | exact foghornref04_Payloads.mono _ _
   | exact foghornref04_Right.mono _ _ _ _ _ _
   | exact foghornref04_Same.mono _ _ _ _ _ _ _ _ _ _ _
   | exact foghornref04_Turn.mono _ _ _ _ _ _ _ _
   | exact LeO.none _
   | refine LeO.ite ?_ ?_
   | refine LeO.bind ?_ (fun _ => ?_)
  ·intro y0 y1 y2 y3 y4 y5 y6 y7 y8 y9 y10 y11 y12 y13 y14 y15 y16
   unfold foghornlaw04_StoreWrites.j2
   repeat' first
   | (with_reducible exact ih0 _ _ _ _ _ _ _ _ _ _ _ _ _ _ _ _ _ _ _ _ _ _ _ _ _ _ _)
   | (with_reducible exact ih1 _ _ _ _ _ _ _ _ _ _ _ _ _ _ _ _ _)
   | (with_reducible exact ih2 _ _ _ _ _ _ _ _ _ _ _ _ _ _ _ _ _ _)
   | (with_reducible exact ih3 _ _ _ _ _ _ _ _ _ _ _ _ _ _ _ _ _ _ _)
   | (with_reducible exact ih4 _ _ _ _ _ _ _ _ _ _ _ _ _ _ _ _ _ _ _ _ _ _ _ _ _ _ _ _)
   | (with_reducible exact foghornlaw04_alive.mono _)
   | (with_reducible exact foghornlaw04_cut.mono _ _ _ _ _ _)
   | (with_reducible exact foghornlaw04_few.mono _ _ _)
   | (with_reducible exact foghornref04_Append.mono _ _ _ _ _ _ _ _ _)
   | (with_reducible exact foghornref04_Faults.mono _ _)
   | (with_reducible exact foghornref04_Payloads.mono _ _)
   | (with_reducible exact foghornref04_Right.mono _ _ _ _ _ _)
   | (with_reducible exact foghornref04_Same.mono _ _ _ _ _ _ _ _ _ _ _)
   | (with_reducible exact foghornref04_Turn.mono _ _ _ _ _ _ _ _)
   | (with_reducible exact LeO.refl _)
   | (with_reducible exact LeO.none _)
   | (with_reducible refine LeO.ite ?_ ?_)
   | (with_reducible refine LeO.bind ?_ (fun _ => ?_))
   | exact ih0 _ _ _ _ _ _ _ _ _ _ _ _ _ _ _ _ _ _ _ _ _ _ _ _ _ _ _
   | exact ih1 _ _ _ _ _ _ _ _ _ _ _ _ _ _ _ _ _
   | exact ih2 _ _ _ _ _ _ _ _ _ _ _ _ _ _ _ _ _ _
   | exact ih3 _ _ _ _ _ _ _ _ _ _ _ _ _ _ _ _ _ _ _
   | exact ih4 _ _ _ _ _ _ _ _ _ _ _ _ _ _ _ _ _ _ _ _ _ _ _ _ _ _ _ _
   | exact foghornlaw04_alive.mono _
   | exact foghornlaw04_cut.mono _ _ _ _ _ _
   | exact foghornlaw04_few.mono _ _ _
   | exact foghornref04_Append.mono _ _ _ _ _ _ _ _ _
   | exact foghornref04_Faults.mono _ _
   | exact foghornref04_Payloads.mono _ _
   | exact foghornref04_Right.mono _ _ _ _ _ _
   | exact foghornref04_Same.mono _ _ _ _ _ _ _ _ _ _ _
   | exact foghornref04_Turn.mono _ _ _ _ _ _ _ _
   | exact LeO.none _
   | refine LeO.ite ?_ ?_
   | refine LeO.bind ?_ (fun _ => ?_)
  ·intro y0 y1 y2 y3 y4 y5 y6 y7 y8 y9 y10 y11 y12 y13 y14 y15 y16 y17
   unfold foghornlaw04_StoreWrites.j4
   repeat' first
   | (with_reducible exact ih0 _ _ _ _ _ _ _ _ _ _ _ _ _ _ _ _ _ _ _ _ _ _ _ _ _ _ _)
   | (with_reducible exact ih1 _ _ _ _ _ _ _ _ _ _ _ _ _ _ _ _ _)
   | (with_reducible exact ih2 _ _ _ _ _ _ _ _ _ _ _ _ _ _ _ _ _ _)
   | (with_reducible exact ih3 _ _ _ _ _ _ _ _ _ _ _ _ _ _ _ _ _ _ _)
   | (with_reducible exact ih4 _ _ _ _ _ _ _ _ _ _ _ _ _ _ _ _ _ _ _ _ _ _ _ _ _ _ _ _)
   | (with_reducible exact foghornlaw04_alive.mono _)
   | (with_reducible exact foghornlaw04_cut.mono _ _ _ _ _ _)
   | (with_reducible exact foghornlaw04_few.mono _ _ _)
   | (with_reducible exact foghornref04_Append.mono _ _ _ _ _ _ _ _ _)
   | (with_reducible exact foghornref04_Faults.mono _ _)
   | (with_reducible exact foghornref04_Payloads.mono _ _)
   | (with_reducible exact foghornref04_Right.mono _ _ _ _ _ _)
   | (with_reducible exact foghornref04_Same.mono _ _ _ _ _ _ _ _ _ _ _)
   | (with_reducible exact foghornref04_Turn.mono _ _ _ _ _ _ _ _)
   | (with_reducible exact LeO.refl _)
   | (with_reducible exact LeO.none _)
   | (with_reducible refine LeO.ite ?_ ?_)
   | (with_reducible refine LeO.bind ?_ (fun _ => ?_))
   | exact ih0 _ _ _ _ _ _ _ _ _ _ _ _ _ _ _ _ _ _ _ _ _ _ _ _ _ _ _
   | exact ih1 _ _ _ _ _ _ _ _ _ _ _ _ _ _ _ _ _
   | exact ih2 _ _ _ _ _ _ _ _ _ _ _ _ _ _ _ _ _ _
   | exact ih3 _ _ _ _ _ _ _ _ _ _ _ _ _ _ _ _ _ _ _
   | exact ih4 _ _ _ _ _ _ _ _ _ _ _ _ _ _ _ _ _ _ _ _ _ _ _ _ _ _ _ _
   | exact foghornlaw04_alive.mono _
   | exact foghornlaw04_cut.mono _ _ _ _ _ _
   | exact foghornlaw04_few.mono _ _ _
   | exact foghornref04_Append.mono _ _ _ _ _ _ _ _ _
   | exact foghornref04_Faults.mono _ _
   | exact foghornref04_Payloads.mono _ _
   | exact foghornref04_Right.mono _ _ _ _ _ _
   | exact foghornref04_Same.mono _ _ _ _ _ _ _ _ _ _ _
   | exact foghornref04_Turn.mono _ _ _ _ _ _ _ _
   | exact LeO.none _
   | refine LeO.ite ?_ ?_
   | refine LeO.bind ?_ (fun _ => ?_)
  ·intro y0 y1 y2 y3 y4 y5 y6 y7 y8 y9 y10 y11 y12 y13 y14 y15 y16 y17 y18
   unfold foghornlaw04_StoreWrites.j3
   repeat' first
   | (with_reducible exact ih0 _ _ _ _ _ _ _ _ _ _ _ _ _ _ _ _ _ _ _ _ _ _ _ _ _ _ _)
   | (with_reducible exact ih1 _ _ _ _ _ _ _ _ _ _ _ _ _ _ _ _ _)
   | (with_reducible exact ih2 _ _ _ _ _ _ _ _ _ _ _ _ _ _ _ _ _ _)
   | (with_reducible exact ih3 _ _ _ _ _ _ _ _ _ _ _ _ _ _ _ _ _ _ _)
   | (with_reducible exact ih4 _ _ _ _ _ _ _ _ _ _ _ _ _ _ _ _ _ _ _ _ _ _ _ _ _ _ _ _)
   | (with_reducible exact foghornlaw04_alive.mono _)
   | (with_reducible exact foghornlaw04_cut.mono _ _ _ _ _ _)
   | (with_reducible exact foghornlaw04_few.mono _ _ _)
   | (with_reducible exact foghornref04_Append.mono _ _ _ _ _ _ _ _ _)
   | (with_reducible exact foghornref04_Faults.mono _ _)
   | (with_reducible exact foghornref04_Payloads.mono _ _)
   | (with_reducible exact foghornref04_Right.mono _ _ _ _ _ _)
   | (with_reducible exact foghornref04_Same.mono _ _ _ _ _ _ _ _ _ _ _)
   | (with_reducible exact foghornref04_Turn.mono _ _ _ _ _ _ _ _)
   | (with_reducible exact LeO.refl _)
   | (with_reducible exact LeO.none _)
   | (with_reducible refine LeO.ite ?_ ?_)
   | (with_reducible refine LeO.bind ?_ (fun _ => ?_))
   | exact ih0 _ _ _ _ _ _ _ _ _ _ _ _ _ _ _ _ _ _ _ _ _ _ _ _ _ _ _
   | exact ih1 _ _ _ _ _ _ _ _ _ _ _ _ _ _ _ _ _
   | exact ih2 _ _ _ _ _ _ _ _ _ _ _ _ _ _ _ _ _ _
   | exact ih3 _ _ _ _ _ _ _ _ _ _ _ _ _ _ _ _ _ _ _
   | exact ih4 _ _ _ _ _ _ _ _ _ _ _ _ _ _ _ _ _ _ _ _ _ _ _ _ _ _ _ _
   | exact foghornlaw04_alive.mono _
   | exact foghornlaw04_cut.mono _ _ _ _ _ _
   | exact foghornlaw04_few.mono _ _ _
   | exact foghornref04_Append.mono _ _ _ _ _ _ _ _ _
   | exact foghornref04_Faults.mono _ _
   | exact foghornref04_Payloads.mono _ _
   | exact foghornref04_Right.mono _ _ _ _ _ _
   | exact foghornref04_Same.mono _ _ _ _ _ _ _ _ _ _ _
   | exact foghornref04_Turn.mono _ _ _ _ _ _ _ _
   | exact LeO.none _
   | refine LeO.ite ?_ ?_
   | refine LeO.bind ?_ (fun _ => ?_)
  ·intro y0 y1 y2 y3 y4 y5 y6 y7 y8 y9 y10 y11 y12 y13 y14 y15 y16 y17 y18 y19 y20 y21 y22 y23 y24 y25 y26 y27
   unfold foghornlaw04_StoreWrites.j0
   repeat' first
   | (with_reducible exact ih0 _ _ _ _ _ _ _ _ _ _ _ _ _ _ _ _ _ _ _ _ _ _ _ _ _ _ _)
   | (with_reducible exact ih1 _ _ _ _ _ _ _ _ _ _ _ _ _ _ _ _ _)
   | (with_reducible exact ih2 _ _ _ _ _ _ _ _ _ _ _ _ _ _ _ _ _ _)
   | (with_reducible exact ih3 _ _ _ _ _ _ _ _ _ _ _ _ _ _ _ _ _ _ _)
   | (with_reducible exact ih4 _ _ _ _ _ _ _ _ _ _ _ _ _ _ _ _ _ _ _ _ _ _ _ _ _ _ _ _)
   | (with_reducible exact foghornlaw04_alive.mono _)
   | (with_reducible exact foghornlaw04_cut.mono _ _ _ _ _ _)
   | (with_reducible exact foghornlaw04_few.mono _ _ _)
   | (with_reducible exact foghornref04_Append.mono _ _ _ _ _ _ _ _ _)
   | (with_reducible exact foghornref04_Faults.mono _ _)
   | (with_reducible exact foghornref04_Payloads.mono _ _)
   | (with_reducible exact foghornref04_Right.mono _ _ _ _ _ _)
   | (with_reducible exact foghornref04_Same.mono _ _ _ _ _ _ _ _ _ _ _)
   | (with_reducible exact foghornref04_Turn.mono _ _ _ _ _ _ _ _)
   | (with_reducible exact LeO.refl _)
   | (with_reducible exact LeO.none _)
   | (with_reducible refine LeO.ite ?_ ?_)
   | (with_reducible refine LeO.bind ?_ (fun _ => ?_))
   | exact ih0 _ _ _ _ _ _ _ _ _ _ _ _ _ _ _ _ _ _ _ _ _ _ _ _ _ _ _
   | exact ih1 _ _ _ _ _ _ _ _ _ _ _ _ _ _ _ _ _
   | exact ih2 _ _ _ _ _ _ _ _ _ _ _ _ _ _ _ _ _ _
   | exact ih3 _ _ _ _ _ _ _ _ _ _ _ _ _ _ _ _ _ _ _
   | exact ih4 _ _ _ _ _ _ _ _ _ _ _ _ _ _ _ _ _ _ _ _ _ _ _ _ _ _ _ _
   | exact foghornlaw04_alive.mono _
   | exact foghornlaw04_cut.mono _ _ _ _ _ _
   | exact foghornlaw04_few.mono _ _ _
   | exact foghornref04_Append.mono _ _ _ _ _ _ _ _ _
   | exact foghornref04_Faults.mono _ _
   | exact foghornref04_Payloads.mono _ _
   | exact foghornref04_Right.mono _ _ _ _ _ _
   | exact foghornref04_Same.mono _ _ _ _ _ _ _ _ _ _ _
   | exact foghornref04_Turn.mono _ _ _ _ _ _ _ _
   | exact LeO.none _
   | refine LeO.ite ?_ ?_
   | refine LeO.bind ?_ (fun _ => ?_)
def foghornlaw04_StoreWrites.T1 : Bool × List (List Nat × List Nat) := (true, [([], []), ([0], [0]), ([], []), ([], []), ([3], [3]), ([4], [4]), ([2, 5], [2, 5]), ([], []), ([7, 1], [7]), ([], []), ([], []), ([10], [10]), ([11], [11]), ([9, 12], [9, 12]), ([1, 8, 0, 1], [1]), ([6, 14, 0, 1, 2, 3, 4, 5, 6, 14], [2, 3, 6]), ([8, 15, 0, 1, 2, 3, 4, 5, 6, 7, 8, 14, 15], [7, 8]), ([13, 16, 0, 1, 2, 3, 4, 5, 6, 7, 8, 9, 10, 11, 12, 13, 14, 15, 16], [9, 10, 13])])
def foghornlaw04_StoreWrites.B1 : List Nat := [0, 1, 0, 0, 8, 24, 60, 0, 131, 0, 0, 1024, 3072, 7680, 387, 16895, 49663, 131071]
theorem foghornlaw04_StoreWrites.tab1 : rtab .any (opsOf Try.f5 1) = foghornlaw04_StoreWrites.T1 := by kernel_rfl
theorem foghornlaw04_StoreWrites.bits1 : waitsOk foghornlaw04_StoreWrites.T1.2 foghornlaw04_StoreWrites.B1 = true := by kernel_rfl
set_option maxHeartbeats 8000000 in
set_option maxRecDepth 100000 in
theorem foghornlaw04_StoreWrites.calls (k : Nat) (A0_0 : Option Addr) (c0_0 : Nat) (l0_0 : List ByteArray) (a0_1 : Int) (a0_2 : Int) (a0_3 : Int) (a0_4 : Bool) (a1 : ByteArray) (a2_0 : Int) (a2_1 : Int) (A3 : Option Addr) (c3 : Nat) (l3 : List ByteArray) (A4 : Option Addr) (c4 : Nat) (l4 : List (S45)) (r : Bool) (w : World) (hr0_0 : Kd.C Kd.string w A0_0 l0_0.length l0_0) (hc0_0 : l0_0.length ≤ c0_0) (hr3 : Kd.C Kd.string w A3 l3.length l3) (hc3 : l3.length ≤ c3) (hr4 : Kd.C k45 w A4 l4.length l4) (hc4 : l4.length ≤ c4) (h : foghornlaw04_StoreWrites.f k l0_0 a0_1 a0_2 a0_3 a0_4 a1 a2_0 a2_1 l3 l4 = some r) (hrt_ : r = true := by rfl) :
  Calls Try.prog 5 #[.agg #[.slice A0_0 l0_0.length c0_0, .int .i64 a0_1, .int .i64 a0_2, .int .i64 a0_3, .bool a0_4], .string a1, .agg #[.int .i64 a2_0, .int .i64 a2_1], .slice A3 l3.length c3, .slice A4 l4.length c4] w fun e w' => e = .returned (.bool r) ∧ Below w.heap.size w w' := by
 have hu26 := Try.underlying26
 have hu45 := Try.underlying45
 have hu24 := Try.underlying24
 have HR0_0 := aA hr0_0
 have HC0_0 := aA hc0_0
 clear hr0_0 hc0_0
 have HR3 := aA hr3
 have HC3 := aA hc3
 clear hr3 hc3
 have HR4 := aA hr4
 have HC4 := aA hc4
 clear hr4 hc4
 have HB := aA (Below.refl w.heap.size w)
 have H : ((foghornlaw04_cut.f k l0_0 a0_1 a0_2 a0_3 a0_4).bind fun bt435 => (if 0 ≤ (mn (a1.size : Int) 130) then (if (mn (a1.size : Int) 130) ≤ (a1.size : Int) then ((foghornlaw04_few.f k l3 70).bind fun t442 => (if 0 ≤ (mn (l4.length : Int) 70) then (if (mn (l4.length : Int) 70) ≤ (l4.length : Int) then ((some (l4.take ((mn (l4.length : Int) 70) : Int).toNat : List (S45))).bind fun y445 => ((store_Append.f bt435.1 bt435.2.1 bt435.2.2.1 bt435.2.2.2.1 bt435.2.2.2.2 (a1.extract 0 ((mn (a1.size : Int) 130) : Int).toNat) a2_0 a2_1).bind fun bt449 => ((store_Turn.f bt435.1 bt435.2.1 bt435.2.2.1 bt435.2.2.2.1 bt435.2.2.2.2 t442 y445).bind fun bt458 => ((foghornlaw04_alive.f k).bind fun t468 => (if t468 = true then ((foghornref04_Right.f k bt435.1 bt435.2.1 bt435.2.2.1 bt435.2.2.2.1 bt435.2.2.2.2).bind fun t469 => (if t469 = true then ((foghornref04_Fault.f a2_0 a2_1).bind fun t470 => (foghornlaw04_StoreWrites.j0 k (a1.extract 0 ((mn (a1.size : Int) 130) : Int).toNat) t442 y445 bt449.2.2.2.2.2 bt458.2.2.2.2.2 0 (!t470) bt435.1 bt435.2.1 bt435.2.2.1 bt435.2.2.2.1 bt435.2.2.2.2 a2_0 a2_1 bt449.1 bt449.2.1 bt449.2.2.1 bt449.2.2.2.1 bt449.2.2.2.2.1 bt458.1 bt458.2.1 bt458.2.2.1 bt458.2.2.2.1 bt458.2.2.2.2.1 0 0 0 false)) else (foghornlaw04_StoreWrites.j0 k (a1.extract 0 ((mn (a1.size : Int) 130) : Int).toNat) t442 y445 bt449.2.2.2.2.2 bt458.2.2.2.2.2 0 true bt435.1 bt435.2.1 bt435.2.2.1 bt435.2.2.2.1 bt435.2.2.2.2 a2_0 a2_1 bt449.1 bt449.2.1 bt449.2.2.1 bt449.2.2.2.1 bt449.2.2.2.2.1 bt458.1 bt458.2.1 bt458.2.2.1 bt458.2.2.2.1 bt458.2.2.2.2.1 0 0 0 false))) else (some false)))))) else (none)) else (none))) else (none)) else (none))) = some r := h
 clear h
 replace H := Option.bind_eq_some_iff.mp H
 obtain ⟨⟨t435, t438, t439, t440, t441⟩, A60, H⟩ := H
 have A6 := aA A60
 clear A60
 obtain ⟨ji7, hji7⟩ : ∃ j_ : Int, (mn (a1.size : Int) 130) = j_ := ⟨_, rfl⟩
 replace H : (if 0 ≤ (ji7) then (if (ji7) ≤ (a1.size : Int) then ((foghornlaw04_few.f k l3 70).bind fun t442 => (if 0 ≤ (mn (l4.length : Int) 70) then (if (mn (l4.length : Int) 70) ≤ (l4.length : Int) then ((some (l4.take ((mn (l4.length : Int) 70) : Int).toNat : List (S45))).bind fun y445 => ((store_Append.f t435 t438 t439 t440 t441 (a1.extract 0 ((ji7) : Int).toNat) a2_0 a2_1).bind fun bt449 => ((store_Turn.f t435 t438 t439 t440 t441 t442 y445).bind fun bt458 => ((foghornlaw04_alive.f k).bind fun t468 => (if t468 = true then ((foghornref04_Right.f k t435 t438 t439 t440 t441).bind fun t469 => (if t469 = true then ((foghornref04_Fault.f a2_0 a2_1).bind fun t470 => (foghornlaw04_StoreWrites.j0 k (a1.extract 0 ((ji7) : Int).toNat) t442 y445 bt449.2.2.2.2.2 bt458.2.2.2.2.2 0 (!t470) t435 t438 t439 t440 t441 a2_0 a2_1 bt449.1 bt449.2.1 bt449.2.2.1 bt449.2.2.2.1 bt449.2.2.2.2.1 bt458.1 bt458.2.1 bt458.2.2.1 bt458.2.2.2.1 bt458.2.2.2.2.1 0 0 0 false)) else (foghornlaw04_StoreWrites.j0 k (a1.extract 0 ((ji7) : Int).toNat) t442 y445 bt449.2.2.2.2.2 bt458.2.2.2.2.2 0 true t435 t438 t439 t440 t441 a2_0 a2_1 bt449.1 bt449.2.1 bt449.2.2.1 bt449.2.2.2.1 bt449.2.2.2.2.1 bt458.1 bt458.2.1 bt458.2.2.1 bt458.2.2.2.1 bt458.2.2.2.2.1 0 0 0 false))) else (some false)))))) else (none)) else (none))) else (none)) else (none)) = some r := by first | (rw [hji7] at H; exact H) | (simp only [hji7] at H ⊢; exact H)
 (try rw [hji7] at A6)
 (try (have hji7h : ji7 ≤ 130 := by (rw [← hji7]; unfold mn; (repeat' split) <;> omega)))
 (try (have hji7g : ji7 ≤ 64 := by omega))
 (try (have hji7l : 0 ≤ ji7 := by (rw [← hji7]; unfold mn; (repeat' split) <;> omega)))
 (try (have hji7m : 0 ≤ ji7 := by omega))
 have hji7_ : (if 130 < (a1.size : Int) then 130 else (a1.size : Int)) = ji7 := hji7
 by_cases c8 : 0 ≤ (ji7)
 ·rw [if_pos c8] at H
  have c8b0 := eq_true c8
  have c8b1 := decide_eq_true c8
  clear c8
  by_cases c9 : (ji7) ≤ (a1.size : Int)
  ·rw [if_pos c9] at H
   have c9b0 := eq_true c9
   have c9b1 := decide_eq_true c9
   clear c9
   replace H := Option.bind_eq_some_iff.mp H
   obtain ⟨t442, A100, H⟩ := H
   have A10 := aA A100
   clear A100
   obtain ⟨ji11, hji11⟩ : ∃ j_ : Int, (mn (l4.length : Int) 70) = j_ := ⟨_, rfl⟩
   replace H : (if 0 ≤ (ji11) then (if (ji11) ≤ (l4.length : Int) then ((some (l4.take ((ji11) : Int).toNat : List (S45))).bind fun y445 => ((store_Append.f t435 t438 t439 t440 t441 (a1.extract 0 ((ji7) : Int).toNat) a2_0 a2_1).bind fun bt449 => ((store_Turn.f t435 t438 t439 t440 t441 t442 y445).bind fun bt458 => ((foghornlaw04_alive.f k).bind fun t468 => (if t468 = true then ((foghornref04_Right.f k t435 t438 t439 t440 t441).bind fun t469 => (if t469 = true then ((foghornref04_Fault.f a2_0 a2_1).bind fun t470 => (foghornlaw04_StoreWrites.j0 k (a1.extract 0 ((ji7) : Int).toNat) t442 y445 bt449.2.2.2.2.2 bt458.2.2.2.2.2 0 (!t470) t435 t438 t439 t440 t441 a2_0 a2_1 bt449.1 bt449.2.1 bt449.2.2.1 bt449.2.2.2.1 bt449.2.2.2.2.1 bt458.1 bt458.2.1 bt458.2.2.1 bt458.2.2.2.1 bt458.2.2.2.2.1 0 0 0 false)) else (foghornlaw04_StoreWrites.j0 k (a1.extract 0 ((ji7) : Int).toNat) t442 y445 bt449.2.2.2.2.2 bt458.2.2.2.2.2 0 true t435 t438 t439 t440 t441 a2_0 a2_1 bt449.1 bt449.2.1 bt449.2.2.1 bt449.2.2.2.1 bt449.2.2.2.2.1 bt458.1 bt458.2.1 bt458.2.2.1 bt458.2.2.2.1 bt458.2.2.2.2.1 0 0 0 false))) else (some false)))))) else (none)) else (none)) = some r := by first | (rw [hji11] at H; exact H) | (simp only [hji11] at H ⊢; exact H)
   (try rw [hji11] at A6)
   (try rw [hji11] at A10)
   (try (have hji11h : ji11 ≤ 70 := by (rw [← hji11]; unfold mn; (repeat' split) <;> omega)))
   (try (have hji11g : ji11 ≤ 64 := by omega))
   (try (have hji11l : 0 ≤ ji11 := by (rw [← hji11]; unfold mn; (repeat' split) <;> omega)))
   (try (have hji11m : 0 ≤ ji11 := by omega))
   have hji11_ : (if 70 < (l4.length : Int) then 70 else (l4.length : Int)) = ji11 := hji11
   by_cases c12 : 0 ≤ (ji11)
   ·rw [if_pos c12] at H
    have c12b0 := eq_true c12
    have c12b1 := decide_eq_true c12
    clear c12
    by_cases c13 : (ji11) ≤ (l4.length : Int)
    ·rw [if_pos c13] at H
     have c13b0 := eq_true c13
     have c13b1 := decide_eq_true c13
     clear c13
     obtain ⟨y445, hy445⟩ : ∃ y_ : List (S45), y_ = (l4.take ((ji11) : Int).toNat) := ⟨_, rfl⟩
     replace H : ((store_Append.f t435 t438 t439 t440 t441 (a1.extract 0 ((ji7) : Int).toNat) a2_0 a2_1).bind fun bt449 => ((store_Turn.f t435 t438 t439 t440 t441 t442 y445).bind fun bt458 => ((foghornlaw04_alive.f k).bind fun t468 => (if t468 = true then ((foghornref04_Right.f k t435 t438 t439 t440 t441).bind fun t469 => (if t469 = true then ((foghornref04_Fault.f a2_0 a2_1).bind fun t470 => (foghornlaw04_StoreWrites.j0 k (a1.extract 0 ((ji7) : Int).toNat) t442 y445 bt449.2.2.2.2.2 bt458.2.2.2.2.2 0 (!t470) t435 t438 t439 t440 t441 a2_0 a2_1 bt449.1 bt449.2.1 bt449.2.2.1 bt449.2.2.2.1 bt449.2.2.2.2.1 bt458.1 bt458.2.1 bt458.2.2.1 bt458.2.2.2.1 bt458.2.2.2.2.1 0 0 0 false)) else (foghornlaw04_StoreWrites.j0 k (a1.extract 0 ((ji7) : Int).toNat) t442 y445 bt449.2.2.2.2.2 bt458.2.2.2.2.2 0 true t435 t438 t439 t440 t441 a2_0 a2_1 bt449.1 bt449.2.1 bt449.2.2.1 bt449.2.2.2.1 bt449.2.2.2.2.1 bt458.1 bt458.2.1 bt458.2.2.1 bt458.2.2.2.1 bt458.2.2.2.2.1 0 0 0 false))) else (some false))))) = some r := by first | (rw [hy445]; with_reducible exact H) | (have H2_ := (Option.bind_some _ _).symm.trans H; rw [hy445]; with_reducible exact H2_) | (have H2_ := (Option.bind_some _ _).symm.trans H; with_reducible exact H2_) | with_reducible exact H | (rw [hy445]; exact H) | exact H
     have Ny445 := aA hy445
     clear hy445
     replace H := Option.bind_eq_some_iff.mp H
     obtain ⟨⟨t449, t452, t453, t454, t455, t456⟩, A140, H⟩ := H
     have A14 := aA A140
     clear A140
     replace H := Option.bind_eq_some_iff.mp H
     obtain ⟨⟨t458, t461, t462, t463, t464, t465⟩, A150, H⟩ := H
     have A15 := aA A150
     clear A150
     replace H := Option.bind_eq_some_iff.mp H
     obtain ⟨t468, A160, H⟩ := H
     have A16 := aA A160
     clear A160
     by_cases c17 : t468 = true
     ·subst c17
      have H1 : ((foghornref04_Right.f k t435 t438 t439 t440 t441).bind fun t469 => (if t469 = true then ((foghornref04_Fault.f a2_0 a2_1).bind fun t470 => (foghornlaw04_StoreWrites.j0 k (a1.extract 0 ((ji7) : Int).toNat) t442 y445 t456 t465 0 (!t470) t435 t438 t439 t440 t441 a2_0 a2_1 t449 t452 t453 t454 t455 t458 t461 t462 t463 t464 0 0 0 false)) else (foghornlaw04_StoreWrites.j0 k (a1.extract 0 ((ji7) : Int).toNat) t442 y445 t456 t465 0 true t435 t438 t439 t440 t441 a2_0 a2_1 t449 t452 t453 t454 t455 t458 t461 t462 t463 t464 0 0 0 false))) = some r := by rw [if_pos rfl] at H; exact H
      clear H
      have H := H1
      clear H1
      have HC18 := aA H
      clear H
      go_enter Try.func5, Try.ntmps5
      try go_wp2_with (first | ((with_reducible refine gate_dst (N := 5) rfl ?_); refine box_event ?hg (N := 5) ?hd (cs := #[.slice A0_0 l0_0.length c0_0, .int .i64 a0_1, .int .i64 a0_2, .int .i64 a0_3, .bool a0_4]) (t := 26) ?hr ?_; (case hd => rfl); (case hg => rfl); (case hr => first | (go_simp; done) | (go_simp; rfl)); intro gb433 hg w19 hbox hb; have n0_ := aA (below_step mB hb); have n1_ := aA (hbox); have n2_ := aA ((bZ hg mB)); have n3_ := aA ((bZ hg mB)); clear HB; have HB := n0_; have BK433 := n1_; have GW433 := n2_; have GE433 := n3_; clear n0_ n1_ n2_ n3_ hb hbox hg) | ((with_reducible refine gate_dst (N := 7) rfl ?_); refine box_event ?hg (N := 7) ?hd (cs := #[.int .i64 a2_0, .int .i64 a2_1]) (t := 45) ?hr ?_; (case hd => rfl); (case hg => rfl); (case hr => first | (go_simp; done) | (go_simp; rfl)); intro gb434 hg w20 hbox hb; have n0_ := aA (bB BK433.out hb); have n1_ := aA (below_step (mD1 GE433.out) hb); have n2_ := aA (hbox); have n3_ := aA ((bZ hg (mD1 GE433.out))); have n4_ := aA ((bZ hg (mD1 GE433.out))); have n5_ := aA ((bL hg BK433.out)); have n6_ := aA ((bG hg BK433.out)); clear BK433 HB; have BK433 := n0_; have HB := n1_; have BK434 := n2_; have GW434 := n3_; have GE434 := n4_; have NB433_434 := n5_; have NB434_433 := n6_; clear n0_ n1_ n2_ n3_ n4_ n5_ n6_ hb hbox hg))
      have n0_ := aA (blk_drew BK433.out)
      have n1_ := aA (blk_drew BK434.out)
      have n2_ := aA (below_drew1 HB.out)
      clear BK433
      clear BK434
      clear HB
      have BK433 := n0_
      have BK434 := n1_
      have HB := n2_
      clear n0_ n1_ n2_
      have q22 : ((ji11) : Int) ≤ ((l4.length : Int) : Int) := of_decide_eq_true (by first | (with_reducible assumption) | assumption)
      obtain ⟨i022, hi022, _, hsz22, _⟩ := info_parts info45
      have hroom22 : l4.length ≤ c4 := HC4.out
      have hC22 : Kd.C k45 _ A4 l4.length l4 := HR4.out
      have hcut22 := cut_to (P := Try.prog) 47 45 .i64 Try.underlying47 hi022 A4 l4.length c4 (ji11) (of_decide_eq_true (by first | (with_reducible assumption) | assumption)) q22 hroom22
      have hr22 := Kd.C_take (m := ((ji11) : Int).toNat) hC22 (by omega)
      have hy22 : y445.length = ((ji11) : Int).toNat := (by rw [Ny445.out, List.length_take]; omega)
      rw [← Ny445.out] at hr22
      rw [← hy22] at hcut22
      have HR448 := aA hr22
      have HC448 := aA (show y445.length ≤ c4 from by omega)
      clear hr22 hC22 hroom22 hi022 hsz22
      have KY22 := aA hy22
      clear hy22
      replace q22 := eq_true q22
      refine start_ (n := 18) (S := fun w' => w'.cell? ⟨gb433, 0, none⟩ = some (.slice A0_0 l0_0.length c0_0) ∧ w'.cell? ⟨gb433, 1, none⟩ = some (.int .i64 a0_1) ∧ w'.cell? ⟨gb433, 2, none⟩ = some (.int .i64 a0_2) ∧ w'.cell? ⟨gb433, 3, none⟩ = some (.int .i64 a0_3) ∧ w'.cell? ⟨gb433, 4, none⟩ = some (.bool a0_4)) (ds := [14]) (bA 18 0) (by kernel_rfl) rfl rfl (bC5 BK433.out) (fun hHeld => ?_); refine with_tabW foghornlaw04_StoreWrites.tab1 foghornlaw04_StoreWrites.bits1 (fun HT_ HW_ => ?_)
      generalize w20.drew = w21 at BK433 BK434 HB HR448 hHeld ⊢
      refine pure_ (i := 2) (N := some 23) (v := ?_) (a' := ?_) (bA 18 4) rfl rfl (any_of HT_.out (by kernel_rfl)) (fun _ _ _ h => h) (Or.inl ⟨by rfl, ?_⟩) ?_ ?_
      rotate_left
      ·intro w'
       go_simp
       with_reducible rfl
      rotate_left
      ·exact mP
      refine pure_ (i := 3) (N := some 24) (v := ?_) (a' := ?_) (bA 18 12) rfl rfl (any_of HT_.out (by kernel_rfl)) (fun _ _ _ h => h) (Or.inl ⟨by rfl, ?_⟩) ?_ ?_
      rotate_left
      ·intro w'
       go_simp
       with_reducible rfl
      rotate_left
      ·exact mP
      refine pure_ (i := 4) (N := some 25) (v := ?_) (a' := ?_) (bA 18 28) rfl rfl (any_of HT_.out (by kernel_rfl)) (fun _ _ _ h => h) (Or.inl ⟨by rfl, ?_⟩) ?_ ?_
      rotate_left
      ·intro w'
       go_simp
       with_reducible rfl
      rotate_left
      ·exact mP
      refine pure_ (i := 5) (N := some 26) (v := ?_) (a' := ?_) (bA 18 60) rfl rfl (any_of HT_.out (by kernel_rfl)) (fun _ _ _ h => h) (Or.inl ⟨by rfl, ?_⟩) ?_ ?_
      rotate_left
      ·intro w'
       go_simp
       with_reducible rfl
      rotate_left
      ·exact mP
      refine pure_ (i := 6) (N := some 27) (v := ?_) (a' := ?_) (bA 18 124) rfl rfl (any_of HT_.out (by kernel_rfl)) (fun _ _ _ h => h) (Or.inl ⟨by rfl, ?_⟩) ?_ ?_
      rotate_left
      ·intro w'
       go_simp
       with_reducible rfl
      rotate_left
      ·exact mP
      refine pure_ (i := 7) (N := some 28) (v := ?_) (a' := ?_) (bA 18 252) rfl rfl (any_of HT_.out (by kernel_rfl)) (fun _ _ _ h => h) (Or.inl ⟨by rfl, ?_⟩) ?_ ?_
      rotate_left
      ·intro w'
       go_simp
       with_reducible rfl
      rotate_left
      ·exact mP
      refine pure_ (i := 9) (N := some 30) (v := ?_) (a' := ?_) (bA 18 764) rfl rfl (any_of HT_.out (by kernel_rfl)) (fun _ _ _ h => h) (Or.inl ⟨by rfl, ?_⟩) ?_ ?_
      rotate_left
      ·intro w'
       go_simp
       with_reducible rfl
      rotate_left
      ·exact mP
      refine pure_ (i := 10) (N := some 31) (v := ?_) (a' := ?_) (bA 18 1788) rfl rfl (any_of HT_.out (by kernel_rfl)) (fun _ _ _ h => h) (Or.inl ⟨by rfl, ?_⟩) ?_ ?_
      rotate_left
      ·intro w'
       go_simp
       with_reducible rfl
      rotate_left
      ·exact mP
      refine pure_ (i := 11) (N := some 32) (v := ?_) (a' := ?_) (bA 18 3836) rfl rfl (any_of HT_.out (by kernel_rfl)) (fun _ _ _ h => h) (Or.inl ⟨by rfl, ?_⟩) ?_ ?_
      rotate_left
      ·intro w'
       go_simp
       with_reducible rfl
      rotate_left
      ·exact mP
      refine pure_ (i := 12) (N := some 33) (v := ?_) (a' := ?_) (bA 18 7932) rfl rfl (any_of HT_.out (by kernel_rfl)) (fun _ _ _ h => h) (Or.inl ⟨by rfl, ?_⟩) ?_ ?_
      rotate_left
      ·intro w'
       go_simp
       with_reducible rfl
      rotate_left
      ·exact mP
      refine pure_ (i := 13) (N := some 34) (v := ?_) (a' := ?_) (bA 18 16124) rfl rfl (any_of HT_.out (by kernel_rfl)) (fun _ _ _ h => h) (Or.inl ⟨by rfl, ?_⟩) ?_ ?_
      rotate_left
      ·intro w'
       go_simp
       with_reducible rfl
      rotate_left
      ·exact mP
      refine take_ (i := 0) (N := some 21) (v := ?_) (a' := ?_) (bA 18 16125) rfl rfl (take_ofW HT_.out HW_.out (by kernel_rfl)) (fun _ _ _ h => h) (Or.inl ⟨by rfl, ?_⟩) hHeld ?_ ?_
      rotate_left
      ·rintro w' ⟨s0, s1, s2, s3, s4⟩
       go_simp
       with_reducible rfl
      rotate_left
      ·exact mP
      refine one_ (i := 1) (N := some 22) (bA 18 16127) rfl rfl (one_of HT_.out (by kernel_rfl)) (by decide) (fun K hK => ?_)
      refine goes_ Try.func9 (by kernel_rfl) rfl #[.agg #[.slice A0_0 l0_0.length c0_0, .int .i64 a0_1, .int .i64 a0_2, .int .i64 a0_3, .bool a0_4]] (by rfl) rfl rfl mS ?_
      with_reducible refine (foghornlaw04_cut.calls k _ _ l0_0 a0_1 a0_2 a0_3 a0_4 t435 t438 t439 t440 t441 _ ?side1 ?side2 A6.out).mono ?_
      (case side1 => exact mC ((Kd.C_below HR0_0.out HB.out)))
      (case side2 => exact HC0_0.out)
      rintro e w23 ⟨v436, rfl, ho0, hb⟩
      refine ⟨_, rfl, ?_⟩
      have n0_ := aA (Kd.R_lower ho0 (below_size (mD2 GE433.out GE434.out)))
      have n1_ := aA (bB BK433.out hb)
      have n2_ := aA (bB BK434.out hb)
      have n3_ := aA (below_step (mD2 GE433.out GE434.out) hb)
      clear BK433
      clear BK434
      clear HB
      have HO437 := n0_
      have BK433 := n1_
      have BK434 := n2_
      have HB := n3_
      clear n0_ n1_ n2_ n3_
      (try clear hb)
      (try clear hb2)
      (try clear hk)
      (try clear hi)
      (try clear ho0)
      refine hK.out _ _ (bC5 BK433.out) (fun hHeld => ?_)
      clear hK K
      refine norm_ (a' := ?_) ?_ ?_
      rotate_left
      ·show Act.put _ (some 22) _ = _
       simp only [Act.put, List.setIfInBounds_toArray, List.set_cons_zero, List.set_cons_succ, i64_w, i32_w]
       rfl
      refine one_ (i := 8) (N := some 29) (bA 18 16383) rfl rfl (one_of HT_.out (by kernel_rfl)) (by decide) (fun K hK => ?_)
      refine goes_ Try.func10 (by kernel_rfl) rfl #[.slice A3 l3.length c3, .int .i64 70] (by rfl) rfl rfl mS ?_
      with_reducible refine (foghornlaw04_few.calls k _ _ l3 70 t442 _ ?side1 ?side2 A10.out).mono ?_
      (case side1 => exact mC ((Kd.C_below HR3.out HB.out)))
      (case side2 => exact HC3.out)
      rintro e w24 ⟨v443, rfl, ho0, hb⟩
      refine ⟨_, rfl, ?_⟩
      have n0_ := aA (Kd.R_elder' (mR HO437.out) (Kd.R_base ho0) hb)
      have n1_ := aA (Kd.R_lower (Kd.R_new' ho0 (Kd.R_lt (mR HO437.out))) (below_size (mD2 GE433.out GE434.out)))
      have n2_ := aA (bB BK433.out hb)
      have n3_ := aA (bB BK434.out hb)
      have n4_ := aA (below_step (mD2 GE433.out GE434.out) hb)
      clear HO437
      clear BK433
      clear BK434
      clear HB
      have HO437 := n0_
      have HO444 := n1_
      have BK433 := n2_
      have BK434 := n3_
      have HB := n4_
      clear n0_ n1_ n2_ n3_ n4_
      (try clear hb)
      (try clear hb2)
      (try clear hk)
      (try clear hi)
      (try clear ho0)
      obtain ⟨Ao25, co25, eo25⟩ := Kd.R_slice HO437.out
      (first | subst eo25 | (injection eo25 with f1_ f2_ f3_; have f4_ := f1_.symm; have f5_ := f3_.symm; clear f1_ f2_ f3_; subst f4_; subst f5_))
      refine hK.out _ _ (bC5 BK433.out) (fun hHeld => ?_)
      clear hK K
      refine norm_ (a' := ?_) ?_ ?_
      rotate_left
      ·show Act.put _ (some 29) _ = _
       simp only [Act.put, List.setIfInBounds_toArray, List.set_cons_zero, List.set_cons_succ, i64_w, i32_w]
       rfl
      refine last_ (i := 14) (N := none) (bA 18 32767) rfl rfl (one_of HT_.out (by kernel_rfl)) (by decide) (fun K hK => ?_)
      have hs26 : w24.cell? ⟨gb433, 0, none⟩ = some (.slice A0_0 l0_0.length c0_0) := (blk_cell BK433.out 0).trans rfl
      have hfs26 := blk_frozen BK433.out 0
      have hns26_1 := NB434_433.out
      have hms26_1 := NB433_434.out
      have hs27 : w24.cell? ⟨gb433, 1, none⟩ = some (.int .i64 a0_1) := (blk_cell BK433.out 1).trans rfl
      have hfs27 := blk_frozen BK433.out 1
      have hns27_1 := NB434_433.out
      have hms27_1 := NB433_434.out
      have hs28 : w24.cell? ⟨gb433, 2, none⟩ = some (.int .i64 a0_2) := (blk_cell BK433.out 2).trans rfl
      have hfs28 := blk_frozen BK433.out 2
      have hns28_1 := NB434_433.out
      have hms28_1 := NB433_434.out
      have hs29 : w24.cell? ⟨gb433, 3, none⟩ = some (.int .i64 a0_3) := (blk_cell BK433.out 3).trans rfl
      have hfs29 := blk_frozen BK433.out 3
      have hns29_1 := NB434_433.out
      have hms29_1 := NB433_434.out
      have hs30 : w24.cell? ⟨gb433, 4, none⟩ = some (.bool a0_4) := (blk_cell BK433.out 4).trans rfl
      have hfs30 := blk_frozen BK433.out 4
      have hns30_1 := NB434_433.out
      have hms30_1 := NB433_434.out
      refine skip_ (w1 := ?_) (by rfl) rfl ?_ ?_
      rotate_left
      ·go_simp
       rfl
      refine hK.out _ _ ?_
      clear hK K
      refine pure_ (i := 15) (N := some 1) (v := ?_) (a' := ?_) (bA 18 65535) rfl rfl (any_of HT_.out (by kernel_rfl)) (fun _ _ _ h => h) (Or.inl ⟨by rfl, ?_⟩) ?_ ?_
      rotate_left
      ·intro w'
       go_simp
       with_reducible rfl
      rotate_left
      ·exact mP
      refine pure_ (i := 16) (N := some 3) (v := ?_) (a' := ?_) (bA 18 131071) rfl rfl (any_of HT_.out (by kernel_rfl)) (fun _ _ _ h => h) (Or.inl ⟨by rfl, ?_⟩) ?_ ?_
      rotate_left
      ·intro w'
       go_simp
       with_reducible rfl
      rotate_left
      ·exact mP
      refine pure_ (i := 17) (N := some 4) (v := ?_) (a' := ?_) (bA 18 262143) rfl rfl (any_of HT_.out (by kernel_rfl)) (fun _ _ _ h => h) (Or.inl ⟨by rfl, ?_⟩) ?_ ?_
      rotate_left
      ·intro w'
       go_simp
       with_reducible rfl
      rotate_left
      ·exact mP
      refine done_ (done_of HT_.out (by kernel_rfl)) ?_
      have n0_ : Aside0 (Kd.R Kd.string 9 (((((w24.setCell ⟨gb433, 0, none⟩ (.slice Ao25 t435.length co25)).setCell ⟨gb433, 1, none⟩ (.int .i64 t438)).setCell ⟨gb433, 2, none⟩ (.int .i64 t439)).setCell ⟨gb433, 3, none⟩ (.int .i64 t440)).setCell ⟨gb433, 4, none⟩ (.bool t441)) w.heap.size (fun k_ => some k_ ≠ (v443 : Value).ownBlock) (.slice Ao25 t435.length co25) t435) := ⟨by (with_reducible repeat (first | apply Kd.R_alloc | apply Kd.R_drewN | apply Kd.R_drew)); exact Kd.R_mono (rF 4 (rF 3 (rF 2 (rF 1 (rF 0 (Kd.R_types HO437.out BK433.out (by decide))))))) (fun _ hk => hk.1.2)⟩
      have n1_ : Aside0 (Kd.R Kd.string 9 (((((w24.setCell ⟨gb433, 0, none⟩ (.slice Ao25 t435.length co25)).setCell ⟨gb433, 1, none⟩ (.int .i64 t438)).setCell ⟨gb433, 2, none⟩ (.int .i64 t439)).setCell ⟨gb433, 3, none⟩ (.int .i64 t440)).setCell ⟨gb433, 4, none⟩ (.bool t441)) w.heap.size (fun k_ => some k_ ≠ (.slice Ao25 t435.length co25 : Value).ownBlock) v443 t442) := ⟨by (with_reducible repeat (first | apply Kd.R_alloc | apply Kd.R_drewN | apply Kd.R_drew)); exact Kd.R_mono (rF 4 (rF 3 (rF 2 (rF 1 (rF 0 (Kd.R_types HO444.out BK433.out (by decide))))))) (fun _ hk => hk.1.2)⟩
      have n2_ : Aside0 ((((((w24.setCell ⟨gb433, 0, none⟩ (.slice Ao25 t435.length co25)).setCell ⟨gb433, 1, none⟩ (.int .i64 t438)).setCell ⟨gb433, 2, none⟩ (.int .i64 t439)).setCell ⟨gb433, 3, none⟩ (.int .i64 t440)).setCell ⟨gb433, 4, none⟩ (.bool t441)).heap[gb433]? = some (.cells #[.slice Ao25 t435.length co25, .int .i64 t438, .int .i64 t439, .int .i64 t440, .bool t441] 26 (0, 0))) := ⟨by (with_reducible repeat (first | refine blk_drewN ?_ _ | refine blk_drew ?_ | refine blk_alloc ?_ _)); refine blk_put (cs := #[.slice Ao25 t435.length co25, .int .i64 t438, .int .i64 t439, .int .i64 t440, .bool a0_4]) ?_ 4 _ rfl; (with_reducible repeat (first | refine blk_drewN ?_ _ | refine blk_drew ?_ | refine blk_alloc ?_ _)); refine blk_put (cs := #[.slice Ao25 t435.length co25, .int .i64 t438, .int .i64 t439, .int .i64 a0_3, .bool a0_4]) ?_ 3 _ rfl; (with_reducible repeat (first | refine blk_drewN ?_ _ | refine blk_drew ?_ | refine blk_alloc ?_ _)); refine blk_put (cs := #[.slice Ao25 t435.length co25, .int .i64 t438, .int .i64 a0_2, .int .i64 a0_3, .bool a0_4]) ?_ 2 _ rfl; (with_reducible repeat (first | refine blk_drewN ?_ _ | refine blk_drew ?_ | refine blk_alloc ?_ _)); refine blk_put (cs := #[.slice Ao25 t435.length co25, .int .i64 a0_1, .int .i64 a0_2, .int .i64 a0_3, .bool a0_4]) ?_ 1 _ rfl; (with_reducible repeat (first | refine blk_drewN ?_ _ | refine blk_drew ?_ | refine blk_alloc ?_ _)); refine blk_put (cs := #[.slice A0_0 l0_0.length c0_0, .int .i64 a0_1, .int .i64 a0_2, .int .i64 a0_3, .bool a0_4]) ?_ 0 _ rfl; (with_reducible repeat (first | refine blk_drewN ?_ _ | refine blk_drew ?_ | refine blk_alloc ?_ _)); exact BK433.out⟩
      have n3_ : Aside0 ((((((w24.setCell ⟨gb433, 0, none⟩ (.slice Ao25 t435.length co25)).setCell ⟨gb433, 1, none⟩ (.int .i64 t438)).setCell ⟨gb433, 2, none⟩ (.int .i64 t439)).setCell ⟨gb433, 3, none⟩ (.int .i64 t440)).setCell ⟨gb433, 4, none⟩ (.bool t441)).heap[gb434]? = some (.cells #[.int .i64 a2_0, .int .i64 a2_1] 45 (0, 0))) := ⟨by (with_reducible repeat (first | refine blk_drewN ?_ _ | refine blk_drew ?_ | refine blk_alloc ?_ _)); refine blk_far ?_ NB434_433.out _; (with_reducible repeat (first | refine blk_drewN ?_ _ | refine blk_drew ?_ | refine blk_alloc ?_ _)); refine blk_far ?_ NB434_433.out _; (with_reducible repeat (first | refine blk_drewN ?_ _ | refine blk_drew ?_ | refine blk_alloc ?_ _)); refine blk_far ?_ NB434_433.out _; (with_reducible repeat (first | refine blk_drewN ?_ _ | refine blk_drew ?_ | refine blk_alloc ?_ _)); refine blk_far ?_ NB434_433.out _; (with_reducible repeat (first | refine blk_drewN ?_ _ | refine blk_drew ?_ | refine blk_alloc ?_ _)); refine blk_far ?_ NB434_433.out _; (with_reducible repeat (first | refine blk_drewN ?_ _ | refine blk_drew ?_ | refine blk_alloc ?_ _)); exact BK434.out⟩
      have n4_ : Aside0 (Below w.heap.size w (((((w24.setCell ⟨gb433, 0, none⟩ (.slice Ao25 t435.length co25)).setCell ⟨gb433, 1, none⟩ (.int .i64 t438)).setCell ⟨gb433, 2, none⟩ (.int .i64 t439)).setCell ⟨gb433, 3, none⟩ (.int .i64 t440)).setCell ⟨gb433, 4, none⟩ (.bool t441))) := ⟨by repeat (first | (with_reducible first | exact HB.out | apply below_alloc | apply pw_below_drewN | apply below_drew1 | refine below_set ?_ GE433.out | refine below_set ?_ GE434.out) | exact HB.out)⟩
      (try clear HO437)
      (try clear HO444)
      (try clear BK433)
      (try clear BK434)
      (try clear HB)
      generalize (((((w24.setCell ⟨gb433, 0, none⟩ (.slice Ao25 t435.length co25)).setCell ⟨gb433, 1, none⟩ (.int .i64 t438)).setCell ⟨gb433, 2, none⟩ (.int .i64 t439)).setCell ⟨gb433, 3, none⟩ (.int .i64 t440)).setCell ⟨gb433, 4, none⟩ (.bool t441)) = w31 at n0_ n1_ n2_ n3_ n4_ ⊢
      have HO437 := n0_
      have HO444 := n1_
      have BK433 := n2_
      have BK434 := n3_
      have HB := n4_
      clear n0_ n1_ n2_ n3_ n4_
      have hnb32 := NB433_434.out
      have hnc32 := NB434_433.out
      obtain ⟨hcz33_0, hcz33_1, hcz33_2, hcz33_3, hcz33_4⟩ := bC5 BK433.out
      obtain ⟨hfz33_0, hfz33_1, hfz33_2, hfz33_3, hfz33_4⟩ := bF5 BK433.out
      obtain ⟨hcz34_0, hcz34_1⟩ := bC2 BK434.out
      obtain ⟨hfz34_0, hfz34_1⟩ := bF2 BK434.out
      go_upto_block 0 with (first | ((with_reducible refine gate_callee (f := 21) rfl ?_); refine goesL_ (some 39) rfl rfl Try.func21 (by kernel_rfl) rfl #[.agg #[.slice Ao25 t435.length co25, .int .i64 t438, .int .i64 t439, .int .i64 t440, .bool t441], .string (a1.extract 0 ((ji7) : Int).toNat), .agg #[.int .i64 a2_0, .int .i64 a2_1]] rfl (by (try simp only [List.map_toArray, List.map_cons, List.map_nil]); first | done | (simp only [hji7]; rfl) | rfl | (simp only [List.length_drop, List.length_take]; rfl)) ?_; (with_reducible refine (store_Append.calls (fun k_ => some k_ = (.slice Ao25 t435.length co25 : Value).ownBlock) _ _ t435 t438 t439 t440 t441 (a1.extract 0 ((ji7) : Int).toNat) a2_0 a2_1 t449 t452 t453 t454 t455 t456 _ ?side1 A14.out).mono ?_); (case side1 => exact Kd.R_V (Kd.R_tight rfl (Kd.R_types (Kd.R_types (HO437.out) BK433.out (by decide)) BK434.out (by decide)))); rintro e w35 ⟨v450, rfl, ho0, hb⟩; refine ⟨_, rfl, ?_⟩; have n0_ := aA (Kd.R_below (mR HO437.out) hb); have n1_ := aA (Kd.R_below (mR HO444.out) hb); have n2_ := aA (Kd.V_lower (Kd.V_mono (ok' := fun k_ => some k_ ≠ (v443 : Value).ownBlock ∧ k_ ≠ gb433 ∧ k_ ≠ gb434) ho0 (fun k_ hk_ => ⟨Or.elim hk_ (fun hs_ => ((Kd.R_types (Kd.R_types (HO437.out) BK433.out (by decide)) BK434.out (by decide)).1 k_ hs_.symm).1.1) (fun hn_ => (Kd.fresh' (Kd.R_lt (mR HO444.out)) k_ hn_)), Or.elim hk_ (fun hs_ => ((Kd.R_types (Kd.R_types (HO437.out) BK433.out (by decide)) BK434.out (by decide)).1 k_ hs_.symm).1.2) (fun hn_ => (Kd.freshB (g := gb433) (o := .cells #[.slice Ao25 t435.length co25, .int .i64 t438, .int .i64 t439, .int .i64 t440, .bool t441] 26 (0, 0)) (mK BK433.out) k_ hn_)), Or.elim hk_ (fun hs_ => ((Kd.R_types (Kd.R_types (HO437.out) BK433.out (by decide)) BK434.out (by decide)).1 k_ hs_.symm).2) (fun hn_ => (Kd.freshB (g := gb434) (o := .cells #[.int .i64 a2_0, .int .i64 a2_1] 45 (0, 0)) (mK BK434.out) k_ hn_))⟩)) (below_size (mD2 GE433.out GE434.out))); have n3_ := aA (bB BK433.out hb); have n4_ := aA (bB BK434.out hb); have n5_ := aA (below_step (mD2 GE433.out GE434.out) hb); clear HO437 HO444 BK433 BK434 HB; have HO437 := n0_; have HO444 := n1_; have HO451 := n2_; have BK433 := n3_; have BK434 := n4_; have HB := n5_; clear n0_ n1_ n2_ n3_ n4_ n5_; (try clear hb); (try clear hb2); (try clear hk); (try clear hi); (try clear ho0)) | ((with_reducible refine gate_dst (N := 11) rfl ?_); refine box_event ?hg (N := 11) ?hd (cs := #[.slice none 0 0, .int .i64 0, .int .i64 0, .int .i64 0, .bool false]) (t := 26) ?hr ?_; (case hd => rfl); (case hg => rfl); (case hr => first | (go_simp; done) | (go_simp; rfl)); intro gb457 hg w36 hbox hb; have n0_ := aA (Kd.R_below (mR HO437.out) hb); have n1_ := aA (Kd.R_below (mR HO444.out) hb); have n2_ := aA (Kd.V_below (Kd.V_elderB (by (with_reducible repeat (first | apply Kd.V_alloc | apply Kd.V_drewN | apply Kd.V_drew)); exact HO451.out) gb457 (Nat.le_of_eq hg.symm)) hb); have n3_ := aA (bB BK433.out hb); have n4_ := aA (bB BK434.out hb); have n5_ := aA (below_step (mD2 GE433.out GE434.out) hb); have n6_ := aA (hbox); have n7_ := aA ((bZ hg (mD2 GE433.out GE434.out))); have n8_ := aA ((bZ hg (mD2 GE433.out GE434.out))); have n9_ := aA ((bL hg BK433.out)); have n10_ := aA ((bG hg BK433.out)); have n11_ := aA ((bL hg BK434.out)); have n12_ := aA ((bG hg BK434.out)); clear HO437 HO444 HO451 BK433 BK434 HB; have HO437 := n0_; have HO444 := n1_; have HO451 := n2_; have BK433 := n3_; have BK434 := n4_; have HB := n5_; have BK457 := n6_; have GW457 := n7_; have GE457 := n8_; have NB433_457 := n9_; have NB457_433 := n10_; have NB434_457 := n11_; have NB457_434 := n12_; clear n0_ n1_ n2_ n3_ n4_ n5_ n6_ n7_ n8_ n9_ n10_ n11_ n12_ hb hbox hg; obtain ⟨Ao37, co37, eo37⟩ := Kd.V_slice HO451.out; subst eo37; have hnb38 := NB457_433.out; have hnc38 := NB433_457.out; have hnb39 := NB457_434.out; have hnc39 := NB434_457.out; obtain ⟨hcz40_0, hcz40_1, hcz40_2, hcz40_3, hcz40_4⟩ := bC5 BK457.out; obtain ⟨hfz40_0, hfz40_1, hfz40_2, hfz40_3, hfz40_4⟩ := bF5 BK457.out) | ((with_reducible refine gate_store (t := 26) (p := 11) rfl ?_); refine store_event (t := 26) (p := 11) (v := ?vo_w41) (w1 := (((((w36.setCell ⟨gb457, 0, none⟩ (.slice Ao37 t449.length co37)).setCell ⟨gb457, 1, none⟩ (.int .i64 t452)).setCell ⟨gb457, 2, none⟩ (.int .i64 t453)).setCell ⟨gb457, 3, none⟩ (.int .i64 t454)).setCell ⟨gb457, 4, none⟩ (.bool t455))) ?hg ?ho ?hn ?hr ?_; (case ho => rfl); (case hg => rfl); (case hn => rfl); (case hr => first | (go_simp; done) | (go_simp; rfl)); intro w41 hw; have n0_ : Aside0 (Kd.R Kd.string 9 w41 w.heap.size (fun k_ => some k_ ≠ (v443 : Value).ownBlock) (.slice Ao25 t435.length co25) t435) := ⟨(by rw [hw]; exact (by (with_reducible repeat (first | apply Kd.R_alloc | apply Kd.R_drewN | apply Kd.R_drew)); exact Kd.R_mono (rF 4 (rF 3 (rF 2 (rF 1 (rF 0 (Kd.R_types HO437.out BK457.out (by decide))))))) (fun _ hk => hk.1)))⟩; have n1_ : Aside0 (Kd.R Kd.string 9 w41 w.heap.size (fun k_ => some k_ ≠ (.slice Ao25 t435.length co25 : Value).ownBlock) v443 t442) := ⟨(by rw [hw]; exact (by (with_reducible repeat (first | apply Kd.R_alloc | apply Kd.R_drewN | apply Kd.R_drew)); exact Kd.R_mono (rF 4 (rF 3 (rF 2 (rF 1 (rF 0 (Kd.R_types HO444.out BK457.out (by decide))))))) (fun _ hk => hk.1)))⟩; have n2_ : Aside0 (Kd.V Kd.string 9 w41 w.heap.size (fun k_ => some k_ ≠ (v443 : Value).ownBlock ∧ k_ ≠ gb433 ∧ k_ ≠ gb434 ∧ k_ ≠ gb457) (.slice Ao37 t449.length co37) t449) := ⟨(by rw [hw]; exact (by (with_reducible repeat (first | apply Kd.V_alloc | apply Kd.V_drewN | apply Kd.V_drew)); exact Kd.V_mono (Kd.V_far (p := ⟨gb457, 4, none⟩) (Kd.V_far (p := ⟨gb457, 3, none⟩) (Kd.V_far (p := ⟨gb457, 2, none⟩) (Kd.V_far (p := ⟨gb457, 1, none⟩) (Kd.V_far (p := ⟨gb457, 0, none⟩) (Kd.V_mono HO451.out (fun k_ hk => (⟨hk, hk.2⟩ : _ ∧ k_ ≠ gb457))) (fun _ hk => hk.2) (.slice Ao37 t449.length co37)) (fun _ hk => hk.2) (.int .i64 t452)) (fun _ hk => hk.2) (.int .i64 t453)) (fun _ hk => hk.2) (.int .i64 t454)) (fun _ hk => hk.2) (.bool t455)) (fun _ hk => ⟨hk.1.1.1, ⟨hk.1.1.2.1, ⟨hk.1.1.2.2, hk.1.2⟩⟩⟩)))⟩; have n3_ : Aside0 (w41.heap[gb433]? = some (.cells #[.slice Ao25 t435.length co25, .int .i64 t438, .int .i64 t439, .int .i64 t440, .bool t441] 26 (0, 0))) := ⟨(by rw [hw]; exact (by (with_reducible repeat (first | refine blk_drewN ?_ _ | refine blk_drew ?_ | refine blk_alloc ?_ _)); refine blk_far ?_ NB433_457.out _; (with_reducible repeat (first | refine blk_drewN ?_ _ | refine blk_drew ?_ | refine blk_alloc ?_ _)); refine blk_far ?_ NB433_457.out _; (with_reducible repeat (first | refine blk_drewN ?_ _ | refine blk_drew ?_ | refine blk_alloc ?_ _)); refine blk_far ?_ NB433_457.out _; (with_reducible repeat (first | refine blk_drewN ?_ _ | refine blk_drew ?_ | refine blk_alloc ?_ _)); refine blk_far ?_ NB433_457.out _; (with_reducible repeat (first | refine blk_drewN ?_ _ | refine blk_drew ?_ | refine blk_alloc ?_ _)); refine blk_far ?_ NB433_457.out _; (with_reducible repeat (first | refine blk_drewN ?_ _ | refine blk_drew ?_ | refine blk_alloc ?_ _)); exact BK433.out))⟩; have n4_ : Aside0 (w41.heap[gb434]? = some (.cells #[.int .i64 a2_0, .int .i64 a2_1] 45 (0, 0))) := ⟨(by rw [hw]; exact (by (with_reducible repeat (first | refine blk_drewN ?_ _ | refine blk_drew ?_ | refine blk_alloc ?_ _)); refine blk_far ?_ NB434_457.out _; (with_reducible repeat (first | refine blk_drewN ?_ _ | refine blk_drew ?_ | refine blk_alloc ?_ _)); refine blk_far ?_ NB434_457.out _; (with_reducible repeat (first | refine blk_drewN ?_ _ | refine blk_drew ?_ | refine blk_alloc ?_ _)); refine blk_far ?_ NB434_457.out _; (with_reducible repeat (first | refine blk_drewN ?_ _ | refine blk_drew ?_ | refine blk_alloc ?_ _)); refine blk_far ?_ NB434_457.out _; (with_reducible repeat (first | refine blk_drewN ?_ _ | refine blk_drew ?_ | refine blk_alloc ?_ _)); refine blk_far ?_ NB434_457.out _; (with_reducible repeat (first | refine blk_drewN ?_ _ | refine blk_drew ?_ | refine blk_alloc ?_ _)); exact BK434.out))⟩; have n5_ : Aside0 (w41.heap[gb457]? = some (.cells #[.slice Ao37 t449.length co37, .int .i64 t452, .int .i64 t453, .int .i64 t454, .bool t455] 26 (0, 0))) := ⟨(by rw [hw]; exact (by (with_reducible repeat (first | refine blk_drewN ?_ _ | refine blk_drew ?_ | refine blk_alloc ?_ _)); have h_ := BK457.out; exact pK 4 (pK 3 (pK 2 (pK 1 (pK 0 (h_)))))))⟩; have n6_ : Aside0 (Below w.heap.size w w41) := ⟨(by rw [hw]; exact (mD3 GE433.out GE434.out GE457.out))⟩; clear hw HO437 HO444 HO451 BK433 BK434 BK457 HB; have HO437 := n0_; have HO444 := n1_; have HO451 := n2_; have BK433 := n3_; have BK434 := n4_; have BK457 := n5_; have HB := n6_; clear n0_ n1_ n2_ n3_ n4_ n5_ n6_; obtain ⟨hcz42_0, hcz42_1, hcz42_2, hcz42_3, hcz42_4⟩ := bC5 BK433.out; obtain ⟨hfz42_0, hfz42_1, hfz42_2, hfz42_3, hfz42_4⟩ := bF5 BK433.out; obtain ⟨Ao43, co43, eo43⟩ := Kd.R_slice HO444.out; subst eo43) | ((with_reducible refine gate_callee (f := 22) rfl ?_); refine goesL_ (some 46) rfl rfl Try.func22 (by kernel_rfl) rfl #[.agg #[.slice Ao25 t435.length co25, .int .i64 t438, .int .i64 t439, .int .i64 t440, .bool t441], .slice Ao43 t442.length co43, .slice A4 y445.length c4] rfl mS ?_; (with_reducible refine (store_Turn.calls (fun k_ => some k_ = (.slice Ao25 t435.length co25 : Value).ownBlock) _ _ t435 t438 t439 t440 t441 _ _ t442 _ _ y445 t458 t461 t462 t463 t464 t465 _ ?side1 ?side2 ?side3 ?side4 ?side5 A15.out).mono ?_); (case side1 => exact Kd.R_V (Kd.R_tight rfl (Kd.R_types (Kd.R_types (Kd.R_types (HO437.out) BK433.out (by decide)) BK434.out (by decide)) BK457.out (by decide)))); (case side2 => exact mC ((Kd.R_reads' HO444.out).2.2)); (case side3 => exact (Kd.R_reads' HO444.out).2.1); (case side4 => exact mC ((Kd.C_below HR448.out HB.out))); (case side5 => exact HC448.out); rintro e w44 ⟨v459, rfl, ho0, hb⟩; refine ⟨_, rfl, ?_⟩; have n0_ := aA (Kd.R_below (mR HO437.out) hb); have n1_ := aA (Kd.R_below (mR HO444.out) hb); have n2_ := aA (Kd.V_below (by (with_reducible repeat (first | apply Kd.V_alloc | apply Kd.V_drewN | apply Kd.V_drew)); exact HO451.out) hb); have n3_ := aA (Kd.V_lower (Kd.V_mono (ok' := fun k_ => some k_ ≠ (.slice Ao43 t442.length co43 : Value).ownBlock ∧ k_ ≠ gb433 ∧ k_ ≠ gb434 ∧ k_ ≠ gb457) ho0 (fun k_ hk_ => ⟨Or.elim hk_ (fun hs_ => ((Kd.R_types (Kd.R_types (Kd.R_types (HO437.out) BK433.out (by decide)) BK434.out (by decide)) BK457.out (by decide)).1 k_ hs_.symm).1.1.1) (fun hn_ => (Kd.fresh' (Kd.R_lt (mR HO444.out)) k_ hn_)), Or.elim hk_ (fun hs_ => ((Kd.R_types (Kd.R_types (Kd.R_types (HO437.out) BK433.out (by decide)) BK434.out (by decide)) BK457.out (by decide)).1 k_ hs_.symm).1.1.2) (fun hn_ => (Kd.freshB (g := gb433) (o := .cells #[.slice Ao25 t435.length co25, .int .i64 t438, .int .i64 t439, .int .i64 t440, .bool t441] 26 (0, 0)) (mK BK433.out) k_ hn_)), Or.elim hk_ (fun hs_ => ((Kd.R_types (Kd.R_types (Kd.R_types (HO437.out) BK433.out (by decide)) BK434.out (by decide)) BK457.out (by decide)).1 k_ hs_.symm).1.2) (fun hn_ => (Kd.freshB (g := gb434) (o := .cells #[.int .i64 a2_0, .int .i64 a2_1] 45 (0, 0)) (mK BK434.out) k_ hn_)), Or.elim hk_ (fun hs_ => ((Kd.R_types (Kd.R_types (Kd.R_types (HO437.out) BK433.out (by decide)) BK434.out (by decide)) BK457.out (by decide)).1 k_ hs_.symm).2) (fun hn_ => (Kd.freshB (g := gb457) (o := .cells #[.slice Ao37 t449.length co37, .int .i64 t452, .int .i64 t453, .int .i64 t454, .bool t455] 26 (0, 0)) (mK BK457.out) k_ hn_))⟩)) (below_size (mD3 GE433.out GE434.out GE457.out))); have n4_ := aA (bB BK433.out hb); have n5_ := aA (bB BK434.out hb); have n6_ := aA (bB BK457.out hb); have n7_ := aA (below_step (mD3 GE433.out GE434.out GE457.out) hb); clear HO437 HO444 HO451 BK433 BK434 BK457 HB; have HO437 := n0_; have HO444 := n1_; have HO451 := n2_; have HO460 := n3_; have BK433 := n4_; have BK434 := n5_; have BK457 := n6_; have HB := n7_; clear n0_ n1_ n2_ n3_ n4_ n5_ n6_ n7_; (try clear hb); (try clear hb2); (try clear hk); (try clear hi); (try clear ho0)) | ((with_reducible refine gate_dst (N := 13) rfl ?_); refine box_event ?hg (N := 13) ?hd (cs := #[.slice none 0 0, .int .i64 0, .int .i64 0, .int .i64 0, .bool false]) (t := 26) ?hr ?_; (case hd => rfl); (case hg => rfl); (case hr => first | (go_simp; done) | (go_simp; rfl)); intro gb466 hg w45 hbox hb; have n0_ := aA (Kd.R_below (mR HO437.out) hb); have n1_ := aA (Kd.R_below (mR HO444.out) hb); have n2_ := aA (Kd.V_below (Kd.V_elderB (by (with_reducible repeat (first | apply Kd.V_alloc | apply Kd.V_drewN | apply Kd.V_drew)); exact HO451.out) gb466 (Nat.le_of_eq hg.symm)) hb); have n3_ := aA (Kd.V_below (Kd.V_elderB (by (with_reducible repeat (first | apply Kd.V_alloc | apply Kd.V_drewN | apply Kd.V_drew)); exact HO460.out) gb466 (Nat.le_of_eq hg.symm)) hb); have n4_ := aA (bB BK433.out hb); have n5_ := aA (bB BK434.out hb); have n6_ := aA (bB BK457.out hb); have n7_ := aA (below_step (mD3 GE433.out GE434.out GE457.out) hb); have n8_ := aA (hbox); have n9_ := aA ((bZ hg (mD3 GE433.out GE434.out GE457.out))); have n10_ := aA ((bZ hg (mD3 GE433.out GE434.out GE457.out))); have n11_ := aA ((bL hg BK433.out)); have n12_ := aA ((bG hg BK433.out)); have n13_ := aA ((bL hg BK434.out)); have n14_ := aA ((bG hg BK434.out)); have n15_ := aA ((bL hg BK457.out)); have n16_ := aA ((bG hg BK457.out)); clear HO437 HO444 HO451 HO460 BK433 BK434 BK457 HB; have HO437 := n0_; have HO444 := n1_; have HO451 := n2_; have HO460 := n3_; have BK433 := n4_; have BK434 := n5_; have BK457 := n6_; have HB := n7_; have BK466 := n8_; have GW466 := n9_; have GE466 := n10_; have NB433_466 := n11_; have NB466_433 := n12_; have NB434_466 := n13_; have NB466_434 := n14_; have NB457_466 := n15_; have NB466_457 := n16_; clear n0_ n1_ n2_ n3_ n4_ n5_ n6_ n7_ n8_ n9_ n10_ n11_ n12_ n13_ n14_ n15_ n16_ hb hbox hg; obtain ⟨Ao46, co46, eo46⟩ := Kd.V_slice HO460.out; subst eo46; have hnb47 := NB466_433.out; have hnc47 := NB433_466.out; have hnb48 := NB466_434.out; have hnc48 := NB434_466.out; have hnb49 := NB466_457.out; have hnc49 := NB457_466.out; obtain ⟨hcz50_0, hcz50_1, hcz50_2, hcz50_3, hcz50_4⟩ := bC5 BK466.out; obtain ⟨hfz50_0, hfz50_1, hfz50_2, hfz50_3, hfz50_4⟩ := bF5 BK466.out) | ((with_reducible refine gate_dst (N := 15) rfl ?_); refine box_event ?hg (N := 15) ?hd (cs := #[.slice none 0 0, .int .i64 0, .int .i64 0, .int .i64 0, .bool false]) (t := 26) ?hr ?_; (case hd => rfl); (case hg => rfl); (case hr => first | (go_simp; done) | (go_simp; rfl)); intro gb467 hg w51 hbox hb; have n0_ := aA (Kd.R_below (by (with_reducible repeat (first | apply Kd.R_alloc | apply Kd.R_drewN | apply Kd.R_drew)); exact (Kd.R_mono (rF 4 (rF 3 (rF 2 (rF 1 (rF 0 (Kd.R_types HO437.out BK466.out (by decide))))))) (fun _ h_ => h_.1))) hb); have n1_ := aA (Kd.R_below (by (with_reducible repeat (first | apply Kd.R_alloc | apply Kd.R_drewN | apply Kd.R_drew)); exact (Kd.R_mono (rF 4 (rF 3 (rF 2 (rF 1 (rF 0 (Kd.R_types HO444.out BK466.out (by decide))))))) (fun _ h_ => h_.1))) hb); have n2_ := aA (Kd.V_below (Kd.V_elderB (by (with_reducible repeat (first | apply Kd.V_alloc | apply Kd.V_drewN | apply Kd.V_drew)); exact (Kd.V_mono (Kd.V_far (p := ⟨gb466, 4, none⟩) (Kd.V_far (p := ⟨gb466, 3, none⟩) (Kd.V_far (p := ⟨gb466, 2, none⟩) (Kd.V_far (p := ⟨gb466, 1, none⟩) (Kd.V_far (p := ⟨gb466, 0, none⟩) (Kd.V_mono HO451.out (fun k_ hk => (⟨hk, hk.2⟩ : _ ∧ k_ ≠ gb466))) (fun _ hk => hk.2) (.slice Ao46 t458.length co46)) (fun _ hk => hk.2) (.int .i64 t461)) (fun _ hk => hk.2) (.int .i64 t462)) (fun _ hk => hk.2) (.int .i64 t463)) (fun _ hk => hk.2) (.bool t464)) (fun _ h_ => h_.1))) gb467 (Nat.le_of_eq hg.symm)) hb); have n3_ := aA (Kd.V_below (Kd.V_elderB (by (with_reducible repeat (first | apply Kd.V_alloc | apply Kd.V_drewN | apply Kd.V_drew)); exact (Kd.V_mono (Kd.V_far (p := ⟨gb466, 4, none⟩) (Kd.V_far (p := ⟨gb466, 3, none⟩) (Kd.V_far (p := ⟨gb466, 2, none⟩) (Kd.V_far (p := ⟨gb466, 1, none⟩) (Kd.V_far (p := ⟨gb466, 0, none⟩) (Kd.V_mono HO460.out (fun k_ hk => (⟨hk, hk.2⟩ : _ ∧ k_ ≠ gb466))) (fun _ hk => hk.2) (.slice Ao46 t458.length co46)) (fun _ hk => hk.2) (.int .i64 t461)) (fun _ hk => hk.2) (.int .i64 t462)) (fun _ hk => hk.2) (.int .i64 t463)) (fun _ hk => hk.2) (.bool t464)) (fun _ h_ => h_.1))) gb467 (Nat.le_of_eq hg.symm)) hb); have n4_ := aA (blk_below (g := gb433) (o := .cells #[.slice Ao25 t435.length co25, .int .i64 t438, .int .i64 t439, .int .i64 t440, .bool t441] 26 (0, 0)) (by (with_reducible repeat (first | refine blk_drewN ?_ _ | refine blk_drew ?_ | refine blk_alloc ?_ _)); refine blk_far ?_ NB433_466.out _; (with_reducible repeat (first | refine blk_drewN ?_ _ | refine blk_drew ?_ | refine blk_alloc ?_ _)); refine blk_far ?_ NB433_466.out _; (with_reducible repeat (first | refine blk_drewN ?_ _ | refine blk_drew ?_ | refine blk_alloc ?_ _)); refine blk_far ?_ NB433_466.out _; (with_reducible repeat (first | refine blk_drewN ?_ _ | refine blk_drew ?_ | refine blk_alloc ?_ _)); refine blk_far ?_ NB433_466.out _; (with_reducible repeat (first | refine blk_drewN ?_ _ | refine blk_drew ?_ | refine blk_alloc ?_ _)); refine blk_far ?_ NB433_466.out _; (with_reducible repeat (first | refine blk_drewN ?_ _ | refine blk_drew ?_ | refine blk_alloc ?_ _)); exact BK433.out) hb); have n5_ := aA (blk_below (g := gb434) (o := .cells #[.int .i64 a2_0, .int .i64 a2_1] 45 (0, 0)) (by (with_reducible repeat (first | refine blk_drewN ?_ _ | refine blk_drew ?_ | refine blk_alloc ?_ _)); refine blk_far ?_ NB434_466.out _; (with_reducible repeat (first | refine blk_drewN ?_ _ | refine blk_drew ?_ | refine blk_alloc ?_ _)); refine blk_far ?_ NB434_466.out _; (with_reducible repeat (first | refine blk_drewN ?_ _ | refine blk_drew ?_ | refine blk_alloc ?_ _)); refine blk_far ?_ NB434_466.out _; (with_reducible repeat (first | refine blk_drewN ?_ _ | refine blk_drew ?_ | refine blk_alloc ?_ _)); refine blk_far ?_ NB434_466.out _; (with_reducible repeat (first | refine blk_drewN ?_ _ | refine blk_drew ?_ | refine blk_alloc ?_ _)); refine blk_far ?_ NB434_466.out _; (with_reducible repeat (first | refine blk_drewN ?_ _ | refine blk_drew ?_ | refine blk_alloc ?_ _)); exact BK434.out) hb); have n6_ := aA (blk_below (g := gb457) (o := .cells #[.slice Ao37 t449.length co37, .int .i64 t452, .int .i64 t453, .int .i64 t454, .bool t455] 26 (0, 0)) (by (with_reducible repeat (first | refine blk_drewN ?_ _ | refine blk_drew ?_ | refine blk_alloc ?_ _)); refine blk_far ?_ NB457_466.out _; (with_reducible repeat (first | refine blk_drewN ?_ _ | refine blk_drew ?_ | refine blk_alloc ?_ _)); refine blk_far ?_ NB457_466.out _; (with_reducible repeat (first | refine blk_drewN ?_ _ | refine blk_drew ?_ | refine blk_alloc ?_ _)); refine blk_far ?_ NB457_466.out _; (with_reducible repeat (first | refine blk_drewN ?_ _ | refine blk_drew ?_ | refine blk_alloc ?_ _)); refine blk_far ?_ NB457_466.out _; (with_reducible repeat (first | refine blk_drewN ?_ _ | refine blk_drew ?_ | refine blk_alloc ?_ _)); refine blk_far ?_ NB457_466.out _; (with_reducible repeat (first | refine blk_drewN ?_ _ | refine blk_drew ?_ | refine blk_alloc ?_ _)); exact BK457.out) hb); have n7_ := aA (blk_below (g := gb466) (o := .cells #[.slice Ao46 t458.length co46, .int .i64 t461, .int .i64 t462, .int .i64 t463, .bool t464] 26 (0, 0)) (by (with_reducible repeat (first | refine blk_drewN ?_ _ | refine blk_drew ?_ | refine blk_alloc ?_ _)); have h_ := BK466.out; exact pK 4 (pK 3 (pK 2 (pK 1 (pK 0 (h_)))))) hb); have n8_ := aA (below_step (by repeat (first | (with_reducible first | exact HB.out | apply below_alloc | apply pw_below_drewN | apply below_drew1 | refine below_set ?_ GE433.out | refine below_set ?_ GE434.out | refine below_set ?_ GE457.out | refine below_set ?_ GE466.out) | exact HB.out)) hb); have n9_ := aA (hbox); have n10_ := aA ((by rw [hg]; exact (below_size (by repeat (first | (with_reducible first | exact HB.out | apply below_alloc | apply pw_below_drewN | apply below_drew1 | refine below_set ?_ GE433.out | refine below_set ?_ GE434.out | refine below_set ?_ GE457.out | refine below_set ?_ GE466.out) | exact HB.out))) : w.heap.size ≤ gb467)); have n11_ := aA ((by rw [hg]; exact (below_size (by repeat (first | (with_reducible first | exact HB.out | apply below_alloc | apply pw_below_drewN | apply below_drew1 | refine below_set ?_ GE433.out | refine below_set ?_ GE434.out | refine below_set ?_ GE457.out | refine below_set ?_ GE466.out) | exact HB.out))) : w.heap.size ≤ gb467)); have n12_ := aA ((by rw [hg]; exact Nat.ne_of_lt (blk_lt (g := gb433) (o := .cells #[.slice Ao25 t435.length co25, .int .i64 t438, .int .i64 t439, .int .i64 t440, .bool t441] 26 (0, 0)) (by (with_reducible repeat (first | refine blk_drewN ?_ _ | refine blk_drew ?_ | refine blk_alloc ?_ _)); refine blk_far ?_ NB433_466.out _; (with_reducible repeat (first | refine blk_drewN ?_ _ | refine blk_drew ?_ | refine blk_alloc ?_ _)); refine blk_far ?_ NB433_466.out _; (with_reducible repeat (first | refine blk_drewN ?_ _ | refine blk_drew ?_ | refine blk_alloc ?_ _)); refine blk_far ?_ NB433_466.out _; (with_reducible repeat (first | refine blk_drewN ?_ _ | refine blk_drew ?_ | refine blk_alloc ?_ _)); refine blk_far ?_ NB433_466.out _; (with_reducible repeat (first | refine blk_drewN ?_ _ | refine blk_drew ?_ | refine blk_alloc ?_ _)); refine blk_far ?_ NB433_466.out _; (with_reducible repeat (first | refine blk_drewN ?_ _ | refine blk_drew ?_ | refine blk_alloc ?_ _)); exact BK433.out)) : gb433 ≠ gb467)); have n13_ := aA ((by rw [hg]; exact Nat.ne_of_gt (blk_lt (g := gb433) (o := .cells #[.slice Ao25 t435.length co25, .int .i64 t438, .int .i64 t439, .int .i64 t440, .bool t441] 26 (0, 0)) (by (with_reducible repeat (first | refine blk_drewN ?_ _ | refine blk_drew ?_ | refine blk_alloc ?_ _)); refine blk_far ?_ NB433_466.out _; (with_reducible repeat (first | refine blk_drewN ?_ _ | refine blk_drew ?_ | refine blk_alloc ?_ _)); refine blk_far ?_ NB433_466.out _; (with_reducible repeat (first | refine blk_drewN ?_ _ | refine blk_drew ?_ | refine blk_alloc ?_ _)); refine blk_far ?_ NB433_466.out _; (with_reducible repeat (first | refine blk_drewN ?_ _ | refine blk_drew ?_ | refine blk_alloc ?_ _)); refine blk_far ?_ NB433_466.out _; (with_reducible repeat (first | refine blk_drewN ?_ _ | refine blk_drew ?_ | refine blk_alloc ?_ _)); refine blk_far ?_ NB433_466.out _; (with_reducible repeat (first | refine blk_drewN ?_ _ | refine blk_drew ?_ | refine blk_alloc ?_ _)); exact BK433.out)) : gb467 ≠ gb433)); have n14_ := aA ((by rw [hg]; exact Nat.ne_of_lt (blk_lt (g := gb434) (o := .cells #[.int .i64 a2_0, .int .i64 a2_1] 45 (0, 0)) (by (with_reducible repeat (first | refine blk_drewN ?_ _ | refine blk_drew ?_ | refine blk_alloc ?_ _)); refine blk_far ?_ NB434_466.out _; (with_reducible repeat (first | refine blk_drewN ?_ _ | refine blk_drew ?_ | refine blk_alloc ?_ _)); refine blk_far ?_ NB434_466.out _; (with_reducible repeat (first | refine blk_drewN ?_ _ | refine blk_drew ?_ | refine blk_alloc ?_ _)); refine blk_far ?_ NB434_466.out _; (with_reducible repeat (first | refine blk_drewN ?_ _ | refine blk_drew ?_ | refine blk_alloc ?_ _)); refine blk_far ?_ NB434_466.out _; (with_reducible repeat (first | refine blk_drewN ?_ _ | refine blk_drew ?_ | refine blk_alloc ?_ _)); refine blk_far ?_ NB434_466.out _; (with_reducible repeat (first | refine blk_drewN ?_ _ | refine blk_drew ?_ | refine blk_alloc ?_ _)); exact BK434.out)) : gb434 ≠ gb467)); have n15_ := aA ((by rw [hg]; exact Nat.ne_of_gt (blk_lt (g := gb434) (o := .cells #[.int .i64 a2_0, .int .i64 a2_1] 45 (0, 0)) (by (with_reducible repeat (first | refine blk_drewN ?_ _ | refine blk_drew ?_ | refine blk_alloc ?_ _)); refine blk_far ?_ NB434_466.out _; (with_reducible repeat (first | refine blk_drewN ?_ _ | refine blk_drew ?_ | refine blk_alloc ?_ _)); refine blk_far ?_ NB434_466.out _; (with_reducible repeat (first | refine blk_drewN ?_ _ | refine blk_drew ?_ | refine blk_alloc ?_ _)); refine blk_far ?_ NB434_466.out _; (with_reducible repeat (first | refine blk_drewN ?_ _ | refine blk_drew ?_ | refine blk_alloc ?_ _)); refine blk_far ?_ NB434_466.out _; (with_reducible repeat (first | refine blk_drewN ?_ _ | refine blk_drew ?_ | refine blk_alloc ?_ _)); refine blk_far ?_ NB434_466.out _; (with_reducible repeat (first | refine blk_drewN ?_ _ | refine blk_drew ?_ | refine blk_alloc ?_ _)); exact BK434.out)) : gb467 ≠ gb434)); have n16_ := aA ((by rw [hg]; exact Nat.ne_of_lt (blk_lt (g := gb457) (o := .cells #[.slice Ao37 t449.length co37, .int .i64 t452, .int .i64 t453, .int .i64 t454, .bool t455] 26 (0, 0)) (by (with_reducible repeat (first | refine blk_drewN ?_ _ | refine blk_drew ?_ | refine blk_alloc ?_ _)); refine blk_far ?_ NB457_466.out _; (with_reducible repeat (first | refine blk_drewN ?_ _ | refine blk_drew ?_ | refine blk_alloc ?_ _)); refine blk_far ?_ NB457_466.out _; (with_reducible repeat (first | refine blk_drewN ?_ _ | refine blk_drew ?_ | refine blk_alloc ?_ _)); refine blk_far ?_ NB457_466.out _; (with_reducible repeat (first | refine blk_drewN ?_ _ | refine blk_drew ?_ | refine blk_alloc ?_ _)); refine blk_far ?_ NB457_466.out _; (with_reducible repeat (first | refine blk_drewN ?_ _ | refine blk_drew ?_ | refine blk_alloc ?_ _)); refine blk_far ?_ NB457_466.out _; (with_reducible repeat (first | refine blk_drewN ?_ _ | refine blk_drew ?_ | refine blk_alloc ?_ _)); exact BK457.out)) : gb457 ≠ gb467)); have n17_ := aA ((by rw [hg]; exact Nat.ne_of_gt (blk_lt (g := gb457) (o := .cells #[.slice Ao37 t449.length co37, .int .i64 t452, .int .i64 t453, .int .i64 t454, .bool t455] 26 (0, 0)) (by (with_reducible repeat (first | refine blk_drewN ?_ _ | refine blk_drew ?_ | refine blk_alloc ?_ _)); refine blk_far ?_ NB457_466.out _; (with_reducible repeat (first | refine blk_drewN ?_ _ | refine blk_drew ?_ | refine blk_alloc ?_ _)); refine blk_far ?_ NB457_466.out _; (with_reducible repeat (first | refine blk_drewN ?_ _ | refine blk_drew ?_ | refine blk_alloc ?_ _)); refine blk_far ?_ NB457_466.out _; (with_reducible repeat (first | refine blk_drewN ?_ _ | refine blk_drew ?_ | refine blk_alloc ?_ _)); refine blk_far ?_ NB457_466.out _; (with_reducible repeat (first | refine blk_drewN ?_ _ | refine blk_drew ?_ | refine blk_alloc ?_ _)); refine blk_far ?_ NB457_466.out _; (with_reducible repeat (first | refine blk_drewN ?_ _ | refine blk_drew ?_ | refine blk_alloc ?_ _)); exact BK457.out)) : gb467 ≠ gb457)); have n18_ := aA ((by rw [hg]; exact Nat.ne_of_lt (blk_lt (g := gb466) (o := .cells #[.slice Ao46 t458.length co46, .int .i64 t461, .int .i64 t462, .int .i64 t463, .bool t464] 26 (0, 0)) (by (with_reducible repeat (first | refine blk_drewN ?_ _ | refine blk_drew ?_ | refine blk_alloc ?_ _)); have h_ := BK466.out; exact pK 4 (pK 3 (pK 2 (pK 1 (pK 0 (h_))))))) : gb466 ≠ gb467)); have n19_ := aA ((by rw [hg]; exact Nat.ne_of_gt (blk_lt (g := gb466) (o := .cells #[.slice Ao46 t458.length co46, .int .i64 t461, .int .i64 t462, .int .i64 t463, .bool t464] 26 (0, 0)) (by (with_reducible repeat (first | refine blk_drewN ?_ _ | refine blk_drew ?_ | refine blk_alloc ?_ _)); have h_ := BK466.out; exact pK 4 (pK 3 (pK 2 (pK 1 (pK 0 (h_))))))) : gb467 ≠ gb466)); clear HO437 HO444 HO451 HO460 BK433 BK434 BK457 BK466 HB; have HO437 := n0_; have HO444 := n1_; have HO451 := n2_; have HO460 := n3_; have BK433 := n4_; have BK434 := n5_; have BK457 := n6_; have BK466 := n7_; have HB := n8_; have BK467 := n9_; have GW467 := n10_; have GE467 := n11_; have NB433_467 := n12_; have NB467_433 := n13_; have NB434_467 := n14_; have NB467_434 := n15_; have NB457_467 := n16_; have NB467_457 := n17_; have NB466_467 := n18_; have NB467_466 := n19_; clear n0_ n1_ n2_ n3_ n4_ n5_ n6_ n7_ n8_ n9_ n10_ n11_ n12_ n13_ n14_ n15_ n16_ n17_ n18_ n19_ hb hbox hg; have hnb52 := NB467_433.out; have hnc52 := NB433_467.out; have hnb53 := NB467_434.out; have hnc53 := NB434_467.out; have hnb54 := NB467_457.out; have hnc54 := NB457_467.out; have hnb55 := NB467_466.out; have hnc55 := NB466_467.out; obtain ⟨hcz56_0, hcz56_1, hcz56_2, hcz56_3, hcz56_4⟩ := bC5 BK467.out; obtain ⟨hfz56_0, hfz56_1, hfz56_2, hfz56_3, hfz56_4⟩ := bF5 BK467.out) | ((with_reducible refine gate_callee (f := 15) rfl ?_); refine goesL_ (some 50) rfl rfl Try.func15 (by kernel_rfl) rfl #[] rfl mS ?_; (with_reducible refine (foghornlaw04_alive.calls k  true _ A16.out).mono ?_); rintro e w57 ⟨rfl, hb⟩; refine ⟨_, rfl, ?_⟩; have n0_ := aA (Kd.R_below (by (with_reducible repeat (first | apply Kd.R_alloc | apply Kd.R_drewN | apply Kd.R_drew)); exact (Kd.R_mono (rF 4 (rF 3 (rF 2 (rF 1 (rF 0 (Kd.R_types HO437.out BK467.out (by decide))))))) (fun _ h_ => h_.1))) hb); have n1_ := aA (Kd.R_below (by (with_reducible repeat (first | apply Kd.R_alloc | apply Kd.R_drewN | apply Kd.R_drew)); exact (Kd.R_mono (rF 4 (rF 3 (rF 2 (rF 1 (rF 0 (Kd.R_types HO444.out BK467.out (by decide))))))) (fun _ h_ => h_.1))) hb); have n2_ := aA (Kd.V_below (by (with_reducible repeat (first | apply Kd.V_alloc | apply Kd.V_drewN | apply Kd.V_drew)); exact (Kd.V_mono (Kd.V_far (p := ⟨gb467, 4, none⟩) (Kd.V_far (p := ⟨gb467, 3, none⟩) (Kd.V_far (p := ⟨gb467, 2, none⟩) (Kd.V_far (p := ⟨gb467, 1, none⟩) (Kd.V_far (p := ⟨gb467, 0, none⟩) (Kd.V_mono HO451.out (fun k_ hk => (⟨hk, hk.2⟩ : _ ∧ k_ ≠ gb467))) (fun _ hk => hk.2) (.slice none 0 0)) (fun _ hk => hk.2) (.int .i64 0)) (fun _ hk => hk.2) (.int .i64 0)) (fun _ hk => hk.2) (.int .i64 0)) (fun _ hk => hk.2) (.bool false)) (fun _ h_ => h_.1))) hb); have n3_ := aA (Kd.V_below (by (with_reducible repeat (first | apply Kd.V_alloc | apply Kd.V_drewN | apply Kd.V_drew)); exact (Kd.V_mono (Kd.V_far (p := ⟨gb467, 4, none⟩) (Kd.V_far (p := ⟨gb467, 3, none⟩) (Kd.V_far (p := ⟨gb467, 2, none⟩) (Kd.V_far (p := ⟨gb467, 1, none⟩) (Kd.V_far (p := ⟨gb467, 0, none⟩) (Kd.V_mono HO460.out (fun k_ hk => (⟨hk, hk.2⟩ : _ ∧ k_ ≠ gb467))) (fun _ hk => hk.2) (.slice none 0 0)) (fun _ hk => hk.2) (.int .i64 0)) (fun _ hk => hk.2) (.int .i64 0)) (fun _ hk => hk.2) (.int .i64 0)) (fun _ hk => hk.2) (.bool false)) (fun _ h_ => h_.1))) hb); have n4_ := aA (blk_below (g := gb433) (o := .cells #[.slice Ao25 t435.length co25, .int .i64 t438, .int .i64 t439, .int .i64 t440, .bool t441] 26 (0, 0)) (by (with_reducible repeat (first | refine blk_drewN ?_ _ | refine blk_drew ?_ | refine blk_alloc ?_ _)); refine blk_far ?_ NB433_467.out _; (with_reducible repeat (first | refine blk_drewN ?_ _ | refine blk_drew ?_ | refine blk_alloc ?_ _)); refine blk_far ?_ NB433_467.out _; (with_reducible repeat (first | refine blk_drewN ?_ _ | refine blk_drew ?_ | refine blk_alloc ?_ _)); refine blk_far ?_ NB433_467.out _; (with_reducible repeat (first | refine blk_drewN ?_ _ | refine blk_drew ?_ | refine blk_alloc ?_ _)); refine blk_far ?_ NB433_467.out _; (with_reducible repeat (first | refine blk_drewN ?_ _ | refine blk_drew ?_ | refine blk_alloc ?_ _)); refine blk_far ?_ NB433_467.out _; (with_reducible repeat (first | refine blk_drewN ?_ _ | refine blk_drew ?_ | refine blk_alloc ?_ _)); exact BK433.out) hb); have n5_ := aA (blk_below (g := gb434) (o := .cells #[.int .i64 a2_0, .int .i64 a2_1] 45 (0, 0)) (by (with_reducible repeat (first | refine blk_drewN ?_ _ | refine blk_drew ?_ | refine blk_alloc ?_ _)); refine blk_far ?_ NB434_467.out _; (with_reducible repeat (first | refine blk_drewN ?_ _ | refine blk_drew ?_ | refine blk_alloc ?_ _)); refine blk_far ?_ NB434_467.out _; (with_reducible repeat (first | refine blk_drewN ?_ _ | refine blk_drew ?_ | refine blk_alloc ?_ _)); refine blk_far ?_ NB434_467.out _; (with_reducible repeat (first | refine blk_drewN ?_ _ | refine blk_drew ?_ | refine blk_alloc ?_ _)); refine blk_far ?_ NB434_467.out _; (with_reducible repeat (first | refine blk_drewN ?_ _ | refine blk_drew ?_ | refine blk_alloc ?_ _)); refine blk_far ?_ NB434_467.out _; (with_reducible repeat (first | refine blk_drewN ?_ _ | refine blk_drew ?_ | refine blk_alloc ?_ _)); exact BK434.out) hb); have n6_ := aA (blk_below (g := gb457) (o := .cells #[.slice Ao37 t449.length co37, .int .i64 t452, .int .i64 t453, .int .i64 t454, .bool t455] 26 (0, 0)) (by (with_reducible repeat (first | refine blk_drewN ?_ _ | refine blk_drew ?_ | refine blk_alloc ?_ _)); refine blk_far ?_ NB457_467.out _; (with_reducible repeat (first | refine blk_drewN ?_ _ | refine blk_drew ?_ | refine blk_alloc ?_ _)); refine blk_far ?_ NB457_467.out _; (with_reducible repeat (first | refine blk_drewN ?_ _ | refine blk_drew ?_ | refine blk_alloc ?_ _)); refine blk_far ?_ NB457_467.out _; (with_reducible repeat (first | refine blk_drewN ?_ _ | refine blk_drew ?_ | refine blk_alloc ?_ _)); refine blk_far ?_ NB457_467.out _; (with_reducible repeat (first | refine blk_drewN ?_ _ | refine blk_drew ?_ | refine blk_alloc ?_ _)); refine blk_far ?_ NB457_467.out _; (with_reducible repeat (first | refine blk_drewN ?_ _ | refine blk_drew ?_ | refine blk_alloc ?_ _)); exact BK457.out) hb); have n7_ := aA (blk_below (g := gb466) (o := .cells #[.slice Ao46 t458.length co46, .int .i64 t461, .int .i64 t462, .int .i64 t463, .bool t464] 26 (0, 0)) (by (with_reducible repeat (first | refine blk_drewN ?_ _ | refine blk_drew ?_ | refine blk_alloc ?_ _)); refine blk_far ?_ NB466_467.out _; (with_reducible repeat (first | refine blk_drewN ?_ _ | refine blk_drew ?_ | refine blk_alloc ?_ _)); refine blk_far ?_ NB466_467.out _; (with_reducible repeat (first | refine blk_drewN ?_ _ | refine blk_drew ?_ | refine blk_alloc ?_ _)); refine blk_far ?_ NB466_467.out _; (with_reducible repeat (first | refine blk_drewN ?_ _ | refine blk_drew ?_ | refine blk_alloc ?_ _)); refine blk_far ?_ NB466_467.out _; (with_reducible repeat (first | refine blk_drewN ?_ _ | refine blk_drew ?_ | refine blk_alloc ?_ _)); refine blk_far ?_ NB466_467.out _; (with_reducible repeat (first | refine blk_drewN ?_ _ | refine blk_drew ?_ | refine blk_alloc ?_ _)); exact BK466.out) hb); have n8_ := aA (blk_below (g := gb467) (o := .cells #[.slice none 0 0, .int .i64 0, .int .i64 0, .int .i64 0, .bool false] 26 (0, 0)) (by (with_reducible repeat (first | refine blk_drewN ?_ _ | refine blk_drew ?_ | refine blk_alloc ?_ _)); have h_ := BK467.out; exact pK 4 (pK 3 (pK 2 (pK 1 (pK 0 (h_)))))) hb); have n9_ := aA (below_step (by repeat (first | (with_reducible first | exact HB.out | apply below_alloc | apply pw_below_drewN | apply below_drew1 | refine below_set ?_ GE433.out | refine below_set ?_ GE434.out | refine below_set ?_ GE457.out | refine below_set ?_ GE466.out | refine below_set ?_ GE467.out) | exact HB.out)) hb); clear HO437 HO444 HO451 HO460 BK433 BK434 BK457 BK466 BK467 HB; have HO437 := n0_; have HO444 := n1_; have HO451 := n2_; have HO460 := n3_; have BK433 := n4_; have BK434 := n5_; have BK457 := n6_; have BK466 := n7_; have BK467 := n8_; have HB := n9_; clear n0_ n1_ n2_ n3_ n4_ n5_ n6_ n7_ n8_ n9_; (try clear hb); (try clear hb2); (try clear hk); (try clear hi)))
      (try simp only [Act.put, List.setIfInBounds_toArray, List.set_cons_zero, List.set_cons_succ])
      go_cut [16] (fun v16 wc => ∃ (kq : Nat) (x16_17 : Int), v16 = .int .i64 x16_17 ∧ Aside0 (foghornlaw04_StoreWrites.j1 kq (a1.extract 0 ((ji7) : Int).toNat) t442 y445 t456 t465 x16_17 t435 t438 t439 t440 t441 a2_0 a2_1 t449 t452 t453 t454 t455 t458 t461 t462 t463 t464 0 0 0 false = some r) ∧ Aside0 (kq ≤ k) ∧ Aside0 (Kd.R Kd.string 9 wc w.heap.size (fun k_ => some k_ ≠ ((.slice Ao25 t435.length co25) : Value).ownBlock) (.slice Ao43 t442.length co43) t442) ∧ Aside0 (Kd.R Kd.string 9 wc w.heap.size (fun k_ => some k_ ≠ ((.slice Ao43 t442.length co43) : Value).ownBlock) (.slice Ao25 t435.length co25) t435) ∧ Aside0 (Kd.V Kd.string 9 wc w.heap.size (fun k_ => some k_ ≠ ((.slice Ao43 t442.length co43) : Value).ownBlock ∧ k_ ≠ gb433 ∧ k_ ≠ gb434 ∧ k_ ≠ gb457 ∧ k_ ≠ gb466 ∧ k_ ≠ gb467) (.slice Ao37 t449.length co37) t449) ∧ Aside0 (Kd.V Kd.string 9 wc w.heap.size (fun k_ => some k_ ≠ ((.slice Ao43 t442.length co43) : Value).ownBlock ∧ k_ ≠ gb433 ∧ k_ ≠ gb434 ∧ k_ ≠ gb457 ∧ k_ ≠ gb466 ∧ k_ ≠ gb467) (.slice Ao46 t458.length co46) t458) ∧ Aside0 (wc.heap[gb433]? = some (.cells #[(.slice Ao25 t435.length co25), .int .i64 t438, .int .i64 t439, .int .i64 t440, .bool t441] 26 (0, 0))) ∧ Aside0 (wc.heap[gb434]? = some (.cells #[.int .i64 a2_0, .int .i64 a2_1] 45 (0, 0))) ∧ Aside0 (wc.heap[gb457]? = some (.cells #[(.slice Ao37 t449.length co37), .int .i64 t452, .int .i64 t453, .int .i64 t454, .bool t455] 26 (0, 0))) ∧ Aside0 (wc.heap[gb466]? = some (.cells #[(.slice Ao46 t458.length co46), .int .i64 t461, .int .i64 t462, .int .i64 t463, .bool t464] 26 (0, 0))) ∧ Aside0 (wc.heap[gb467]? = some (.cells #[(.slice none 0 0), .int .i64 0, .int .i64 0, .int .i64 0, .bool false] 26 (0, 0))) ∧ Aside0 (Below w.heap.size w wc))
      case first =>
       have H := HC18.out
       clear HC18
       have HC58 := aA H
       clear H
       go_upto_region 8 with (fail)
       go_cut [52] (fun v52 wc => ∃ (kq : Nat) (x52_57 : Bool), v52 = .bool x52_57 ∧ Aside0 (foghornlaw04_StoreWrites.j0 kq (a1.extract 0 ((ji7) : Int).toNat) t442 y445 t456 t465 0 x52_57 t435 t438 t439 t440 t441 a2_0 a2_1 t449 t452 t453 t454 t455 t458 t461 t462 t463 t464 0 0 0 false = some r) ∧ Aside0 (kq ≤ k) ∧ Aside0 (Kd.R Kd.string 9 wc w.heap.size (fun k_ => some k_ ≠ ((.slice Ao25 t435.length co25) : Value).ownBlock) (.slice Ao43 t442.length co43) t442) ∧ Aside0 (Kd.R Kd.string 9 wc w.heap.size (fun k_ => some k_ ≠ ((.slice Ao43 t442.length co43) : Value).ownBlock) (.slice Ao25 t435.length co25) t435) ∧ Aside0 (Kd.V Kd.string 9 wc w.heap.size (fun k_ => some k_ ≠ ((.slice Ao43 t442.length co43) : Value).ownBlock ∧ k_ ≠ gb433 ∧ k_ ≠ gb434 ∧ k_ ≠ gb457 ∧ k_ ≠ gb466 ∧ k_ ≠ gb467) (.slice Ao37 t449.length co37) t449) ∧ Aside0 (Kd.V Kd.string 9 wc w.heap.size (fun k_ => some k_ ≠ ((.slice Ao43 t442.length co43) : Value).ownBlock ∧ k_ ≠ gb433 ∧ k_ ≠ gb434 ∧ k_ ≠ gb457 ∧ k_ ≠ gb466 ∧ k_ ≠ gb467) (.slice Ao46 t458.length co46) t458) ∧ Aside0 (wc.heap[gb433]? = some (.cells #[(.slice Ao25 t435.length co25), .int .i64 t438, .int .i64 t439, .int .i64 t440, .bool t441] 26 (0, 0))) ∧ Aside0 (wc.heap[gb434]? = some (.cells #[.int .i64 a2_0, .int .i64 a2_1] 45 (0, 0))) ∧ Aside0 (wc.heap[gb457]? = some (.cells #[(.slice Ao37 t449.length co37), .int .i64 t452, .int .i64 t453, .int .i64 t454, .bool t455] 26 (0, 0))) ∧ Aside0 (wc.heap[gb466]? = some (.cells #[(.slice Ao46 t458.length co46), .int .i64 t461, .int .i64 t462, .int .i64 t463, .bool t464] 26 (0, 0))) ∧ Aside0 (wc.heap[gb467]? = some (.cells #[(.slice none 0 0), .int .i64 0, .int .i64 0, .int .i64 0, .bool false] 26 (0, 0))) ∧ Aside0 (Below w.heap.size w wc))
       case first =>
        have H := HC58.out
        clear HC58
        replace H := Option.bind_eq_some_iff.mp H
        obtain ⟨t469, A590, H⟩ := H
        have A59 := aA A590
        clear A590
        by_cases c60 : t469 = true
        ·subst c60
         have H1 : ((foghornref04_Fault.f a2_0 a2_1).bind fun t470 => (foghornlaw04_StoreWrites.j0 k (a1.extract 0 ((ji7) : Int).toNat) t442 y445 t456 t465 0 (!t470) t435 t438 t439 t440 t441 a2_0 a2_1 t449 t452 t453 t454 t455 t458 t461 t462 t463 t464 0 0 0 false)) = some r := by rw [if_pos rfl] at H; exact H
         clear H
         have H := H1
         clear H1
         replace H := Option.bind_eq_some_iff.mp H
         obtain ⟨t470, A610, H⟩ := H
         have A61 := aA A610
         clear A610
         have H' := aA H
         clear H
         have hnb62 := NB433_434.out
         have hnc62 := NB434_433.out
         have hnb63 := NB433_457.out
         have hnc63 := NB457_433.out
         have hnb64 := NB433_466.out
         have hnc64 := NB466_433.out
         have hnb65 := NB433_467.out
         have hnc65 := NB467_433.out
         obtain ⟨hcz66_0, hcz66_1, hcz66_2, hcz66_3, hcz66_4⟩ := bC5 BK433.out
         obtain ⟨hfz66_0, hfz66_1, hfz66_2, hfz66_3, hfz66_4⟩ := bF5 BK433.out
         go_wp2_with (first | ((with_reducible refine gate_callee (f := 14) rfl ?_); refine goesL_ (some 54) rfl rfl Try.func14 (by kernel_rfl) rfl #[.agg #[.slice Ao25 t435.length co25, .int .i64 t438, .int .i64 t439, .int .i64 t440, .bool t441]] rfl mS ?_; (with_reducible refine (foghornref04_Right.calls k _ _ t435 t438 t439 t440 t441 true _ ?side1 ?side2 A59.out).mono ?_); (case side1 => exact mC ((Kd.R_reads' HO437.out).2.2)); (case side2 => exact (Kd.R_reads' HO437.out).2.1); rintro e w67 ⟨rfl, hb⟩; refine ⟨_, rfl, ?_⟩; have n0_ := aA (Kd.R_below (mR HO437.out) hb); have n1_ := aA (Kd.R_below (mR HO444.out) hb); have n2_ := aA (Kd.V_below (by (with_reducible repeat (first | apply Kd.V_alloc | apply Kd.V_drewN | apply Kd.V_drew)); exact HO451.out) hb); have n3_ := aA (Kd.V_below (by (with_reducible repeat (first | apply Kd.V_alloc | apply Kd.V_drewN | apply Kd.V_drew)); exact HO460.out) hb); have n4_ := aA (bB BK433.out hb); have n5_ := aA (bB BK434.out hb); have n6_ := aA (bB BK457.out hb); have n7_ := aA (bB BK466.out hb); have n8_ := aA (bB BK467.out hb); have n9_ := aA (below_step (by repeat (first | (with_reducible first | exact HB.out | apply below_alloc | apply pw_below_drewN | apply below_drew1 | refine below_set ?_ GE433.out | refine below_set ?_ GE434.out | refine below_set ?_ GE457.out | refine below_set ?_ GE466.out | refine below_set ?_ GE467.out) | exact HB.out)) hb); clear HO437 HO444 HO451 HO460 BK433 BK434 BK457 BK466 BK467 HB; have HO437 := n0_; have HO444 := n1_; have HO451 := n2_; have HO460 := n3_; have BK433 := n4_; have BK434 := n5_; have BK457 := n6_; have BK466 := n7_; have BK467 := n8_; have HB := n9_; clear n0_ n1_ n2_ n3_ n4_ n5_ n6_ n7_ n8_ n9_; (try clear hb); (try clear hb2); (try clear hk); (try clear hi); have hnb68 := NB434_457.out; have hnc68 := NB457_434.out; have hnb69 := NB434_466.out; have hnc69 := NB466_434.out; have hnb70 := NB434_467.out; have hnc70 := NB467_434.out; obtain ⟨hcz71_0, hcz71_1⟩ := bC2 BK434.out; obtain ⟨hfz71_0, hfz71_1⟩ := bF2 BK434.out) | (go_at_call 23; (with_reducible refine (foghornref04_Fault.calls a2_0 a2_1 t470 _ A61.out).mono ?_); rintro e w72 ⟨rfl, hb⟩; have n0_ := aA (Kd.R_below (mR HO437.out) hb); have n1_ := aA (Kd.R_below (mR HO444.out) hb); have n2_ := aA (Kd.V_below (by (with_reducible repeat (first | apply Kd.V_alloc | apply Kd.V_drewN | apply Kd.V_drew)); exact HO451.out) hb); have n3_ := aA (Kd.V_below (by (with_reducible repeat (first | apply Kd.V_alloc | apply Kd.V_drewN | apply Kd.V_drew)); exact HO460.out) hb); have n4_ := aA (bB BK433.out hb); have n5_ := aA (bB BK434.out hb); have n6_ := aA (bB BK457.out hb); have n7_ := aA (bB BK466.out hb); have n8_ := aA (bB BK467.out hb); have n9_ := aA (below_step (by repeat (first | (with_reducible first | exact HB.out | apply below_alloc | apply pw_below_drewN | apply below_drew1 | refine below_set ?_ GE433.out | refine below_set ?_ GE434.out | refine below_set ?_ GE457.out | refine below_set ?_ GE466.out | refine below_set ?_ GE467.out) | exact HB.out)) hb); clear HO437 HO444 HO451 HO460 BK433 BK434 BK457 BK466 BK467 HB; have HO437 := n0_; have HO444 := n1_; have HO451 := n2_; have HO460 := n3_; have BK433 := n4_; have BK434 := n5_; have BK457 := n6_; have BK466 := n7_; have BK467 := n8_; have HB := n9_; clear n0_ n1_ n2_ n3_ n4_ n5_ n6_ n7_ n8_ n9_; (try clear hb); (try clear hb2); (try clear hk); (try clear hi)))
         go_meet
         case rel => exact ⟨_, (!t470), (by first | rfl | (simp; done) | (simp [*]; done)), H', ⟨by first | omega | exact Nat.le_refl _⟩, ⟨by (with_reducible repeat (first | apply Kd.R_alloc | apply Kd.R_drewN | apply Kd.R_drew)); exact HO444.out⟩, ⟨by (with_reducible repeat (first | apply Kd.R_alloc | apply Kd.R_drewN | apply Kd.R_drew)); exact HO437.out⟩, ⟨by (with_reducible repeat (first | apply Kd.V_alloc | apply Kd.V_drewN | apply Kd.V_drew)); exact Kd.V_mono HO451.out (fun _ hk => ⟨hk.1.1.1, ⟨hk.1.1.2.1, ⟨hk.1.1.2.2.1, ⟨hk.1.1.2.2.2, ⟨hk.1.2, hk.2⟩⟩⟩⟩⟩)⟩, ⟨by (with_reducible repeat (first | apply Kd.V_alloc | apply Kd.V_drewN | apply Kd.V_drew)); exact Kd.V_mono HO460.out (fun _ hk => ⟨hk.1.1.1, ⟨hk.1.1.2.1, ⟨hk.1.1.2.2.1, ⟨hk.1.1.2.2.2, ⟨hk.1.2, hk.2⟩⟩⟩⟩⟩)⟩, ⟨by (with_reducible repeat (first | refine blk_drewN ?_ _ | refine blk_drew ?_ | refine blk_alloc ?_ _)); exact BK433.out⟩, ⟨by (with_reducible repeat (first | refine blk_drewN ?_ _ | refine blk_drew ?_ | refine blk_alloc ?_ _)); exact BK434.out⟩, ⟨by (with_reducible repeat (first | refine blk_drewN ?_ _ | refine blk_drew ?_ | refine blk_alloc ?_ _)); exact BK457.out⟩, ⟨by (with_reducible repeat (first | refine blk_drewN ?_ _ | refine blk_drew ?_ | refine blk_alloc ?_ _)); exact BK466.out⟩, ⟨by (with_reducible repeat (first | refine blk_drewN ?_ _ | refine blk_drew ?_ | refine blk_alloc ?_ _)); exact BK467.out⟩, ⟨by repeat (first | (with_reducible first | exact HB.out | apply below_alloc | apply pw_below_drewN | apply below_drew1 | refine below_set ?_ GE433.out | refine below_set ?_ GE434.out | refine below_set ?_ GE457.out | refine below_set ?_ GE466.out | refine below_set ?_ GE467.out) | exact HB.out)⟩⟩
        ·replace c60 := Bool.eq_false_iff.mpr c60
         subst c60
         have H1 : (foghornlaw04_StoreWrites.j0 k (a1.extract 0 ((ji7) : Int).toNat) t442 y445 t456 t465 0 true t435 t438 t439 t440 t441 a2_0 a2_1 t449 t452 t453 t454 t455 t458 t461 t462 t463 t464 0 0 0 false) = some r := by rw [if_neg (show ¬ (false = true) by decide)] at H; exact H
         clear H
         have H := H1
         clear H1
         have H' := aA H
         clear H
         have hnb73 := NB433_434.out
         have hnc73 := NB434_433.out
         have hnb74 := NB433_457.out
         have hnc74 := NB457_433.out
         have hnb75 := NB433_466.out
         have hnc75 := NB466_433.out
         have hnb76 := NB433_467.out
         have hnc76 := NB467_433.out
         obtain ⟨hcz77_0, hcz77_1, hcz77_2, hcz77_3, hcz77_4⟩ := bC5 BK433.out
         obtain ⟨hfz77_0, hfz77_1, hfz77_2, hfz77_3, hfz77_4⟩ := bF5 BK433.out
         go_wp2_with (first | ((with_reducible refine gate_callee (f := 14) rfl ?_); refine goesL_ (some 54) rfl rfl Try.func14 (by kernel_rfl) rfl #[.agg #[.slice Ao25 t435.length co25, .int .i64 t438, .int .i64 t439, .int .i64 t440, .bool t441]] rfl mS ?_; (with_reducible refine (foghornref04_Right.calls k _ _ t435 t438 t439 t440 t441 false _ ?side1 ?side2 A59.out).mono ?_); (case side1 => exact mC ((Kd.R_reads' HO437.out).2.2)); (case side2 => exact (Kd.R_reads' HO437.out).2.1); rintro e w78 ⟨rfl, hb⟩; refine ⟨_, rfl, ?_⟩; have n0_ := aA (Kd.R_below (mR HO437.out) hb); have n1_ := aA (Kd.R_below (mR HO444.out) hb); have n2_ := aA (Kd.V_below (by (with_reducible repeat (first | apply Kd.V_alloc | apply Kd.V_drewN | apply Kd.V_drew)); exact HO451.out) hb); have n3_ := aA (Kd.V_below (by (with_reducible repeat (first | apply Kd.V_alloc | apply Kd.V_drewN | apply Kd.V_drew)); exact HO460.out) hb); have n4_ := aA (bB BK433.out hb); have n5_ := aA (bB BK434.out hb); have n6_ := aA (bB BK457.out hb); have n7_ := aA (bB BK466.out hb); have n8_ := aA (bB BK467.out hb); have n9_ := aA (below_step (by repeat (first | (with_reducible first | exact HB.out | apply below_alloc | apply pw_below_drewN | apply below_drew1 | refine below_set ?_ GE433.out | refine below_set ?_ GE434.out | refine below_set ?_ GE457.out | refine below_set ?_ GE466.out | refine below_set ?_ GE467.out) | exact HB.out)) hb); clear HO437 HO444 HO451 HO460 BK433 BK434 BK457 BK466 BK467 HB; have HO437 := n0_; have HO444 := n1_; have HO451 := n2_; have HO460 := n3_; have BK433 := n4_; have BK434 := n5_; have BK457 := n6_; have BK466 := n7_; have BK467 := n8_; have HB := n9_; clear n0_ n1_ n2_ n3_ n4_ n5_ n6_ n7_ n8_ n9_; (try clear hb); (try clear hb2); (try clear hk); (try clear hi)))
         go_meet
         case rel => exact ⟨_, (true), (by first | rfl | (simp; done) | (simp [*]; done)), H', ⟨by first | omega | exact Nat.le_refl _⟩, ⟨by (with_reducible repeat (first | apply Kd.R_alloc | apply Kd.R_drewN | apply Kd.R_drew)); exact HO444.out⟩, ⟨by (with_reducible repeat (first | apply Kd.R_alloc | apply Kd.R_drewN | apply Kd.R_drew)); exact HO437.out⟩, ⟨by (with_reducible repeat (first | apply Kd.V_alloc | apply Kd.V_drewN | apply Kd.V_drew)); exact Kd.V_mono HO451.out (fun _ hk => ⟨hk.1.1.1, ⟨hk.1.1.2.1, ⟨hk.1.1.2.2.1, ⟨hk.1.1.2.2.2, ⟨hk.1.2, hk.2⟩⟩⟩⟩⟩)⟩, ⟨by (with_reducible repeat (first | apply Kd.V_alloc | apply Kd.V_drewN | apply Kd.V_drew)); exact Kd.V_mono HO460.out (fun _ hk => ⟨hk.1.1.1, ⟨hk.1.1.2.1, ⟨hk.1.1.2.2.1, ⟨hk.1.1.2.2.2, ⟨hk.1.2, hk.2⟩⟩⟩⟩⟩)⟩, ⟨by (with_reducible repeat (first | refine blk_drewN ?_ _ | refine blk_drew ?_ | refine blk_alloc ?_ _)); exact BK433.out⟩, ⟨by (with_reducible repeat (first | refine blk_drewN ?_ _ | refine blk_drew ?_ | refine blk_alloc ?_ _)); exact BK434.out⟩, ⟨by (with_reducible repeat (first | refine blk_drewN ?_ _ | refine blk_drew ?_ | refine blk_alloc ?_ _)); exact BK457.out⟩, ⟨by (with_reducible repeat (first | refine blk_drewN ?_ _ | refine blk_drew ?_ | refine blk_alloc ?_ _)); exact BK466.out⟩, ⟨by (with_reducible repeat (first | refine blk_drewN ?_ _ | refine blk_drew ?_ | refine blk_alloc ?_ _)); exact BK467.out⟩, ⟨by repeat (first | (with_reducible first | exact HB.out | apply below_alloc | apply pw_below_drewN | apply below_drew1 | refine below_set ?_ GE433.out | refine below_set ?_ GE434.out | refine below_set ?_ GE457.out | refine below_set ?_ GE466.out | refine below_set ?_ GE467.out) | exact HB.out)⟩⟩
       case rest =>
        clear HC58
        try clear c1
        try clear c2
        try clear p2
        try clear q2
        try clear c3
        try clear c4
        try clear c5
        try clear c6
        try clear c7
        try clear c8
        try clear c8b0
        try clear c8b1
        try clear c9
        try clear c9b0
        try clear c9b1
        try clear c10
        try clear c12
        try clear c12b0
        try clear c12b1
        try clear c13
        try clear c13b0
        try clear c13b1
        try clear c14
        try clear c15
        try clear c17
        try clear c21
        try clear c22
        try clear q22
        try clear c32
        try clear c38
        try clear c39
        try clear c47
        try clear c48
        try clear c49
        try clear c52
        try clear c53
        try clear c54
        try clear c55
        try clear c60
        try clear c62
        try clear c63
        try clear c64
        try clear c65
        try clear c68
        try clear c69
        try clear c70
        try clear c73
        try clear c74
        try clear c75
        try clear c76
        try clear hcz33_0 hcz33_1 hcz33_2 hcz33_3 hcz33_4
        try clear hcz34_0 hcz34_1
        try clear hcz40_0 hcz40_1 hcz40_2 hcz40_3 hcz40_4
        try clear hcz42_0 hcz42_1 hcz42_2 hcz42_3 hcz42_4
        try clear hcz50_0 hcz50_1 hcz50_2 hcz50_3 hcz50_4
        try clear hcz56_0 hcz56_1 hcz56_2 hcz56_3 hcz56_4
        try clear hcz66_0 hcz66_1 hcz66_2 hcz66_3 hcz66_4
        try clear hcz71_0 hcz71_1
        try clear hcz77_0 hcz77_1 hcz77_2 hcz77_3 hcz77_4
        try clear hfz33_0 hfz33_1 hfz33_2 hfz33_3 hfz33_4
        try clear hfz34_0 hfz34_1
        try clear hfz40_0 hfz40_1 hfz40_2 hfz40_3 hfz40_4
        try clear hfz42_0 hfz42_1 hfz42_2 hfz42_3 hfz42_4
        try clear hfz50_0 hfz50_1 hfz50_2 hfz50_3 hfz50_4
        try clear hfz56_0 hfz56_1 hfz56_2 hfz56_3 hfz56_4
        try clear hfz66_0 hfz66_1 hfz66_2 hfz66_3 hfz66_4
        try clear hfz71_0 hfz71_1
        try clear hfz77_0 hfz77_1 hfz77_2 hfz77_3 hfz77_4
        try clear q22
        obtain ⟨kq, x52_57, rfl, HA, HJ57, HO_3, HO_434000, HO_458000, HO_467000, BK433, BK434, BK457, BK466, BK467, HB⟩ := hcut
        cases kq with
        | zero => exact absurd HA.out (by simp [foghornlaw04_StoreWrites.j0])
        | succ kj57 =>
         have H := HA.out
         clear HA
         simp only [foghornlaw04_StoreWrites.j0] at H
         by_cases c79 : x52_57 = true
         ·subst c79
          have H1 : (foghornlaw04_StoreWrites.j1 kj57 (a1.extract 0 ((ji7) : Int).toNat) t442 y445 t456 t465 1 t435 t438 t439 t440 t441 a2_0 a2_1 t449 t452 t453 t454 t455 t458 t461 t462 t463 t464 0 0 0 false) = some r := by rw [if_pos rfl] at H; exact H
          clear H
          have H := H1
          clear H1
          have H' := aA H
          clear H
          go_wp2
          go_meet
          case rel => exact ⟨_, (1), (by first | rfl | (simp; done) | (simp [*]; done)), H', ⟨by have := HJ57.out; first | omega | exact Nat.le_refl _⟩, ⟨by (with_reducible repeat (first | apply Kd.R_alloc | apply Kd.R_drewN | apply Kd.R_drew)); exact HO_3.out⟩, ⟨by (with_reducible repeat (first | apply Kd.R_alloc | apply Kd.R_drewN | apply Kd.R_drew)); exact HO_434000.out⟩, ⟨by (with_reducible repeat (first | apply Kd.V_alloc | apply Kd.V_drewN | apply Kd.V_drew)); exact HO_458000.out⟩, ⟨by (with_reducible repeat (first | apply Kd.V_alloc | apply Kd.V_drewN | apply Kd.V_drew)); exact HO_467000.out⟩, ⟨by (with_reducible repeat (first | refine blk_drewN ?_ _ | refine blk_drew ?_ | refine blk_alloc ?_ _)); exact BK433.out⟩, ⟨by (with_reducible repeat (first | refine blk_drewN ?_ _ | refine blk_drew ?_ | refine blk_alloc ?_ _)); exact BK434.out⟩, ⟨by (with_reducible repeat (first | refine blk_drewN ?_ _ | refine blk_drew ?_ | refine blk_alloc ?_ _)); exact BK457.out⟩, ⟨by (with_reducible repeat (first | refine blk_drewN ?_ _ | refine blk_drew ?_ | refine blk_alloc ?_ _)); exact BK466.out⟩, ⟨by (with_reducible repeat (first | refine blk_drewN ?_ _ | refine blk_drew ?_ | refine blk_alloc ?_ _)); exact BK467.out⟩, ⟨by repeat (first | (with_reducible first | exact HB.out | apply below_alloc | apply pw_below_drewN | apply below_drew1 | refine below_set ?_ GE433.out | refine below_set ?_ GE434.out | refine below_set ?_ GE457.out | refine below_set ?_ GE466.out | refine below_set ?_ GE467.out) | exact HB.out)⟩⟩
         ·replace c79 := Bool.eq_false_iff.mpr c79
          subst c79
          have H1 : (if ((a1.extract 0 ((ji7) : Int).toNat).size : Int) > 96 then (foghornlaw04_StoreWrites.j1 kj57 (a1.extract 0 ((ji7) : Int).toNat) t442 y445 t456 t465 2 t435 t438 t439 t440 t441 a2_0 a2_1 t449 t452 t453 t454 t455 t458 t461 t462 t463 t464 0 0 0 false) else (if t441 = true then (foghornlaw04_StoreWrites.j1 kj57 (a1.extract 0 ((ji7) : Int).toNat) t442 y445 t456 t465 9 t435 t438 t439 t440 t441 a2_0 a2_1 t449 t452 t453 t454 t455 t458 t461 t462 t463 t464 0 0 0 false) else ((foghornref04_Area.f t435).bind fun t471 => (if t439 = t471 then (foghornlaw04_StoreWrites.j1 kj57 (a1.extract 0 ((ji7) : Int).toNat) t442 y445 t456 t465 5 t435 t438 t439 t440 t441 a2_0 a2_1 t449 t452 t453 t454 t455 t458 t461 t462 t463 t464 0 0 0 false) else (foghornlaw04_StoreWrites.j1 kj57 (a1.extract 0 ((ji7) : Int).toNat) t442 y445 t456 t465 0 t435 t438 t439 t440 t441 a2_0 a2_1 t449 t452 t453 t454 t455 t458 t461 t462 t463 t464 0 0 0 false))))) = some r := by rw [if_neg (show ¬ (false = true) by decide)] at H; exact H
          clear H
          have H := H1
          clear H1
          by_cases c80 : ((a1.extract 0 ((ji7) : Int).toNat).size : Int) > 96
          ·rw [if_pos c80] at H
           have c80b0 : decide (96 < ((a1.extract 0 ((ji7) : Int).toNat).size : Int)) = true := decide_eq_true c80
           have c80b9 : decide (96 < ((min (ji7).toNat a1.size : Nat) : Int)) = true := decide_eq_true (by have h_ := c80; rw [ByteArray.size_extract] at h_; omega)
           have c80b1 : decide (96 < (a1.extract 0 ((ji7) : Int).toNat).size) = true := decide_eq_true (by omega)
           clear c80
           have H' := aA H
           clear H
           go_wp2
           go_meet
           case rel => exact ⟨_, (2), (by first | rfl | (simp; done) | (simp [*]; done)), H', ⟨by have := HJ57.out; first | omega | exact Nat.le_refl _⟩, ⟨by (with_reducible repeat (first | apply Kd.R_alloc | apply Kd.R_drewN | apply Kd.R_drew)); exact HO_3.out⟩, ⟨by (with_reducible repeat (first | apply Kd.R_alloc | apply Kd.R_drewN | apply Kd.R_drew)); exact HO_434000.out⟩, ⟨by (with_reducible repeat (first | apply Kd.V_alloc | apply Kd.V_drewN | apply Kd.V_drew)); exact HO_458000.out⟩, ⟨by (with_reducible repeat (first | apply Kd.V_alloc | apply Kd.V_drewN | apply Kd.V_drew)); exact HO_467000.out⟩, ⟨by (with_reducible repeat (first | refine blk_drewN ?_ _ | refine blk_drew ?_ | refine blk_alloc ?_ _)); exact BK433.out⟩, ⟨by (with_reducible repeat (first | refine blk_drewN ?_ _ | refine blk_drew ?_ | refine blk_alloc ?_ _)); exact BK434.out⟩, ⟨by (with_reducible repeat (first | refine blk_drewN ?_ _ | refine blk_drew ?_ | refine blk_alloc ?_ _)); exact BK457.out⟩, ⟨by (with_reducible repeat (first | refine blk_drewN ?_ _ | refine blk_drew ?_ | refine blk_alloc ?_ _)); exact BK466.out⟩, ⟨by (with_reducible repeat (first | refine blk_drewN ?_ _ | refine blk_drew ?_ | refine blk_alloc ?_ _)); exact BK467.out⟩, ⟨by repeat (first | (with_reducible first | exact HB.out | apply below_alloc | apply pw_below_drewN | apply below_drew1 | refine below_set ?_ GE433.out | refine below_set ?_ GE434.out | refine below_set ?_ GE457.out | refine below_set ?_ GE466.out | refine below_set ?_ GE467.out) | exact HB.out)⟩⟩
          ·rw [if_neg c80] at H
           have c80b0 : decide (96 < ((a1.extract 0 ((ji7) : Int).toNat).size : Int)) = false := decide_eq_false c80
           have c80b9 : decide (96 < ((min (ji7).toNat a1.size : Nat) : Int)) = false := decide_eq_false (by have h_ := c80; rw [ByteArray.size_extract] at h_; omega)
           have c80b1 : decide (96 < (a1.extract 0 ((ji7) : Int).toNat).size) = false := decide_eq_false (by omega)
           clear c80
           by_cases c81 : t441 = true
           ·subst c81
            have H1 : (foghornlaw04_StoreWrites.j1 kj57 (a1.extract 0 ((ji7) : Int).toNat) t442 y445 t456 t465 9 t435 t438 t439 t440 true a2_0 a2_1 t449 t452 t453 t454 t455 t458 t461 t462 t463 t464 0 0 0 false) = some r := by rw [if_pos rfl] at H; exact H
            clear H
            have H := H1
            clear H1
            have H' := aA H
            clear H
            have hnb82 := NB433_434.out
            have hnc82 := NB434_433.out
            have hnb83 := NB433_457.out
            have hnc83 := NB457_433.out
            have hnb84 := NB433_466.out
            have hnc84 := NB466_433.out
            have hnb85 := NB433_467.out
            have hnc85 := NB467_433.out
            obtain ⟨hcz86_0, hcz86_1, hcz86_2, hcz86_3, hcz86_4⟩ := bC5 BK433.out
            obtain ⟨hfz86_0, hfz86_1, hfz86_2, hfz86_3, hfz86_4⟩ := bF5 BK433.out
            go_wp2
            go_meet
            case rel => exact ⟨_, (9), (by first | rfl | (simp; done) | (simp [*]; done)), H', ⟨by have := HJ57.out; first | omega | exact Nat.le_refl _⟩, ⟨by (with_reducible repeat (first | apply Kd.R_alloc | apply Kd.R_drewN | apply Kd.R_drew)); exact HO_3.out⟩, ⟨by (with_reducible repeat (first | apply Kd.R_alloc | apply Kd.R_drewN | apply Kd.R_drew)); exact HO_434000.out⟩, ⟨by (with_reducible repeat (first | apply Kd.V_alloc | apply Kd.V_drewN | apply Kd.V_drew)); exact HO_458000.out⟩, ⟨by (with_reducible repeat (first | apply Kd.V_alloc | apply Kd.V_drewN | apply Kd.V_drew)); exact HO_467000.out⟩, ⟨by (with_reducible repeat (first | refine blk_drewN ?_ _ | refine blk_drew ?_ | refine blk_alloc ?_ _)); exact BK433.out⟩, ⟨by (with_reducible repeat (first | refine blk_drewN ?_ _ | refine blk_drew ?_ | refine blk_alloc ?_ _)); exact BK434.out⟩, ⟨by (with_reducible repeat (first | refine blk_drewN ?_ _ | refine blk_drew ?_ | refine blk_alloc ?_ _)); exact BK457.out⟩, ⟨by (with_reducible repeat (first | refine blk_drewN ?_ _ | refine blk_drew ?_ | refine blk_alloc ?_ _)); exact BK466.out⟩, ⟨by (with_reducible repeat (first | refine blk_drewN ?_ _ | refine blk_drew ?_ | refine blk_alloc ?_ _)); exact BK467.out⟩, ⟨by repeat (first | (with_reducible first | exact HB.out | apply below_alloc | apply pw_below_drewN | apply below_drew1 | refine below_set ?_ GE433.out | refine below_set ?_ GE434.out | refine below_set ?_ GE457.out | refine below_set ?_ GE466.out | refine below_set ?_ GE467.out) | exact HB.out)⟩⟩
           ·replace c81 := Bool.eq_false_iff.mpr c81
            subst c81
            have H1 : ((foghornref04_Area.f t435).bind fun t471 => (if t439 = t471 then (foghornlaw04_StoreWrites.j1 kj57 (a1.extract 0 ((ji7) : Int).toNat) t442 y445 t456 t465 5 t435 t438 t439 t440 false a2_0 a2_1 t449 t452 t453 t454 t455 t458 t461 t462 t463 t464 0 0 0 false) else (foghornlaw04_StoreWrites.j1 kj57 (a1.extract 0 ((ji7) : Int).toNat) t442 y445 t456 t465 0 t435 t438 t439 t440 false a2_0 a2_1 t449 t452 t453 t454 t455 t458 t461 t462 t463 t464 0 0 0 false))) = some r := by rw [if_neg (show ¬ (false = true) by decide)] at H; exact H
            clear H
            have H := H1
            clear H1
            replace H := Option.bind_eq_some_iff.mp H
            obtain ⟨t471, A870, H⟩ := H
            have A87 := aA A870
            clear A870
            by_cases c88 : t439 = t471
            ·rw [if_pos c88] at H
             have c88b0 : (t439 == t471) = true := beq_iff_eq.mpr c88
             have c88b1 : (t439 != t471) = false := bne_eq_false_iff_eq.mpr c88
             clear c88
             have H' := aA H
             clear H
             have hnb89 := NB433_434.out
             have hnc89 := NB434_433.out
             have hnb90 := NB433_457.out
             have hnc90 := NB457_433.out
             have hnb91 := NB433_466.out
             have hnc91 := NB466_433.out
             have hnb92 := NB433_467.out
             have hnc92 := NB467_433.out
             obtain ⟨hcz93_0, hcz93_1, hcz93_2, hcz93_3, hcz93_4⟩ := bC5 BK433.out
             obtain ⟨hfz93_0, hfz93_1, hfz93_2, hfz93_3, hfz93_4⟩ := bF5 BK433.out
             try go_wp2
             have n0_ := aA (Kd.R_drew HO_3.out)
             have n1_ := aA (Kd.R_drew HO_434000.out)
             have n2_ := aA (Kd.V_drew HO_458000.out)
             have n3_ := aA (Kd.V_drew HO_467000.out)
             have n4_ := aA (blk_drew BK433.out)
             have n5_ := aA (blk_drew BK434.out)
             have n6_ := aA (blk_drew BK457.out)
             have n7_ := aA (blk_drew BK466.out)
             have n8_ := aA (blk_drew BK467.out)
             have n9_ := aA (below_drew1 HB.out)
             clear HO_3
             clear HO_434000
             clear HO_458000
             clear HO_467000
             clear BK433
             clear BK434
             clear BK457
             clear BK466
             clear BK467
             clear HB
             have HO_3 := n0_
             have HO_434000 := n1_
             have HO_458000 := n2_
             have HO_467000 := n3_
             have BK433 := n4_
             have BK434 := n5_
             have BK457 := n6_
             have BK466 := n7_
             have BK467 := n8_
             have HB := n9_
             clear n0_ n1_ n2_ n3_ n4_ n5_ n6_ n7_ n8_ n9_
             refine start_ (n := 7) (S := fun w' => w'.cell? ⟨gb433, 0, none⟩ = some (.slice Ao25 t435.length co25) ∧ w'.cell? ⟨gb433, 1, none⟩ = some (.int .i64 t438) ∧ w'.cell? ⟨gb433, 2, none⟩ = some (.int .i64 t439) ∧ w'.cell? ⟨gb433, 3, none⟩ = some (.int .i64 t440) ∧ w'.cell? ⟨gb433, 4, none⟩ = some (.bool false)) (ds := []) (bA 7 0) (by kernel_rfl) rfl rfl (bC5 BK433.out) (fun hHeld => ?_)
             generalize wc.drew = w94 at HO_3 HO_434000 HO_458000 HO_467000 BK433 BK434 BK457 BK466 BK467 HB hHeld ⊢
             refine pure_ (i := 0) (N := some 69) (v := ?_) (a' := ?_) (bA 7 1) rfl rfl (by kernel_rfl) (fun _ _ _ h => h) (Or.inl ⟨by rfl, ?_⟩) ?_ ?_
             rotate_left
             ·intro w'
              go_simp
              with_reducible rfl
             rotate_left
             ·exact mP
             refine pure_ (i := 2) (N := some 71) (v := ?_) (a' := ?_) (bA 7 5) rfl rfl (by kernel_rfl) (fun _ _ _ h => h) (Or.inl ⟨by rfl, ?_⟩) ?_ ?_
             rotate_left
             ·intro w'
              go_simp
              with_reducible rfl
             rotate_left
             ·exact mP
             refine take_ (i := 1) (N := some 70) (v := ?_) (a' := ?_) (bA 7 7) rfl rfl (by kernel_rfl) (fun _ _ _ h => h) (Or.inl ⟨by rfl, ?_⟩) hHeld ?_ ?_
             rotate_left
             ·rintro w' ⟨s0, s1, s2, s3, s4⟩
              go_simp
              with_reducible rfl
             rotate_left
             ·exact mP
             refine take_ (i := 3) (N := some 72) (v := ?_) (a' := ?_) (bA 7 15) rfl rfl (by kernel_rfl) (fun _ _ _ h => h) (Or.inl ⟨by rfl, ?_⟩) hHeld ?_ ?_
             rotate_left
             ·rintro w' ⟨s0, s1, s2, s3, s4⟩
              go_simp
              with_reducible rfl
             rotate_left
             ·exact mP
             refine one_ (i := 4) (N := some 73) (bA 7 31) rfl rfl (by kernel_rfl) (by decide) (fun K hK => ?_)
             refine goes_ Try.func24 (by kernel_rfl) rfl #[.agg #[.slice Ao25 t435.length co25]] (by rfl) rfl rfl mS ?_
             with_reducible refine (foghornref04_Area.calls _ _ t435 t471 _ ?side1 ?side2 A87.out).mono ?_
             (case side1 => exact mC ((Kd.R_reads' HO_434000.out).2.2))
             (case side2 => exact (Kd.R_reads' HO_434000.out).2.1)
             rintro e w95 ⟨rfl, hb⟩
             refine ⟨_, rfl, ?_⟩
             have n0_ := aA (Kd.R_below (mR HO_3.out) hb)
             have n1_ := aA (Kd.R_below (mR HO_434000.out) hb)
             have n2_ := aA (Kd.V_below (by (with_reducible repeat (first | apply Kd.V_alloc | apply Kd.V_drewN | apply Kd.V_drew)); exact HO_458000.out) hb)
             have n3_ := aA (Kd.V_below (by (with_reducible repeat (first | apply Kd.V_alloc | apply Kd.V_drewN | apply Kd.V_drew)); exact HO_467000.out) hb)
             have n4_ := aA (bB BK433.out hb)
             have n5_ := aA (bB BK434.out hb)
             have n6_ := aA (bB BK457.out hb)
             have n7_ := aA (bB BK466.out hb)
             have n8_ := aA (bB BK467.out hb)
             have n9_ := aA (below_step (by repeat (first | (with_reducible first | exact HB.out | apply below_alloc | apply pw_below_drewN | apply below_drew1 | refine below_set ?_ GE433.out | refine below_set ?_ GE434.out | refine below_set ?_ GE457.out | refine below_set ?_ GE466.out | refine below_set ?_ GE467.out) | exact HB.out)) hb)
             clear HO_3
             clear HO_434000
             clear HO_458000
             clear HO_467000
             clear BK433
             clear BK434
             clear BK457
             clear BK466
             clear BK467
             clear HB
             have HO_3 := n0_
             have HO_434000 := n1_
             have HO_458000 := n2_
             have HO_467000 := n3_
             have BK433 := n4_
             have BK434 := n5_
             have BK457 := n6_
             have BK466 := n7_
             have BK467 := n8_
             have HB := n9_
             clear n0_ n1_ n2_ n3_ n4_ n5_ n6_ n7_ n8_ n9_
             (try clear hb)
             (try clear hb2)
             (try clear hk)
             (try clear hi)
             refine hK.out _ _ (bC5 BK433.out) (fun hHeld => ?_)
             clear hK K
             refine norm_ (a' := ?_) ?_ ?_
             rotate_left
             ·show Act.put _ (some 73) _ = _
              simp only [Act.put, List.setIfInBounds_toArray, List.set_cons_zero, List.set_cons_succ, i64_w, i32_w]
              rfl
             refine pure_ (i := 5) (N := some 74) (v := ?_) (a' := ?_) (bA 7 63) rfl rfl (by kernel_rfl) (fun _ _ _ h => h) (Or.inl ⟨by rfl, ?_⟩) ?_ ?_
             rotate_left
             ·intro w'
              go_simp
              with_reducible rfl
             rotate_left
             ·exact mP
             refine pure_ (i := 6) (N := some 68) (v := ?_) (a' := ?_) (bA 7 127) rfl rfl (by kernel_rfl) (fun _ _ _ h => h) (Or.inl ⟨by rfl, ?_⟩) ?_ ?_
             rotate_left
             ·intro w'
              go_simp
              with_reducible rfl
             rotate_left
             ·exact mP
             refine done_ (by kernel_rfl) ?_
             try go_wp2
             go_meet
             case rel => exact ⟨_, (5), (by first | rfl | (simp; done) | (simp [*]; done)), H', ⟨by have := HJ57.out; first | omega | exact Nat.le_refl _⟩, ⟨by (with_reducible repeat (first | apply Kd.R_alloc | apply Kd.R_drewN | apply Kd.R_drew)); exact HO_3.out⟩, ⟨by (with_reducible repeat (first | apply Kd.R_alloc | apply Kd.R_drewN | apply Kd.R_drew)); exact HO_434000.out⟩, ⟨by (with_reducible repeat (first | apply Kd.V_alloc | apply Kd.V_drewN | apply Kd.V_drew)); exact HO_458000.out⟩, ⟨by (with_reducible repeat (first | apply Kd.V_alloc | apply Kd.V_drewN | apply Kd.V_drew)); exact HO_467000.out⟩, ⟨by (with_reducible repeat (first | refine blk_drewN ?_ _ | refine blk_drew ?_ | refine blk_alloc ?_ _)); exact BK433.out⟩, ⟨by (with_reducible repeat (first | refine blk_drewN ?_ _ | refine blk_drew ?_ | refine blk_alloc ?_ _)); exact BK434.out⟩, ⟨by (with_reducible repeat (first | refine blk_drewN ?_ _ | refine blk_drew ?_ | refine blk_alloc ?_ _)); exact BK457.out⟩, ⟨by (with_reducible repeat (first | refine blk_drewN ?_ _ | refine blk_drew ?_ | refine blk_alloc ?_ _)); exact BK466.out⟩, ⟨by (with_reducible repeat (first | refine blk_drewN ?_ _ | refine blk_drew ?_ | refine blk_alloc ?_ _)); exact BK467.out⟩, ⟨by repeat (first | (with_reducible first | exact HB.out | apply below_alloc | apply pw_below_drewN | apply below_drew1 | refine below_set ?_ GE433.out | refine below_set ?_ GE434.out | refine below_set ?_ GE457.out | refine below_set ?_ GE466.out | refine below_set ?_ GE467.out) | exact HB.out)⟩⟩
            ·rw [if_neg c88] at H
             have c88b0 : (t439 == t471) = false := beq_eq_false_iff_ne.mpr c88
             have c88b1 : (t439 != t471) = true := bne_iff_ne.mpr c88
             have H' := aA H
             clear H
             have hnb96 := NB433_434.out
             have hnc96 := NB434_433.out
             have hnb97 := NB433_457.out
             have hnc97 := NB457_433.out
             have hnb98 := NB433_466.out
             have hnc98 := NB466_433.out
             have hnb99 := NB433_467.out
             have hnc99 := NB467_433.out
             obtain ⟨hcz100_0, hcz100_1, hcz100_2, hcz100_3, hcz100_4⟩ := bC5 BK433.out
             obtain ⟨hfz100_0, hfz100_1, hfz100_2, hfz100_3, hfz100_4⟩ := bF5 BK433.out
             try go_wp2
             have n0_ := aA (Kd.R_drew HO_3.out)
             have n1_ := aA (Kd.R_drew HO_434000.out)
             have n2_ := aA (Kd.V_drew HO_458000.out)
             have n3_ := aA (Kd.V_drew HO_467000.out)
             have n4_ := aA (blk_drew BK433.out)
             have n5_ := aA (blk_drew BK434.out)
             have n6_ := aA (blk_drew BK457.out)
             have n7_ := aA (blk_drew BK466.out)
             have n8_ := aA (blk_drew BK467.out)
             have n9_ := aA (below_drew1 HB.out)
             clear HO_3
             clear HO_434000
             clear HO_458000
             clear HO_467000
             clear BK433
             clear BK434
             clear BK457
             clear BK466
             clear BK467
             clear HB
             have HO_3 := n0_
             have HO_434000 := n1_
             have HO_458000 := n2_
             have HO_467000 := n3_
             have BK433 := n4_
             have BK434 := n5_
             have BK457 := n6_
             have BK466 := n7_
             have BK467 := n8_
             have HB := n9_
             clear n0_ n1_ n2_ n3_ n4_ n5_ n6_ n7_ n8_ n9_
             refine start_ (n := 7) (S := fun w' => w'.cell? ⟨gb433, 0, none⟩ = some (.slice Ao25 t435.length co25) ∧ w'.cell? ⟨gb433, 1, none⟩ = some (.int .i64 t438) ∧ w'.cell? ⟨gb433, 2, none⟩ = some (.int .i64 t439) ∧ w'.cell? ⟨gb433, 3, none⟩ = some (.int .i64 t440) ∧ w'.cell? ⟨gb433, 4, none⟩ = some (.bool false)) (ds := []) (bA 7 0) (by kernel_rfl) rfl rfl (bC5 BK433.out) (fun hHeld => ?_)
             generalize wc.drew = w101 at HO_3 HO_434000 HO_458000 HO_467000 BK433 BK434 BK457 BK466 BK467 HB hHeld ⊢
             refine pure_ (i := 0) (N := some 69) (v := ?_) (a' := ?_) (bA 7 1) rfl rfl (by kernel_rfl) (fun _ _ _ h => h) (Or.inl ⟨by rfl, ?_⟩) ?_ ?_
             rotate_left
             ·intro w'
              go_simp
              with_reducible rfl
             rotate_left
             ·exact mP
             refine pure_ (i := 2) (N := some 71) (v := ?_) (a' := ?_) (bA 7 5) rfl rfl (by kernel_rfl) (fun _ _ _ h => h) (Or.inl ⟨by rfl, ?_⟩) ?_ ?_
             rotate_left
             ·intro w'
              go_simp
              with_reducible rfl
             rotate_left
             ·exact mP
             refine take_ (i := 1) (N := some 70) (v := ?_) (a' := ?_) (bA 7 7) rfl rfl (by kernel_rfl) (fun _ _ _ h => h) (Or.inl ⟨by rfl, ?_⟩) hHeld ?_ ?_
             rotate_left
             ·rintro w' ⟨s0, s1, s2, s3, s4⟩
              go_simp
              with_reducible rfl
             rotate_left
             ·exact mP
             refine take_ (i := 3) (N := some 72) (v := ?_) (a' := ?_) (bA 7 15) rfl rfl (by kernel_rfl) (fun _ _ _ h => h) (Or.inl ⟨by rfl, ?_⟩) hHeld ?_ ?_
             rotate_left
             ·rintro w' ⟨s0, s1, s2, s3, s4⟩
              go_simp
              with_reducible rfl
             rotate_left
             ·exact mP
             refine one_ (i := 4) (N := some 73) (bA 7 31) rfl rfl (by kernel_rfl) (by decide) (fun K hK => ?_)
             refine goes_ Try.func24 (by kernel_rfl) rfl #[.agg #[.slice Ao25 t435.length co25]] (by rfl) rfl rfl mS ?_
             with_reducible refine (foghornref04_Area.calls _ _ t435 t471 _ ?side1 ?side2 A87.out).mono ?_
             (case side1 => exact mC ((Kd.R_reads' HO_434000.out).2.2))
             (case side2 => exact (Kd.R_reads' HO_434000.out).2.1)
             rintro e w102 ⟨rfl, hb⟩
             refine ⟨_, rfl, ?_⟩
             have n0_ := aA (Kd.R_below (mR HO_3.out) hb)
             have n1_ := aA (Kd.R_below (mR HO_434000.out) hb)
             have n2_ := aA (Kd.V_below (by (with_reducible repeat (first | apply Kd.V_alloc | apply Kd.V_drewN | apply Kd.V_drew)); exact HO_458000.out) hb)
             have n3_ := aA (Kd.V_below (by (with_reducible repeat (first | apply Kd.V_alloc | apply Kd.V_drewN | apply Kd.V_drew)); exact HO_467000.out) hb)
             have n4_ := aA (bB BK433.out hb)
             have n5_ := aA (bB BK434.out hb)
             have n6_ := aA (bB BK457.out hb)
             have n7_ := aA (bB BK466.out hb)
             have n8_ := aA (bB BK467.out hb)
             have n9_ := aA (below_step (by repeat (first | (with_reducible first | exact HB.out | apply below_alloc | apply pw_below_drewN | apply below_drew1 | refine below_set ?_ GE433.out | refine below_set ?_ GE434.out | refine below_set ?_ GE457.out | refine below_set ?_ GE466.out | refine below_set ?_ GE467.out) | exact HB.out)) hb)
             clear HO_3
             clear HO_434000
             clear HO_458000
             clear HO_467000
             clear BK433
             clear BK434
             clear BK457
             clear BK466
             clear BK467
             clear HB
             have HO_3 := n0_
             have HO_434000 := n1_
             have HO_458000 := n2_
             have HO_467000 := n3_
             have BK433 := n4_
             have BK434 := n5_
             have BK457 := n6_
             have BK466 := n7_
             have BK467 := n8_
             have HB := n9_
             clear n0_ n1_ n2_ n3_ n4_ n5_ n6_ n7_ n8_ n9_
             (try clear hb)
             (try clear hb2)
             (try clear hk)
             (try clear hi)
             refine hK.out _ _ (bC5 BK433.out) (fun hHeld => ?_)
             clear hK K
             refine norm_ (a' := ?_) ?_ ?_
             rotate_left
             ·show Act.put _ (some 73) _ = _
              simp only [Act.put, List.setIfInBounds_toArray, List.set_cons_zero, List.set_cons_succ, i64_w, i32_w]
              rfl
             refine pure_ (i := 5) (N := some 74) (v := ?_) (a' := ?_) (bA 7 63) rfl rfl (by kernel_rfl) (fun _ _ _ h => h) (Or.inl ⟨by rfl, ?_⟩) ?_ ?_
             rotate_left
             ·intro w'
              go_simp
              with_reducible rfl
             rotate_left
             ·exact mP
             refine pure_ (i := 6) (N := some 68) (v := ?_) (a' := ?_) (bA 7 127) rfl rfl (by kernel_rfl) (fun _ _ _ h => h) (Or.inl ⟨by rfl, ?_⟩) ?_ ?_
             rotate_left
             ·intro w'
              go_simp
              with_reducible rfl
             rotate_left
             ·exact mP
             refine done_ (by kernel_rfl) ?_
             try go_wp2
             go_meet
             case rel => exact ⟨_, (0), (by first | rfl | (simp; done) | (simp [*]; done)), H', ⟨by have := HJ57.out; first | omega | exact Nat.le_refl _⟩, ⟨by (with_reducible repeat (first | apply Kd.R_alloc | apply Kd.R_drewN | apply Kd.R_drew)); exact HO_3.out⟩, ⟨by (with_reducible repeat (first | apply Kd.R_alloc | apply Kd.R_drewN | apply Kd.R_drew)); exact HO_434000.out⟩, ⟨by (with_reducible repeat (first | apply Kd.V_alloc | apply Kd.V_drewN | apply Kd.V_drew)); exact HO_458000.out⟩, ⟨by (with_reducible repeat (first | apply Kd.V_alloc | apply Kd.V_drewN | apply Kd.V_drew)); exact HO_467000.out⟩, ⟨by (with_reducible repeat (first | refine blk_drewN ?_ _ | refine blk_drew ?_ | refine blk_alloc ?_ _)); exact BK433.out⟩, ⟨by (with_reducible repeat (first | refine blk_drewN ?_ _ | refine blk_drew ?_ | refine blk_alloc ?_ _)); exact BK434.out⟩, ⟨by (with_reducible repeat (first | refine blk_drewN ?_ _ | refine blk_drew ?_ | refine blk_alloc ?_ _)); exact BK457.out⟩, ⟨by (with_reducible repeat (first | refine blk_drewN ?_ _ | refine blk_drew ?_ | refine blk_alloc ?_ _)); exact BK466.out⟩, ⟨by (with_reducible repeat (first | refine blk_drewN ?_ _ | refine blk_drew ?_ | refine blk_alloc ?_ _)); exact BK467.out⟩, ⟨by repeat (first | (with_reducible first | exact HB.out | apply below_alloc | apply pw_below_drewN | apply below_drew1 | refine below_set ?_ GE433.out | refine below_set ?_ GE434.out | refine below_set ?_ GE457.out | refine below_set ?_ GE466.out | refine below_set ?_ GE467.out) | exact HB.out)⟩⟩
      case rest =>
       clear HC18
       try clear c1
       try clear c2
       try clear p2
       try clear q2
       try clear c3
       try clear c4
       try clear c5
       try clear c6
       try clear c7
       try clear c8
       try clear c8b0
       try clear c8b1
       try clear c9
       try clear c9b0
       try clear c9b1
       try clear c10
       try clear c12
       try clear c12b0
       try clear c12b1
       try clear c13
       try clear c13b0
       try clear c13b1
       try clear c14
       try clear c15
       try clear c17
       try clear c21
       try clear c22
       try clear q22
       try clear c24
       try clear c32
       try clear c38
       try clear c39
       try clear c47
       try clear c48
       try clear c49
       try clear c52
       try clear c53
       try clear c54
       try clear c55
       try clear c60
       try clear c62
       try clear c63
       try clear c64
       try clear c65
       try clear c68
       try clear c69
       try clear c70
       try clear c73
       try clear c74
       try clear c75
       try clear c76
       try clear c79
       try clear c80
       try clear c80b0
       try clear c80b1
       try clear c81
       try clear c82
       try clear c83
       try clear c84
       try clear c85
       try clear c88
       try clear c88b0
       try clear c88b1
       try clear c89
       try clear c90
       try clear c91
       try clear c92
       try clear c96
       try clear c97
       try clear c98
       try clear c99
       try clear hcz100_0 hcz100_1 hcz100_2 hcz100_3 hcz100_4
       try clear hcz33_0 hcz33_1 hcz33_2 hcz33_3 hcz33_4
       try clear hcz34_0 hcz34_1
       try clear hcz40_0 hcz40_1 hcz40_2 hcz40_3 hcz40_4
       try clear hcz42_0 hcz42_1 hcz42_2 hcz42_3 hcz42_4
       try clear hcz50_0 hcz50_1 hcz50_2 hcz50_3 hcz50_4
       try clear hcz56_0 hcz56_1 hcz56_2 hcz56_3 hcz56_4
       try clear hcz66_0 hcz66_1 hcz66_2 hcz66_3 hcz66_4
       try clear hcz71_0 hcz71_1
       try clear hcz77_0 hcz77_1 hcz77_2 hcz77_3 hcz77_4
       try clear hcz86_0 hcz86_1 hcz86_2 hcz86_3 hcz86_4
       try clear hcz93_0 hcz93_1 hcz93_2 hcz93_3 hcz93_4
       try clear hfz100_0 hfz100_1 hfz100_2 hfz100_3 hfz100_4
       try clear hfz33_0 hfz33_1 hfz33_2 hfz33_3 hfz33_4
       try clear hfz34_0 hfz34_1
       try clear hfz40_0 hfz40_1 hfz40_2 hfz40_3 hfz40_4
       try clear hfz42_0 hfz42_1 hfz42_2 hfz42_3 hfz42_4
       try clear hfz50_0 hfz50_1 hfz50_2 hfz50_3 hfz50_4
       try clear hfz56_0 hfz56_1 hfz56_2 hfz56_3 hfz56_4
       try clear hfz66_0 hfz66_1 hfz66_2 hfz66_3 hfz66_4
       try clear hfz71_0 hfz71_1
       try clear hfz77_0 hfz77_1 hfz77_2 hfz77_3 hfz77_4
       try clear hfz86_0 hfz86_1 hfz86_2 hfz86_3 hfz86_4
       try clear hfz93_0 hfz93_1 hfz93_2 hfz93_3 hfz93_4
       try clear p2
       try clear q2
       try clear q22
       obtain ⟨kq, x16_17, rfl, HA, HJ17, HO_3, HO_434000, HO_458000, HO_467000, BK433, BK434, BK457, BK466, BK467, HB⟩ := hcut
       cases kq with
       | zero => exact absurd HA.out (by simp [foghornlaw04_StoreWrites.j1])
       | succ kj17 =>
        have H := HA.out
        clear HA
        simp only [foghornlaw04_StoreWrites.j1] at H
        have HC103 := aA H
        clear H
        go_upto_if 76 with (fail)
        go_cut [] (fun wc => ∃ (kq : Nat), Aside0 (foghornlaw04_StoreWrites.j2 kq t442 y445 t465 t435 t438 t439 t440 t441 t458 t461 t462 t463 t464 0 0 0 false = some r) ∧ Aside0 (kq ≤ kj17) ∧ Aside0 (Kd.R Kd.string 9 wc w.heap.size (fun k_ => some k_ ≠ ((.slice Ao25 t435.length co25) : Value).ownBlock) (.slice Ao43 t442.length co43) t442) ∧ Aside0 (Kd.R Kd.string 9 wc w.heap.size (fun k_ => some k_ ≠ ((.slice Ao43 t442.length co43) : Value).ownBlock) (.slice Ao25 t435.length co25) t435) ∧ Aside0 (Kd.V Kd.string 9 wc w.heap.size (fun k_ => some k_ ≠ ((.slice Ao43 t442.length co43) : Value).ownBlock ∧ k_ ≠ gb433 ∧ k_ ≠ gb434 ∧ k_ ≠ gb457 ∧ k_ ≠ gb466 ∧ k_ ≠ gb467) (.slice Ao37 t449.length co37) t449) ∧ Aside0 (Kd.V Kd.string 9 wc w.heap.size (fun k_ => some k_ ≠ ((.slice Ao43 t442.length co43) : Value).ownBlock ∧ k_ ≠ gb433 ∧ k_ ≠ gb434 ∧ k_ ≠ gb457 ∧ k_ ≠ gb466 ∧ k_ ≠ gb467) (.slice Ao46 t458.length co46) t458) ∧ Aside0 (wc.heap[gb433]? = some (.cells #[(.slice Ao25 t435.length co25), .int .i64 t438, .int .i64 t439, .int .i64 t440, .bool t441] 26 (0, 0))) ∧ Aside0 (wc.heap[gb434]? = some (.cells #[.int .i64 a2_0, .int .i64 a2_1] 45 (0, 0))) ∧ Aside0 (wc.heap[gb457]? = some (.cells #[(.slice Ao37 t449.length co37), .int .i64 t452, .int .i64 t453, .int .i64 t454, .bool t455] 26 (0, 0))) ∧ Aside0 (wc.heap[gb466]? = some (.cells #[(.slice Ao46 t458.length co46), .int .i64 t461, .int .i64 t462, .int .i64 t463, .bool t464] 26 (0, 0))) ∧ Aside0 (wc.heap[gb467]? = some (.cells #[(.slice none 0 0), .int .i64 0, .int .i64 0, .int .i64 0, .bool false] 26 (0, 0))) ∧ Aside0 (Below w.heap.size w wc))
        case first =>
         have H := HC103.out
         clear HC103
         by_cases c104 : x16_17 = 0
         ·rw [if_pos c104] at H
          have c104b0 : (x16_17 == 0) = true := beq_iff_eq.mpr c104
          have c104b1 : (x16_17 != 0) = false := bne_eq_false_iff_eq.mpr c104
          clear c104
          (first | rw [c104b0] | (simp only [i64_w, i32_w]; rw [c104b0]) | skip)
          replace H := Option.bind_eq_some_iff.mp H
          obtain ⟨⟨t472, t475, t476, t477, t478, t479⟩, A1050, H⟩ := H
          have A105 := aA A1050
          clear A1050
          by_cases c106 : t456 = t479
          ·rw [if_pos c106] at H
           have c106b0 : (t456 == t479) = true := beq_iff_eq.mpr c106
           have c106b1 : (t456 != t479) = false := bne_eq_false_iff_eq.mpr c106
           clear c106
           replace H := Option.bind_eq_some_iff.mp H
           obtain ⟨t481, A1070, H⟩ := H
           have A107 := aA A1070
           clear A1070
           by_cases c108 : t481 = true
           ·subst c108
            have H1 : (foghornlaw04_StoreWrites.j2 kj17 t442 y445 t465 t435 t438 t439 t440 t441 t458 t461 t462 t463 t464 0 0 0 false) = some r := by rw [if_pos rfl] at H; exact H
            clear H
            have H := H1
            clear H1
            have H' := aA H
            clear H
            have hnb109 := NB433_434.out
            have hnc109 := NB434_433.out
            have hnb110 := NB433_457.out
            have hnc110 := NB457_433.out
            have hnb111 := NB433_466.out
            have hnc111 := NB466_433.out
            have hnb112 := NB433_467.out
            have hnc112 := NB467_433.out
            obtain ⟨hcz113_0, hcz113_1, hcz113_2, hcz113_3, hcz113_4⟩ := bC5 BK433.out
            obtain ⟨hfz113_0, hfz113_1, hfz113_2, hfz113_3, hfz113_4⟩ := bF5 BK433.out
            have hnb114 := NB434_457.out
            have hnc114 := NB457_434.out
            have hnb115 := NB434_466.out
            have hnc115 := NB466_434.out
            have hnb116 := NB434_467.out
            have hnc116 := NB467_434.out
            obtain ⟨hcz117_0, hcz117_1⟩ := bC2 BK434.out
            obtain ⟨hfz117_0, hfz117_1⟩ := bF2 BK434.out
            go_wp2_with (first | ((with_reducible refine gate_callee (f := 25) rfl ?_); refine goesL_ (some 90) rfl rfl Try.func25 (by kernel_rfl) rfl #[.agg #[.slice Ao25 t435.length co25, .int .i64 t438, .int .i64 t439, .int .i64 t440, .bool t441], .string (a1.extract 0 ((ji7) : Int).toNat), .agg #[.int .i64 a2_0, .int .i64 a2_1]] rfl (by (try simp only [List.map_toArray, List.map_cons, List.map_nil]); first | done | (simp only [hji7]; rfl) | rfl | (simp only [List.length_drop, List.length_take]; rfl)) ?_; (with_reducible refine (foghornref04_Append.calls kj17 (fun k_ => some k_ = (.slice Ao25 t435.length co25 : Value).ownBlock) _ _ t435 t438 t439 t440 t441 (a1.extract 0 ((ji7) : Int).toNat) a2_0 a2_1 t472 t475 t476 t477 t478 t479 _ ?side1 A105.out).mono ?_); (case side1 => exact Kd.R_V (Kd.R_tight rfl (Kd.R_types (Kd.R_types (Kd.R_types (Kd.R_types (Kd.R_types (HO_434000.out) BK433.out (by decide)) BK434.out (by decide)) BK457.out (by decide)) BK466.out (by decide)) BK467.out (by decide)))); rintro e w118 ⟨v473, rfl, ho0, hb⟩; refine ⟨_, rfl, ?_⟩; have n0_ := aA (Kd.R_below (mR HO_3.out) hb); have n1_ := aA (Kd.R_below (mR HO_434000.out) hb); have n2_ := aA (Kd.V_below (by (with_reducible repeat (first | apply Kd.V_alloc | apply Kd.V_drewN | apply Kd.V_drew)); exact HO_458000.out) hb); have n3_ := aA (Kd.V_below (by (with_reducible repeat (first | apply Kd.V_alloc | apply Kd.V_drewN | apply Kd.V_drew)); exact HO_467000.out) hb); have n4_ := aA (Kd.V_lower (Kd.V_mono (ok' := fun k_ => some k_ ≠ (.slice Ao43 t442.length co43 : Value).ownBlock ∧ k_ ≠ gb433 ∧ k_ ≠ gb434 ∧ k_ ≠ gb457 ∧ k_ ≠ gb466 ∧ k_ ≠ gb467) ho0 (fun k_ hk_ => ⟨Or.elim hk_ (fun hs_ => ((Kd.R_types (Kd.R_types (Kd.R_types (Kd.R_types (Kd.R_types (HO_434000.out) BK433.out (by decide)) BK434.out (by decide)) BK457.out (by decide)) BK466.out (by decide)) BK467.out (by decide)).1 k_ hs_.symm).1.1.1.1.1) (fun hn_ => (Kd.fresh' (Kd.R_lt (mR HO_3.out)) k_ hn_)), Or.elim hk_ (fun hs_ => ((Kd.R_types (Kd.R_types (Kd.R_types (Kd.R_types (Kd.R_types (HO_434000.out) BK433.out (by decide)) BK434.out (by decide)) BK457.out (by decide)) BK466.out (by decide)) BK467.out (by decide)).1 k_ hs_.symm).1.1.1.1.2) (fun hn_ => (Kd.freshB (g := gb433) (o := .cells #[.slice Ao25 t435.length co25, .int .i64 t438, .int .i64 t439, .int .i64 t440, .bool t441] 26 (0, 0)) (mK BK433.out) k_ hn_)), Or.elim hk_ (fun hs_ => ((Kd.R_types (Kd.R_types (Kd.R_types (Kd.R_types (Kd.R_types (HO_434000.out) BK433.out (by decide)) BK434.out (by decide)) BK457.out (by decide)) BK466.out (by decide)) BK467.out (by decide)).1 k_ hs_.symm).1.1.1.2) (fun hn_ => (Kd.freshB (g := gb434) (o := .cells #[.int .i64 a2_0, .int .i64 a2_1] 45 (0, 0)) (mK BK434.out) k_ hn_)), Or.elim hk_ (fun hs_ => ((Kd.R_types (Kd.R_types (Kd.R_types (Kd.R_types (Kd.R_types (HO_434000.out) BK433.out (by decide)) BK434.out (by decide)) BK457.out (by decide)) BK466.out (by decide)) BK467.out (by decide)).1 k_ hs_.symm).1.1.2) (fun hn_ => (Kd.freshB (g := gb457) (o := .cells #[.slice Ao37 t449.length co37, .int .i64 t452, .int .i64 t453, .int .i64 t454, .bool t455] 26 (0, 0)) (mK BK457.out) k_ hn_)), Or.elim hk_ (fun hs_ => ((Kd.R_types (Kd.R_types (Kd.R_types (Kd.R_types (Kd.R_types (HO_434000.out) BK433.out (by decide)) BK434.out (by decide)) BK457.out (by decide)) BK466.out (by decide)) BK467.out (by decide)).1 k_ hs_.symm).1.2) (fun hn_ => (Kd.freshB (g := gb466) (o := .cells #[.slice Ao46 t458.length co46, .int .i64 t461, .int .i64 t462, .int .i64 t463, .bool t464] 26 (0, 0)) (mK BK466.out) k_ hn_)), Or.elim hk_ (fun hs_ => ((Kd.R_types (Kd.R_types (Kd.R_types (Kd.R_types (Kd.R_types (HO_434000.out) BK433.out (by decide)) BK434.out (by decide)) BK457.out (by decide)) BK466.out (by decide)) BK467.out (by decide)).1 k_ hs_.symm).2) (fun hn_ => (Kd.freshB (g := gb467) (o := .cells #[.slice none 0 0, .int .i64 0, .int .i64 0, .int .i64 0, .bool false] 26 (0, 0)) (mK BK467.out) k_ hn_))⟩)) (below_size (by repeat (first | (with_reducible first | exact HB.out | apply below_alloc | apply pw_below_drewN | apply below_drew1 | refine below_set ?_ GE433.out | refine below_set ?_ GE434.out | refine below_set ?_ GE457.out | refine below_set ?_ GE466.out | refine below_set ?_ GE467.out) | exact HB.out)))); have n5_ := aA (bB BK433.out hb); have n6_ := aA (bB BK434.out hb); have n7_ := aA (bB BK457.out hb); have n8_ := aA (bB BK466.out hb); have n9_ := aA (bB BK467.out hb); have n10_ := aA (below_step (by repeat (first | (with_reducible first | exact HB.out | apply below_alloc | apply pw_below_drewN | apply below_drew1 | refine below_set ?_ GE433.out | refine below_set ?_ GE434.out | refine below_set ?_ GE457.out | refine below_set ?_ GE466.out | refine below_set ?_ GE467.out) | exact HB.out)) hb); clear HO_3 HO_434000 HO_458000 HO_467000 BK433 BK434 BK457 BK466 BK467 HB; have HO_3 := n0_; have HO_434000 := n1_; have HO_458000 := n2_; have HO_467000 := n3_; have HO474 := n4_; have BK433 := n5_; have BK434 := n6_; have BK457 := n7_; have BK466 := n8_; have BK467 := n9_; have HB := n10_; clear n0_ n1_ n2_ n3_ n4_ n5_ n6_ n7_ n8_ n9_ n10_; (try clear hb); (try clear hb2); (try clear hk); (try clear hi); (try clear ho0)) | ((with_reducible refine gate_dst (N := 17) rfl ?_); refine box_event ?hg (N := 17) ?hd (cs := #[.slice none 0 0, .int .i64 0, .int .i64 0, .int .i64 0, .bool false]) (t := 26) ?hr ?_; (case hd => rfl); (case hg => rfl); (case hr => first | (go_simp; done) | (go_simp; rfl)); intro gb480 hg w119 hbox hb; have n0_ := aA (Kd.R_below (mR HO_3.out) hb); have n1_ := aA (Kd.R_below (mR HO_434000.out) hb); have n2_ := aA (Kd.V_below (Kd.V_elderB (by (with_reducible repeat (first | apply Kd.V_alloc | apply Kd.V_drewN | apply Kd.V_drew)); exact HO_458000.out) gb480 (Nat.le_of_eq hg.symm)) hb); have n3_ := aA (Kd.V_below (Kd.V_elderB (by (with_reducible repeat (first | apply Kd.V_alloc | apply Kd.V_drewN | apply Kd.V_drew)); exact HO_467000.out) gb480 (Nat.le_of_eq hg.symm)) hb); have n4_ := aA (Kd.V_below (Kd.V_elderB (by (with_reducible repeat (first | apply Kd.V_alloc | apply Kd.V_drewN | apply Kd.V_drew)); exact HO474.out) gb480 (Nat.le_of_eq hg.symm)) hb); have n5_ := aA (bB BK433.out hb); have n6_ := aA (bB BK434.out hb); have n7_ := aA (bB BK457.out hb); have n8_ := aA (bB BK466.out hb); have n9_ := aA (bB BK467.out hb); have n10_ := aA (below_step (by repeat (first | (with_reducible first | exact HB.out | apply below_alloc | apply pw_below_drewN | apply below_drew1 | refine below_set ?_ GE433.out | refine below_set ?_ GE434.out | refine below_set ?_ GE457.out | refine below_set ?_ GE466.out | refine below_set ?_ GE467.out) | exact HB.out)) hb); have n11_ := aA (hbox); have n12_ := aA ((by rw [hg]; exact (below_size (by repeat (first | (with_reducible first | exact HB.out | apply below_alloc | apply pw_below_drewN | apply below_drew1 | refine below_set ?_ GE433.out | refine below_set ?_ GE434.out | refine below_set ?_ GE457.out | refine below_set ?_ GE466.out | refine below_set ?_ GE467.out) | exact HB.out))) : w.heap.size ≤ gb480)); have n13_ := aA ((by rw [hg]; exact (below_size (by repeat (first | (with_reducible first | exact HB.out | apply below_alloc | apply pw_below_drewN | apply below_drew1 | refine below_set ?_ GE433.out | refine below_set ?_ GE434.out | refine below_set ?_ GE457.out | refine below_set ?_ GE466.out | refine below_set ?_ GE467.out) | exact HB.out))) : w.heap.size ≤ gb480)); have n14_ := aA ((bL hg BK433.out)); have n15_ := aA ((bG hg BK433.out)); have n16_ := aA ((bL hg BK434.out)); have n17_ := aA ((bG hg BK434.out)); have n18_ := aA ((bL hg BK457.out)); have n19_ := aA ((bG hg BK457.out)); have n20_ := aA ((bL hg BK466.out)); have n21_ := aA ((bG hg BK466.out)); have n22_ := aA ((bL hg BK467.out)); have n23_ := aA ((bG hg BK467.out)); clear HO_3 HO_434000 HO_458000 HO_467000 HO474 BK433 BK434 BK457 BK466 BK467 HB; have HO_3 := n0_; have HO_434000 := n1_; have HO_458000 := n2_; have HO_467000 := n3_; have HO474 := n4_; have BK433 := n5_; have BK434 := n6_; have BK457 := n7_; have BK466 := n8_; have BK467 := n9_; have HB := n10_; have BK480 := n11_; have GW480 := n12_; have GE480 := n13_; have NB433_480 := n14_; have NB480_433 := n15_; have NB434_480 := n16_; have NB480_434 := n17_; have NB457_480 := n18_; have NB480_457 := n19_; have NB466_480 := n20_; have NB480_466 := n21_; have NB467_480 := n22_; have NB480_467 := n23_; clear n0_ n1_ n2_ n3_ n4_ n5_ n6_ n7_ n8_ n9_ n10_ n11_ n12_ n13_ n14_ n15_ n16_ n17_ n18_ n19_ n20_ n21_ n22_ n23_ hb hbox hg; obtain ⟨Ao120, co120, eo120⟩ := Kd.V_slice HO474.out; subst eo120; have hnb121 := NB480_433.out; have hnc121 := NB433_480.out; have hnb122 := NB480_434.out; have hnc122 := NB434_480.out; have hnb123 := NB480_457.out; have hnc123 := NB457_480.out; have hnb124 := NB480_466.out; have hnc124 := NB466_480.out; have hnb125 := NB480_467.out; have hnc125 := NB467_480.out; obtain ⟨hcz126_0, hcz126_1, hcz126_2, hcz126_3, hcz126_4⟩ := bC5 BK480.out; obtain ⟨hfz126_0, hfz126_1, hfz126_2, hfz126_3, hfz126_4⟩ := bF5 BK480.out; have hnb127 := NB457_466.out; have hnc127 := NB466_457.out; have hnb128 := NB457_467.out; have hnc128 := NB467_457.out; obtain ⟨hcz129_0, hcz129_1, hcz129_2, hcz129_3, hcz129_4⟩ := bC5 BK457.out; obtain ⟨hfz129_0, hfz129_1, hfz129_2, hfz129_3, hfz129_4⟩ := bF5 BK457.out) | (go_at_call 16; (with_reducible refine (foghornref04_Same.calls kj17 _ _ t449 t452 t453 t454 t455 _ _ t472 t475 t476 t477 t478 true _ ?side1 ?side2 ?side3 ?side4 A107.out).mono ?_); (case side1 => refine (Kd.V_reads' (e := 9) (base := w.heap.size) (ok := fun k_ => ((some k_ ≠ (.slice Ao43 t442.length co43 : Value).ownBlock ∧ (k_ ≠ gb433 ∧ (k_ ≠ gb434 ∧ (k_ ≠ gb457 ∧ (k_ ≠ gb466 ∧ k_ ≠ gb467))))) ∧ k_ ≠ gb480)) (n := t449.length) (c := co37) ?_).2.2; exact (by (with_reducible repeat (first | apply Kd.V_alloc | apply Kd.V_drewN | apply Kd.V_drew)); exact (Kd.V_mono (Kd.V_far (p := ⟨gb480, 4, none⟩) (Kd.V_far (p := ⟨gb480, 3, none⟩) (Kd.V_far (p := ⟨gb480, 2, none⟩) (Kd.V_far (p := ⟨gb480, 1, none⟩) (Kd.V_far (p := ⟨gb480, 0, none⟩) (Kd.V_mono HO_458000.out (fun k_ hk => (⟨hk, hk.2⟩ : _ ∧ k_ ≠ gb480))) (fun _ hk => hk.2) (.slice Ao120 t472.length co120)) (fun _ hk => hk.2) (.int .i64 t475)) (fun _ hk => hk.2) (.int .i64 t476)) (fun _ hk => hk.2) (.int .i64 t477)) (fun _ hk => hk.2) (.bool t478)) (fun _ h_ => h_.1)))); (case side2 => exact (Kd.V_reads' HO_458000.out).2.1); (case side3 => refine (Kd.V_reads' (e := 9) (base := w.heap.size) (ok := fun k_ => ((some k_ ≠ (.slice Ao43 t442.length co43 : Value).ownBlock ∧ (k_ ≠ gb433 ∧ (k_ ≠ gb434 ∧ (k_ ≠ gb457 ∧ (k_ ≠ gb466 ∧ k_ ≠ gb467))))) ∧ k_ ≠ gb480)) (n := t472.length) (c := co120) ?_).2.2; exact (by (with_reducible repeat (first | apply Kd.V_alloc | apply Kd.V_drewN | apply Kd.V_drew)); exact (Kd.V_mono (Kd.V_far (p := ⟨gb480, 4, none⟩) (Kd.V_far (p := ⟨gb480, 3, none⟩) (Kd.V_far (p := ⟨gb480, 2, none⟩) (Kd.V_far (p := ⟨gb480, 1, none⟩) (Kd.V_far (p := ⟨gb480, 0, none⟩) (Kd.V_mono HO474.out (fun k_ hk => (⟨hk, hk.2⟩ : _ ∧ k_ ≠ gb480))) (fun _ hk => hk.2) (.slice Ao120 t472.length co120)) (fun _ hk => hk.2) (.int .i64 t475)) (fun _ hk => hk.2) (.int .i64 t476)) (fun _ hk => hk.2) (.int .i64 t477)) (fun _ hk => hk.2) (.bool t478)) (fun _ h_ => h_.1)))); (case side4 => exact (Kd.V_reads' HO474.out).2.1); rintro e w130 ⟨rfl, hb⟩; have n0_ := aA (Kd.R_below (by (with_reducible repeat (first | apply Kd.R_alloc | apply Kd.R_drewN | apply Kd.R_drew)); exact (Kd.R_mono (rF 4 (rF 3 (rF 2 (rF 1 (rF 0 (Kd.R_types HO_3.out BK480.out (by decide))))))) (fun _ h_ => h_.1))) hb); have n1_ := aA (Kd.R_below (by (with_reducible repeat (first | apply Kd.R_alloc | apply Kd.R_drewN | apply Kd.R_drew)); exact (Kd.R_mono (rF 4 (rF 3 (rF 2 (rF 1 (rF 0 (Kd.R_types HO_434000.out BK480.out (by decide))))))) (fun _ h_ => h_.1))) hb); have n2_ := aA (Kd.V_below (by (with_reducible repeat (first | apply Kd.V_alloc | apply Kd.V_drewN | apply Kd.V_drew)); exact (Kd.V_mono (Kd.V_far (p := ⟨gb480, 4, none⟩) (Kd.V_far (p := ⟨gb480, 3, none⟩) (Kd.V_far (p := ⟨gb480, 2, none⟩) (Kd.V_far (p := ⟨gb480, 1, none⟩) (Kd.V_far (p := ⟨gb480, 0, none⟩) (Kd.V_mono HO_458000.out (fun k_ hk => (⟨hk, hk.2⟩ : _ ∧ k_ ≠ gb480))) (fun _ hk => hk.2) (.slice Ao120 t472.length co120)) (fun _ hk => hk.2) (.int .i64 t475)) (fun _ hk => hk.2) (.int .i64 t476)) (fun _ hk => hk.2) (.int .i64 t477)) (fun _ hk => hk.2) (.bool t478)) (fun _ h_ => h_.1))) hb); have n3_ := aA (Kd.V_below (by (with_reducible repeat (first | apply Kd.V_alloc | apply Kd.V_drewN | apply Kd.V_drew)); exact (Kd.V_mono (Kd.V_far (p := ⟨gb480, 4, none⟩) (Kd.V_far (p := ⟨gb480, 3, none⟩) (Kd.V_far (p := ⟨gb480, 2, none⟩) (Kd.V_far (p := ⟨gb480, 1, none⟩) (Kd.V_far (p := ⟨gb480, 0, none⟩) (Kd.V_mono HO_467000.out (fun k_ hk => (⟨hk, hk.2⟩ : _ ∧ k_ ≠ gb480))) (fun _ hk => hk.2) (.slice Ao120 t472.length co120)) (fun _ hk => hk.2) (.int .i64 t475)) (fun _ hk => hk.2) (.int .i64 t476)) (fun _ hk => hk.2) (.int .i64 t477)) (fun _ hk => hk.2) (.bool t478)) (fun _ h_ => h_.1))) hb); have n4_ := aA (Kd.V_below (by (with_reducible repeat (first | apply Kd.V_alloc | apply Kd.V_drewN | apply Kd.V_drew)); exact (Kd.V_mono (Kd.V_far (p := ⟨gb480, 4, none⟩) (Kd.V_far (p := ⟨gb480, 3, none⟩) (Kd.V_far (p := ⟨gb480, 2, none⟩) (Kd.V_far (p := ⟨gb480, 1, none⟩) (Kd.V_far (p := ⟨gb480, 0, none⟩) (Kd.V_mono HO474.out (fun k_ hk => (⟨hk, hk.2⟩ : _ ∧ k_ ≠ gb480))) (fun _ hk => hk.2) (.slice Ao120 t472.length co120)) (fun _ hk => hk.2) (.int .i64 t475)) (fun _ hk => hk.2) (.int .i64 t476)) (fun _ hk => hk.2) (.int .i64 t477)) (fun _ hk => hk.2) (.bool t478)) (fun _ h_ => h_.1))) hb); have n5_ := aA (blk_below (g := gb433) (o := .cells #[.slice Ao25 t435.length co25, .int .i64 t438, .int .i64 t439, .int .i64 t440, .bool t441] 26 (0, 0)) (by (with_reducible repeat (first | refine blk_drewN ?_ _ | refine blk_drew ?_ | refine blk_alloc ?_ _)); refine blk_far ?_ NB433_480.out _; (with_reducible repeat (first | refine blk_drewN ?_ _ | refine blk_drew ?_ | refine blk_alloc ?_ _)); refine blk_far ?_ NB433_480.out _; (with_reducible repeat (first | refine blk_drewN ?_ _ | refine blk_drew ?_ | refine blk_alloc ?_ _)); refine blk_far ?_ NB433_480.out _; (with_reducible repeat (first | refine blk_drewN ?_ _ | refine blk_drew ?_ | refine blk_alloc ?_ _)); refine blk_far ?_ NB433_480.out _; (with_reducible repeat (first | refine blk_drewN ?_ _ | refine blk_drew ?_ | refine blk_alloc ?_ _)); refine blk_far ?_ NB433_480.out _; (with_reducible repeat (first | refine blk_drewN ?_ _ | refine blk_drew ?_ | refine blk_alloc ?_ _)); exact BK433.out) hb); have n6_ := aA (blk_below (g := gb434) (o := .cells #[.int .i64 a2_0, .int .i64 a2_1] 45 (0, 0)) (by (with_reducible repeat (first | refine blk_drewN ?_ _ | refine blk_drew ?_ | refine blk_alloc ?_ _)); refine blk_far ?_ NB434_480.out _; (with_reducible repeat (first | refine blk_drewN ?_ _ | refine blk_drew ?_ | refine blk_alloc ?_ _)); refine blk_far ?_ NB434_480.out _; (with_reducible repeat (first | refine blk_drewN ?_ _ | refine blk_drew ?_ | refine blk_alloc ?_ _)); refine blk_far ?_ NB434_480.out _; (with_reducible repeat (first | refine blk_drewN ?_ _ | refine blk_drew ?_ | refine blk_alloc ?_ _)); refine blk_far ?_ NB434_480.out _; (with_reducible repeat (first | refine blk_drewN ?_ _ | refine blk_drew ?_ | refine blk_alloc ?_ _)); refine blk_far ?_ NB434_480.out _; (with_reducible repeat (first | refine blk_drewN ?_ _ | refine blk_drew ?_ | refine blk_alloc ?_ _)); exact BK434.out) hb); have n7_ := aA (blk_below (g := gb457) (o := .cells #[.slice Ao37 t449.length co37, .int .i64 t452, .int .i64 t453, .int .i64 t454, .bool t455] 26 (0, 0)) (by (with_reducible repeat (first | refine blk_drewN ?_ _ | refine blk_drew ?_ | refine blk_alloc ?_ _)); refine blk_far ?_ NB457_480.out _; (with_reducible repeat (first | refine blk_drewN ?_ _ | refine blk_drew ?_ | refine blk_alloc ?_ _)); refine blk_far ?_ NB457_480.out _; (with_reducible repeat (first | refine blk_drewN ?_ _ | refine blk_drew ?_ | refine blk_alloc ?_ _)); refine blk_far ?_ NB457_480.out _; (with_reducible repeat (first | refine blk_drewN ?_ _ | refine blk_drew ?_ | refine blk_alloc ?_ _)); refine blk_far ?_ NB457_480.out _; (with_reducible repeat (first | refine blk_drewN ?_ _ | refine blk_drew ?_ | refine blk_alloc ?_ _)); refine blk_far ?_ NB457_480.out _; (with_reducible repeat (first | refine blk_drewN ?_ _ | refine blk_drew ?_ | refine blk_alloc ?_ _)); exact BK457.out) hb); have n8_ := aA (blk_below (g := gb466) (o := .cells #[.slice Ao46 t458.length co46, .int .i64 t461, .int .i64 t462, .int .i64 t463, .bool t464] 26 (0, 0)) (by (with_reducible repeat (first | refine blk_drewN ?_ _ | refine blk_drew ?_ | refine blk_alloc ?_ _)); refine blk_far ?_ NB466_480.out _; (with_reducible repeat (first | refine blk_drewN ?_ _ | refine blk_drew ?_ | refine blk_alloc ?_ _)); refine blk_far ?_ NB466_480.out _; (with_reducible repeat (first | refine blk_drewN ?_ _ | refine blk_drew ?_ | refine blk_alloc ?_ _)); refine blk_far ?_ NB466_480.out _; (with_reducible repeat (first | refine blk_drewN ?_ _ | refine blk_drew ?_ | refine blk_alloc ?_ _)); refine blk_far ?_ NB466_480.out _; (with_reducible repeat (first | refine blk_drewN ?_ _ | refine blk_drew ?_ | refine blk_alloc ?_ _)); refine blk_far ?_ NB466_480.out _; (with_reducible repeat (first | refine blk_drewN ?_ _ | refine blk_drew ?_ | refine blk_alloc ?_ _)); exact BK466.out) hb); have n9_ := aA (blk_below (g := gb467) (o := .cells #[.slice none 0 0, .int .i64 0, .int .i64 0, .int .i64 0, .bool false] 26 (0, 0)) (by (with_reducible repeat (first | refine blk_drewN ?_ _ | refine blk_drew ?_ | refine blk_alloc ?_ _)); refine blk_far ?_ NB467_480.out _; (with_reducible repeat (first | refine blk_drewN ?_ _ | refine blk_drew ?_ | refine blk_alloc ?_ _)); refine blk_far ?_ NB467_480.out _; (with_reducible repeat (first | refine blk_drewN ?_ _ | refine blk_drew ?_ | refine blk_alloc ?_ _)); refine blk_far ?_ NB467_480.out _; (with_reducible repeat (first | refine blk_drewN ?_ _ | refine blk_drew ?_ | refine blk_alloc ?_ _)); refine blk_far ?_ NB467_480.out _; (with_reducible repeat (first | refine blk_drewN ?_ _ | refine blk_drew ?_ | refine blk_alloc ?_ _)); refine blk_far ?_ NB467_480.out _; (with_reducible repeat (first | refine blk_drewN ?_ _ | refine blk_drew ?_ | refine blk_alloc ?_ _)); exact BK467.out) hb); have n10_ := aA (blk_below (g := gb480) (o := .cells #[.slice Ao120 t472.length co120, .int .i64 t475, .int .i64 t476, .int .i64 t477, .bool t478] 26 (0, 0)) (by (with_reducible repeat (first | refine blk_drewN ?_ _ | refine blk_drew ?_ | refine blk_alloc ?_ _)); have h_ := BK480.out; exact pK 4 (pK 3 (pK 2 (pK 1 (pK 0 (h_)))))) hb); have n11_ := aA (below_step (by repeat (first | (with_reducible first | exact HB.out | apply below_alloc | apply pw_below_drewN | apply below_drew1 | refine below_set ?_ GE433.out | refine below_set ?_ GE434.out | refine below_set ?_ GE457.out | refine below_set ?_ GE466.out | refine below_set ?_ GE467.out | refine below_set ?_ GE480.out) | exact HB.out)) hb); clear HO_3 HO_434000 HO_458000 HO_467000 HO474 BK433 BK434 BK457 BK466 BK467 BK480 HB; have HO_3 := n0_; have HO_434000 := n1_; have HO_458000 := n2_; have HO_467000 := n3_; have HO474 := n4_; have BK433 := n5_; have BK434 := n6_; have BK457 := n7_; have BK466 := n8_; have BK467 := n9_; have BK480 := n10_; have HB := n11_; clear n0_ n1_ n2_ n3_ n4_ n5_ n6_ n7_ n8_ n9_ n10_ n11_; (try clear hb); (try clear hb2); (try clear hk); (try clear hi)))
            go_meet
            case rel => exact ⟨_, H', ⟨by have := HJ17.out; first | omega | exact Nat.le_refl _⟩, ⟨by (with_reducible repeat (first | apply Kd.R_alloc | apply Kd.R_drewN | apply Kd.R_drew)); exact HO_3.out⟩, ⟨by (with_reducible repeat (first | apply Kd.R_alloc | apply Kd.R_drewN | apply Kd.R_drew)); exact HO_434000.out⟩, ⟨by (with_reducible repeat (first | apply Kd.V_alloc | apply Kd.V_drewN | apply Kd.V_drew)); exact Kd.V_mono HO_458000.out (fun _ hk => ⟨hk.1.1, ⟨hk.1.2.1, ⟨hk.1.2.2.1, ⟨hk.1.2.2.2.1, ⟨hk.1.2.2.2.2.1, hk.1.2.2.2.2.2⟩⟩⟩⟩⟩)⟩, ⟨by (with_reducible repeat (first | apply Kd.V_alloc | apply Kd.V_drewN | apply Kd.V_drew)); exact Kd.V_mono HO_467000.out (fun _ hk => ⟨hk.1.1, ⟨hk.1.2.1, ⟨hk.1.2.2.1, ⟨hk.1.2.2.2.1, ⟨hk.1.2.2.2.2.1, hk.1.2.2.2.2.2⟩⟩⟩⟩⟩)⟩, ⟨by (with_reducible repeat (first | refine blk_drewN ?_ _ | refine blk_drew ?_ | refine blk_alloc ?_ _)); exact BK433.out⟩, ⟨by (with_reducible repeat (first | refine blk_drewN ?_ _ | refine blk_drew ?_ | refine blk_alloc ?_ _)); exact BK434.out⟩, ⟨by (with_reducible repeat (first | refine blk_drewN ?_ _ | refine blk_drew ?_ | refine blk_alloc ?_ _)); exact BK457.out⟩, ⟨by (with_reducible repeat (first | refine blk_drewN ?_ _ | refine blk_drew ?_ | refine blk_alloc ?_ _)); exact BK466.out⟩, ⟨by (with_reducible repeat (first | refine blk_drewN ?_ _ | refine blk_drew ?_ | refine blk_alloc ?_ _)); exact BK467.out⟩, ⟨by repeat (first | (with_reducible first | exact HB.out | apply below_alloc | apply pw_below_drewN | apply below_drew1 | refine below_set ?_ GE433.out | refine below_set ?_ GE434.out | refine below_set ?_ GE457.out | refine below_set ?_ GE466.out | refine below_set ?_ GE467.out | refine below_set ?_ GE480.out) | exact HB.out)⟩⟩
           ·replace c108 := Bool.eq_false_iff.mpr c108
            subst c108
            have H1 : (some false) = some r := by rw [if_neg (show ¬ (false = true) by decide)] at H; exact H
            clear H
            have H := H1
            clear H1
            exact absurd (Option.some.inj H) (by rw [hrt_]; decide)
          ·rw [if_neg c106] at H
           have c106b0 : (t456 == t479) = false := beq_eq_false_iff_ne.mpr c106
           have c106b1 : (t456 != t479) = true := bne_iff_ne.mpr c106
           exact absurd (Option.some.inj H) (by rw [hrt_]; decide)
         ·rw [if_neg c104] at H
          have c104b0 : (x16_17 == 0) = false := beq_eq_false_iff_ne.mpr c104
          have c104b1 : (x16_17 != 0) = true := bne_iff_ne.mpr c104
          (first | rw [c104b0] | (simp only [i64_w, i32_w]; rw [c104b0]) | skip)
          by_cases c171 : t456 = x16_17
          ·rw [if_pos c171] at H
           have c171b0 : (t456 == x16_17) = true := beq_iff_eq.mpr c171
           have c171b1 : (t456 != x16_17) = false := bne_eq_false_iff_eq.mpr c171
           clear c171
           replace H := Option.bind_eq_some_iff.mp H
           obtain ⟨t482, A1720, H⟩ := H
           have A172 := aA A1720
           clear A1720
           by_cases c173 : t482 = true
           ·subst c173
            have H1 : (foghornlaw04_StoreWrites.j2 kj17 t442 y445 t465 t435 t438 t439 t440 t441 t458 t461 t462 t463 t464 0 0 0 false) = some r := by rw [if_pos rfl] at H; exact H
            clear H
            have H := H1
            clear H1
            have H' := aA H
            clear H
            have hnb174 := NB457_433.out
            have hnc174 := NB433_457.out
            have hnb175 := NB457_434.out
            have hnc175 := NB434_457.out
            have hnb176 := NB457_466.out
            have hnc176 := NB466_457.out
            have hnb177 := NB457_467.out
            have hnc177 := NB467_457.out
            obtain ⟨hcz178_0, hcz178_1, hcz178_2, hcz178_3, hcz178_4⟩ := bC5 BK457.out
            obtain ⟨hfz178_0, hfz178_1, hfz178_2, hfz178_3, hfz178_4⟩ := bF5 BK457.out
            have hnb179 := NB467_433.out
            have hnc179 := NB433_467.out
            have hnb180 := NB467_434.out
            have hnc180 := NB434_467.out
            have hnb181 := NB467_466.out
            have hnc181 := NB466_467.out
            obtain ⟨hcz182_0, hcz182_1, hcz182_2, hcz182_3, hcz182_4⟩ := bC5 BK467.out
            obtain ⟨hfz182_0, hfz182_1, hfz182_2, hfz182_3, hfz182_4⟩ := bF5 BK467.out
            go_wp2_with (first | (go_at_call 16; (refine (foghornref04_Same.calls kj17 _ _ t449 t452 t453 t454 t455 _ _ ([] : List ByteArray) 0 0 0 false true _ ?side1 ?side2 ?side3 ?side4 A172.out).mono ?_); (case side1 => exact mC ((Kd.V_reads' HO_458000.out).2.2)); (case side2 => exact (Kd.V_reads' HO_458000.out).2.1); (case side3 => exact Kd.C_nil _ _); (case side4 => exact Nat.le_refl _); rintro e w183 ⟨rfl, hb⟩; have n0_ := aA (Kd.R_below (mR HO_3.out) hb); have n1_ := aA (Kd.R_below (mR HO_434000.out) hb); have n2_ := aA (Kd.V_below (by (with_reducible repeat (first | apply Kd.V_alloc | apply Kd.V_drewN | apply Kd.V_drew)); exact HO_458000.out) hb); have n3_ := aA (Kd.V_below (by (with_reducible repeat (first | apply Kd.V_alloc | apply Kd.V_drewN | apply Kd.V_drew)); exact HO_467000.out) hb); have n4_ := aA (bB BK433.out hb); have n5_ := aA (bB BK434.out hb); have n6_ := aA (bB BK457.out hb); have n7_ := aA (bB BK466.out hb); have n8_ := aA (bB BK467.out hb); have n9_ := aA (below_step (by repeat (first | (with_reducible first | exact HB.out | apply below_alloc | apply pw_below_drewN | apply below_drew1 | refine below_set ?_ GE433.out | refine below_set ?_ GE434.out | refine below_set ?_ GE457.out | refine below_set ?_ GE466.out | refine below_set ?_ GE467.out) | exact HB.out)) hb); clear HO_3 HO_434000 HO_458000 HO_467000 BK433 BK434 BK457 BK466 BK467 HB; have HO_3 := n0_; have HO_434000 := n1_; have HO_458000 := n2_; have HO_467000 := n3_; have BK433 := n4_; have BK434 := n5_; have BK457 := n6_; have BK466 := n7_; have BK467 := n8_; have HB := n9_; clear n0_ n1_ n2_ n3_ n4_ n5_ n6_ n7_ n8_ n9_; (try clear hb); (try clear hb2); (try clear hk); (try clear hi)))
            go_meet
            case rel => exact ⟨_, H', ⟨by have := HJ17.out; first | omega | exact Nat.le_refl _⟩, ⟨by (with_reducible repeat (first | apply Kd.R_alloc | apply Kd.R_drewN | apply Kd.R_drew)); exact HO_3.out⟩, ⟨by (with_reducible repeat (first | apply Kd.R_alloc | apply Kd.R_drewN | apply Kd.R_drew)); exact HO_434000.out⟩, ⟨by (with_reducible repeat (first | apply Kd.V_alloc | apply Kd.V_drewN | apply Kd.V_drew)); exact HO_458000.out⟩, ⟨by (with_reducible repeat (first | apply Kd.V_alloc | apply Kd.V_drewN | apply Kd.V_drew)); exact HO_467000.out⟩, ⟨by (with_reducible repeat (first | refine blk_drewN ?_ _ | refine blk_drew ?_ | refine blk_alloc ?_ _)); exact BK433.out⟩, ⟨by (with_reducible repeat (first | refine blk_drewN ?_ _ | refine blk_drew ?_ | refine blk_alloc ?_ _)); exact BK434.out⟩, ⟨by (with_reducible repeat (first | refine blk_drewN ?_ _ | refine blk_drew ?_ | refine blk_alloc ?_ _)); exact BK457.out⟩, ⟨by (with_reducible repeat (first | refine blk_drewN ?_ _ | refine blk_drew ?_ | refine blk_alloc ?_ _)); exact BK466.out⟩, ⟨by (with_reducible repeat (first | refine blk_drewN ?_ _ | refine blk_drew ?_ | refine blk_alloc ?_ _)); exact BK467.out⟩, ⟨by repeat (first | (with_reducible first | exact HB.out | apply below_alloc | apply pw_below_drewN | apply below_drew1 | refine below_set ?_ GE433.out | refine below_set ?_ GE434.out | refine below_set ?_ GE457.out | refine below_set ?_ GE466.out | refine below_set ?_ GE467.out) | exact HB.out)⟩⟩
           ·replace c173 := Bool.eq_false_iff.mpr c173
            subst c173
            have H1 : (some false) = some r := by rw [if_neg (show ¬ (false = true) by decide)] at H; exact H
            clear H
            have H := H1
            clear H1
            exact absurd (Option.some.inj H) (by rw [hrt_]; decide)
          ·rw [if_neg c171] at H
           have c171b0 : (t456 == x16_17) = false := beq_eq_false_iff_ne.mpr c171
           have c171b1 : (t456 != x16_17) = true := bne_iff_ne.mpr c171
           try exact absurd (Option.some.inj H) (by rw [hrt_]; decide)
           all_goals
            obtain rfl := Option.some.inj H
            go_wp2
            go_ret
            exact ⟨by first | rfl | (simp [errW_none, errW_some] <;> rfl) | (simp only [← hji7, ← hji11]; first | rfl | (simp [errW_none, errW_some] <;> rfl)) | (simp [*, errW_none, errW_some] <;> rfl), by repeat (first | (with_reducible first | exact HB.out | apply below_alloc | apply pw_below_drewN | apply below_drew1 | refine below_set ?_ GE433.out | refine below_set ?_ GE434.out | refine below_set ?_ GE457.out | refine below_set ?_ GE466.out | refine below_set ?_ GE467.out) | exact HB.out)⟩
        case rest =>
         clear HC103
         try clear c1
         try clear c2
         try clear p2
         try clear q2
         try clear c3
         try clear c4
         try clear c5
         try clear c6
         try clear c7
         try clear c8
         try clear c8b0
         try clear c8b1
         try clear c9
         try clear c9b0
         try clear c9b1
         try clear c10
         try clear c11
         try clear c12
         try clear c12b0
         try clear c12b1
         try clear c13
         try clear c13b0
         try clear c13b1
         try clear c14
         try clear c15
         try clear c16
         try clear c17
         try clear c18
         try clear c19
         try clear c21
         try clear c22
         try clear q22
         try clear c24
         try clear c25
         try clear c32
         try clear c38
         try clear c39
         try clear c47
         try clear c48
         try clear c49
         try clear c52
         try clear c53
         try clear c54
         try clear c55
         try clear c60
         try clear c62
         try clear c63
         try clear c64
         try clear c65
         try clear c68
         try clear c69
         try clear c70
         try clear c73
         try clear c74
         try clear c75
         try clear c76
         try clear c79
         try clear c80
         try clear c80b0
         try clear c80b1
         try clear c81
         try clear c82
         try clear c83
         try clear c84
         try clear c85
         try clear c88
         try clear c88b0
         try clear c88b1
         try clear c89
         try clear c90
         try clear c91
         try clear c92
         try clear c96
         try clear c97
         try clear c98
         try clear c99
         try clear c104
         try clear c104b0
         try clear c104b1
         try clear c106
         try clear c106b0
         try clear c106b1
         try clear c108
         try clear c109
         try clear c110
         try clear c111
         try clear c112
         try clear c114
         try clear c115
         try clear c116
         try clear c121
         try clear c122
         try clear c123
         try clear c124
         try clear c125
         try clear c127
         try clear c128
         try clear c131
         try clear c132
         try clear c133
         try clear c134
         try clear c136
         try clear c137
         try clear c138
         try clear c143
         try clear c144
         try clear c145
         try clear c146
         try clear c147
         try clear c149
         try clear c150
         try clear c153
         try clear c154
         try clear c155
         try clear c156
         try clear c158
         try clear c159
         try clear c160
         try clear c165
         try clear c166
         try clear c167
         try clear c168
         try clear c169
         try clear c171
         try clear c171b0
         try clear c171b1
         try clear c173
         try clear c174
         try clear c175
         try clear c176
         try clear c177
         try clear c179
         try clear c180
         try clear c181
         try clear c184
         try clear c185
         try clear c186
         try clear c187
         try clear c189
         try clear c190
         try clear c191
         try clear hcz100_0 hcz100_1 hcz100_2 hcz100_3 hcz100_4
         try clear hcz113_0 hcz113_1 hcz113_2 hcz113_3 hcz113_4
         try clear hcz117_0 hcz117_1
         try clear hcz126_0 hcz126_1 hcz126_2 hcz126_3 hcz126_4
         try clear hcz129_0 hcz129_1 hcz129_2 hcz129_3 hcz129_4
         try clear hcz135_0 hcz135_1 hcz135_2 hcz135_3 hcz135_4
         try clear hcz139_0 hcz139_1
         try clear hcz148_0 hcz148_1 hcz148_2 hcz148_3 hcz148_4
         try clear hcz151_0 hcz151_1 hcz151_2 hcz151_3 hcz151_4
         try clear hcz157_0 hcz157_1 hcz157_2 hcz157_3 hcz157_4
         try clear hcz161_0 hcz161_1
         try clear hcz170_0 hcz170_1 hcz170_2 hcz170_3 hcz170_4
         try clear hcz178_0 hcz178_1 hcz178_2 hcz178_3 hcz178_4
         try clear hcz182_0 hcz182_1 hcz182_2 hcz182_3 hcz182_4
         try clear hcz188_0 hcz188_1 hcz188_2 hcz188_3 hcz188_4
         try clear hcz192_0 hcz192_1 hcz192_2 hcz192_3 hcz192_4
         try clear hcz33_0 hcz33_1 hcz33_2 hcz33_3 hcz33_4
         try clear hcz34_0 hcz34_1
         try clear hcz40_0 hcz40_1 hcz40_2 hcz40_3 hcz40_4
         try clear hcz42_0 hcz42_1 hcz42_2 hcz42_3 hcz42_4
         try clear hcz50_0 hcz50_1 hcz50_2 hcz50_3 hcz50_4
         try clear hcz56_0 hcz56_1 hcz56_2 hcz56_3 hcz56_4
         try clear hcz66_0 hcz66_1 hcz66_2 hcz66_3 hcz66_4
         try clear hcz71_0 hcz71_1
         try clear hcz77_0 hcz77_1 hcz77_2 hcz77_3 hcz77_4
         try clear hcz86_0 hcz86_1 hcz86_2 hcz86_3 hcz86_4
         try clear hcz93_0 hcz93_1 hcz93_2 hcz93_3 hcz93_4
         try clear hfz100_0 hfz100_1 hfz100_2 hfz100_3 hfz100_4
         try clear hfz113_0 hfz113_1 hfz113_2 hfz113_3 hfz113_4
         try clear hfz117_0 hfz117_1
         try clear hfz126_0 hfz126_1 hfz126_2 hfz126_3 hfz126_4
         try clear hfz129_0 hfz129_1 hfz129_2 hfz129_3 hfz129_4
         try clear hfz135_0 hfz135_1 hfz135_2 hfz135_3 hfz135_4
         try clear hfz139_0 hfz139_1
         try clear hfz148_0 hfz148_1 hfz148_2 hfz148_3 hfz148_4
         try clear hfz151_0 hfz151_1 hfz151_2 hfz151_3 hfz151_4
         try clear hfz157_0 hfz157_1 hfz157_2 hfz157_3 hfz157_4
         try clear hfz161_0 hfz161_1
         try clear hfz170_0 hfz170_1 hfz170_2 hfz170_3 hfz170_4
         try clear hfz178_0 hfz178_1 hfz178_2 hfz178_3 hfz178_4
         try clear hfz182_0 hfz182_1 hfz182_2 hfz182_3 hfz182_4
         try clear hfz188_0 hfz188_1 hfz188_2 hfz188_3 hfz188_4
         try clear hfz192_0 hfz192_1 hfz192_2 hfz192_3 hfz192_4
         try clear hfz33_0 hfz33_1 hfz33_2 hfz33_3 hfz33_4
         try clear hfz34_0 hfz34_1
         try clear hfz40_0 hfz40_1 hfz40_2 hfz40_3 hfz40_4
         try clear hfz42_0 hfz42_1 hfz42_2 hfz42_3 hfz42_4
         try clear hfz50_0 hfz50_1 hfz50_2 hfz50_3 hfz50_4
         try clear hfz56_0 hfz56_1 hfz56_2 hfz56_3 hfz56_4
         try clear hfz66_0 hfz66_1 hfz66_2 hfz66_3 hfz66_4
         try clear hfz71_0 hfz71_1
         try clear hfz77_0 hfz77_1 hfz77_2 hfz77_3 hfz77_4
         try clear hfz86_0 hfz86_1 hfz86_2 hfz86_3 hfz86_4
         try clear hfz93_0 hfz93_1 hfz93_2 hfz93_3 hfz93_4
         try clear p2
         try clear q2
         try clear q22
         obtain ⟨kq, HA, HJ102, HO_3, HO_434000, HO_458000, HO_467000, BK433, BK434, BK457, BK466, BK467, HB⟩ := hcut
         cases kq with
         | zero => exact absurd HA.out (by simp [foghornlaw04_StoreWrites.j2])
         | succ kj102 =>
          have H := HA.out
          clear HA
          simp only [foghornlaw04_StoreWrites.j2] at H
          have HC194 := aA H
          clear H
          go_upto_block 1 with (fail)
          go_cut [16] (fun v16 wc => ∃ (kq : Nat) (x16_193 : Int), v16 = .int .i64 x16_193 ∧ Aside0 (foghornlaw04_StoreWrites.j4 kq t442 y445 t465 x16_193 t435 t438 t439 t440 t441 t458 t461 t462 t463 t464 0 0 0 false = some r) ∧ Aside0 (kq ≤ kj102) ∧ Aside0 (Kd.R Kd.string 9 wc w.heap.size (fun k_ => some k_ ≠ ((.slice Ao25 t435.length co25) : Value).ownBlock) (.slice Ao43 t442.length co43) t442) ∧ Aside0 (Kd.R Kd.string 9 wc w.heap.size (fun k_ => some k_ ≠ ((.slice Ao43 t442.length co43) : Value).ownBlock) (.slice Ao25 t435.length co25) t435) ∧ Aside0 (Kd.V Kd.string 9 wc w.heap.size (fun k_ => some k_ ≠ ((.slice Ao43 t442.length co43) : Value).ownBlock ∧ k_ ≠ gb433 ∧ k_ ≠ gb434 ∧ k_ ≠ gb457 ∧ k_ ≠ gb466 ∧ k_ ≠ gb467) (.slice Ao37 t449.length co37) t449) ∧ Aside0 (Kd.V Kd.string 9 wc w.heap.size (fun k_ => some k_ ≠ ((.slice Ao43 t442.length co43) : Value).ownBlock ∧ k_ ≠ gb433 ∧ k_ ≠ gb434 ∧ k_ ≠ gb457 ∧ k_ ≠ gb466 ∧ k_ ≠ gb467) (.slice Ao46 t458.length co46) t458) ∧ Aside0 (wc.heap[gb433]? = some (.cells #[(.slice Ao25 t435.length co25), .int .i64 t438, .int .i64 t439, .int .i64 t440, .bool t441] 26 (0, 0))) ∧ Aside0 (wc.heap[gb434]? = some (.cells #[.int .i64 a2_0, .int .i64 a2_1] 45 (0, 0))) ∧ Aside0 (wc.heap[gb457]? = some (.cells #[(.slice Ao37 t449.length co37), .int .i64 t452, .int .i64 t453, .int .i64 t454, .bool t455] 26 (0, 0))) ∧ Aside0 (wc.heap[gb466]? = some (.cells #[(.slice Ao46 t458.length co46), .int .i64 t461, .int .i64 t462, .int .i64 t463, .bool t464] 26 (0, 0))) ∧ Aside0 (wc.heap[gb467]? = some (.cells #[(.slice none 0 0), .int .i64 0, .int .i64 0, .int .i64 0, .bool false] 26 (0, 0))) ∧ Aside0 (Below w.heap.size w wc))
          case first =>
           have H := HC194.out
           clear HC194
           have HC195 := aA H
           clear H
           go_upto_region 23 with (fail)
           go_cut [102] (fun v102 wc => ∃ (kq : Nat) (x102_194 : Bool), v102 = .bool x102_194 ∧ Aside0 (foghornlaw04_StoreWrites.j3 kq t442 y445 t465 0 x102_194 t435 t438 t439 t440 t441 t458 t461 t462 t463 t464 0 0 0 false = some r) ∧ Aside0 (kq ≤ kj102) ∧ Aside0 (Kd.R Kd.string 9 wc w.heap.size (fun k_ => some k_ ≠ ((.slice Ao25 t435.length co25) : Value).ownBlock) (.slice Ao43 t442.length co43) t442) ∧ Aside0 (Kd.R Kd.string 9 wc w.heap.size (fun k_ => some k_ ≠ ((.slice Ao43 t442.length co43) : Value).ownBlock) (.slice Ao25 t435.length co25) t435) ∧ Aside0 (Kd.V Kd.string 9 wc w.heap.size (fun k_ => some k_ ≠ ((.slice Ao43 t442.length co43) : Value).ownBlock ∧ k_ ≠ gb433 ∧ k_ ≠ gb434 ∧ k_ ≠ gb457 ∧ k_ ≠ gb466 ∧ k_ ≠ gb467) (.slice Ao37 t449.length co37) t449) ∧ Aside0 (Kd.V Kd.string 9 wc w.heap.size (fun k_ => some k_ ≠ ((.slice Ao43 t442.length co43) : Value).ownBlock ∧ k_ ≠ gb433 ∧ k_ ≠ gb434 ∧ k_ ≠ gb457 ∧ k_ ≠ gb466 ∧ k_ ≠ gb467) (.slice Ao46 t458.length co46) t458) ∧ Aside0 (wc.heap[gb433]? = some (.cells #[(.slice Ao25 t435.length co25), .int .i64 t438, .int .i64 t439, .int .i64 t440, .bool t441] 26 (0, 0))) ∧ Aside0 (wc.heap[gb434]? = some (.cells #[.int .i64 a2_0, .int .i64 a2_1] 45 (0, 0))) ∧ Aside0 (wc.heap[gb457]? = some (.cells #[(.slice Ao37 t449.length co37), .int .i64 t452, .int .i64 t453, .int .i64 t454, .bool t455] 26 (0, 0))) ∧ Aside0 (wc.heap[gb466]? = some (.cells #[(.slice Ao46 t458.length co46), .int .i64 t461, .int .i64 t462, .int .i64 t463, .bool t464] 26 (0, 0))) ∧ Aside0 (wc.heap[gb467]? = some (.cells #[(.slice none 0 0), .int .i64 0, .int .i64 0, .int .i64 0, .bool false] 26 (0, 0))) ∧ Aside0 (Below w.heap.size w wc))
           case first =>
            have H := HC195.out
            clear HC195
            replace H := Option.bind_eq_some_iff.mp H
            obtain ⟨t483, A1960, H⟩ := H
            have A196 := aA A1960
            clear A1960
            by_cases c197 : t483 = true
            ·subst c197
             have H1 : ((foghornref04_Faults.f kj102 y445).bind fun t484 => (foghornlaw04_StoreWrites.j3 kj102 t442 y445 t465 0 (!t484) t435 t438 t439 t440 t441 t458 t461 t462 t463 t464 0 0 0 false)) = some r := by rw [if_pos rfl] at H; exact H
             clear H
             have H := H1
             clear H1
             replace H := Option.bind_eq_some_iff.mp H
             obtain ⟨t484, A1980, H⟩ := H
             have A198 := aA A1980
             clear A1980
             have H' := aA H
             clear H
             have hnb199 := NB433_434.out
             have hnc199 := NB434_433.out
             have hnb200 := NB433_457.out
             have hnc200 := NB457_433.out
             have hnb201 := NB433_466.out
             have hnc201 := NB466_433.out
             have hnb202 := NB433_467.out
             have hnc202 := NB467_433.out
             obtain ⟨hcz203_0, hcz203_1, hcz203_2, hcz203_3, hcz203_4⟩ := bC5 BK433.out
             obtain ⟨hfz203_0, hfz203_1, hfz203_2, hfz203_3, hfz203_4⟩ := bF5 BK433.out
             go_wp2_with (first | ((with_reducible refine gate_callee (f := 14) rfl ?_); refine goesL_ (some 104) rfl rfl Try.func14 (by kernel_rfl) rfl #[.agg #[.slice Ao25 t435.length co25, .int .i64 t438, .int .i64 t439, .int .i64 t440, .bool t441]] rfl mS ?_; (with_reducible refine (foghornref04_Right.calls kj102 _ _ t435 t438 t439 t440 t441 true _ ?side1 ?side2 A196.out).mono ?_); (case side1 => exact mC ((Kd.R_reads' HO_434000.out).2.2)); (case side2 => exact (Kd.R_reads' HO_434000.out).2.1); rintro e w204 ⟨rfl, hb⟩; refine ⟨_, rfl, ?_⟩; have n0_ := aA (Kd.R_below (mR HO_3.out) hb); have n1_ := aA (Kd.R_below (mR HO_434000.out) hb); have n2_ := aA (Kd.V_below (by (with_reducible repeat (first | apply Kd.V_alloc | apply Kd.V_drewN | apply Kd.V_drew)); exact HO_458000.out) hb); have n3_ := aA (Kd.V_below (by (with_reducible repeat (first | apply Kd.V_alloc | apply Kd.V_drewN | apply Kd.V_drew)); exact HO_467000.out) hb); have n4_ := aA (bB BK433.out hb); have n5_ := aA (bB BK434.out hb); have n6_ := aA (bB BK457.out hb); have n7_ := aA (bB BK466.out hb); have n8_ := aA (bB BK467.out hb); have n9_ := aA (below_step (by repeat (first | (with_reducible first | exact HB.out | apply below_alloc | apply pw_below_drewN | apply below_drew1 | refine below_set ?_ GE433.out | refine below_set ?_ GE434.out | refine below_set ?_ GE457.out | refine below_set ?_ GE466.out | refine below_set ?_ GE467.out) | exact HB.out)) hb); clear HO_3 HO_434000 HO_458000 HO_467000 BK433 BK434 BK457 BK466 BK467 HB; have HO_3 := n0_; have HO_434000 := n1_; have HO_458000 := n2_; have HO_467000 := n3_; have BK433 := n4_; have BK434 := n5_; have BK457 := n6_; have BK466 := n7_; have BK467 := n8_; have HB := n9_; clear n0_ n1_ n2_ n3_ n4_ n5_ n6_ n7_ n8_ n9_; (try clear hb); (try clear hb2); (try clear hk); (try clear hi)) | (go_at_call 26; (with_reducible refine (foghornref04_Faults.calls kj102 _ _ y445 t484 _ ?side1 ?side2 A198.out).mono ?_); (case side1 => exact mC ((Kd.C_below HR448.out HB.out))); (case side2 => exact HC448.out); rintro e w205 ⟨rfl, hb⟩; have n0_ := aA (Kd.R_below (mR HO_3.out) hb); have n1_ := aA (Kd.R_below (mR HO_434000.out) hb); have n2_ := aA (Kd.V_below (by (with_reducible repeat (first | apply Kd.V_alloc | apply Kd.V_drewN | apply Kd.V_drew)); exact HO_458000.out) hb); have n3_ := aA (Kd.V_below (by (with_reducible repeat (first | apply Kd.V_alloc | apply Kd.V_drewN | apply Kd.V_drew)); exact HO_467000.out) hb); have n4_ := aA (bB BK433.out hb); have n5_ := aA (bB BK434.out hb); have n6_ := aA (bB BK457.out hb); have n7_ := aA (bB BK466.out hb); have n8_ := aA (bB BK467.out hb); have n9_ := aA (below_step (by repeat (first | (with_reducible first | exact HB.out | apply below_alloc | apply pw_below_drewN | apply below_drew1 | refine below_set ?_ GE433.out | refine below_set ?_ GE434.out | refine below_set ?_ GE457.out | refine below_set ?_ GE466.out | refine below_set ?_ GE467.out) | exact HB.out)) hb); clear HO_3 HO_434000 HO_458000 HO_467000 BK433 BK434 BK457 BK466 BK467 HB; have HO_3 := n0_; have HO_434000 := n1_; have HO_458000 := n2_; have HO_467000 := n3_; have BK433 := n4_; have BK434 := n5_; have BK457 := n6_; have BK466 := n7_; have BK467 := n8_; have HB := n9_; clear n0_ n1_ n2_ n3_ n4_ n5_ n6_ n7_ n8_ n9_; (try clear hb); (try clear hb2); (try clear hk); (try clear hi)))
             go_meet
             case rel => exact ⟨_, (!t484), (by first | rfl | (simp; done) | (simp [*]; done)), H', ⟨by have := HJ17.out; have := HJ102.out; first | omega | exact Nat.le_refl _⟩, ⟨by (with_reducible repeat (first | apply Kd.R_alloc | apply Kd.R_drewN | apply Kd.R_drew)); exact HO_3.out⟩, ⟨by (with_reducible repeat (first | apply Kd.R_alloc | apply Kd.R_drewN | apply Kd.R_drew)); exact HO_434000.out⟩, ⟨by (with_reducible repeat (first | apply Kd.V_alloc | apply Kd.V_drewN | apply Kd.V_drew)); exact HO_458000.out⟩, ⟨by (with_reducible repeat (first | apply Kd.V_alloc | apply Kd.V_drewN | apply Kd.V_drew)); exact HO_467000.out⟩, ⟨by (with_reducible repeat (first | refine blk_drewN ?_ _ | refine blk_drew ?_ | refine blk_alloc ?_ _)); exact BK433.out⟩, ⟨by (with_reducible repeat (first | refine blk_drewN ?_ _ | refine blk_drew ?_ | refine blk_alloc ?_ _)); exact BK434.out⟩, ⟨by (with_reducible repeat (first | refine blk_drewN ?_ _ | refine blk_drew ?_ | refine blk_alloc ?_ _)); exact BK457.out⟩, ⟨by (with_reducible repeat (first | refine blk_drewN ?_ _ | refine blk_drew ?_ | refine blk_alloc ?_ _)); exact BK466.out⟩, ⟨by (with_reducible repeat (first | refine blk_drewN ?_ _ | refine blk_drew ?_ | refine blk_alloc ?_ _)); exact BK467.out⟩, ⟨by repeat (first | (with_reducible first | exact HB.out | apply below_alloc | apply pw_below_drewN | apply below_drew1 | refine below_set ?_ GE433.out | refine below_set ?_ GE434.out | refine below_set ?_ GE457.out | refine below_set ?_ GE466.out | refine below_set ?_ GE467.out) | exact HB.out)⟩⟩
            ·replace c197 := Bool.eq_false_iff.mpr c197
             subst c197
             have H1 : (foghornlaw04_StoreWrites.j3 kj102 t442 y445 t465 0 true t435 t438 t439 t440 t441 t458 t461 t462 t463 t464 0 0 0 false) = some r := by rw [if_neg (show ¬ (false = true) by decide)] at H; exact H
             clear H
             have H := H1
             clear H1
             have H' := aA H
             clear H
             have hnb206 := NB433_434.out
             have hnc206 := NB434_433.out
             have hnb207 := NB433_457.out
             have hnc207 := NB457_433.out
             have hnb208 := NB433_466.out
             have hnc208 := NB466_433.out
             have hnb209 := NB433_467.out
             have hnc209 := NB467_433.out
             obtain ⟨hcz210_0, hcz210_1, hcz210_2, hcz210_3, hcz210_4⟩ := bC5 BK433.out
             obtain ⟨hfz210_0, hfz210_1, hfz210_2, hfz210_3, hfz210_4⟩ := bF5 BK433.out
             go_wp2_with (first | ((with_reducible refine gate_callee (f := 14) rfl ?_); refine goesL_ (some 104) rfl rfl Try.func14 (by kernel_rfl) rfl #[.agg #[.slice Ao25 t435.length co25, .int .i64 t438, .int .i64 t439, .int .i64 t440, .bool t441]] rfl mS ?_; (with_reducible refine (foghornref04_Right.calls kj102 _ _ t435 t438 t439 t440 t441 false _ ?side1 ?side2 A196.out).mono ?_); (case side1 => exact mC ((Kd.R_reads' HO_434000.out).2.2)); (case side2 => exact (Kd.R_reads' HO_434000.out).2.1); rintro e w211 ⟨rfl, hb⟩; refine ⟨_, rfl, ?_⟩; have n0_ := aA (Kd.R_below (mR HO_3.out) hb); have n1_ := aA (Kd.R_below (mR HO_434000.out) hb); have n2_ := aA (Kd.V_below (by (with_reducible repeat (first | apply Kd.V_alloc | apply Kd.V_drewN | apply Kd.V_drew)); exact HO_458000.out) hb); have n3_ := aA (Kd.V_below (by (with_reducible repeat (first | apply Kd.V_alloc | apply Kd.V_drewN | apply Kd.V_drew)); exact HO_467000.out) hb); have n4_ := aA (bB BK433.out hb); have n5_ := aA (bB BK434.out hb); have n6_ := aA (bB BK457.out hb); have n7_ := aA (bB BK466.out hb); have n8_ := aA (bB BK467.out hb); have n9_ := aA (below_step (by repeat (first | (with_reducible first | exact HB.out | apply below_alloc | apply pw_below_drewN | apply below_drew1 | refine below_set ?_ GE433.out | refine below_set ?_ GE434.out | refine below_set ?_ GE457.out | refine below_set ?_ GE466.out | refine below_set ?_ GE467.out) | exact HB.out)) hb); clear HO_3 HO_434000 HO_458000 HO_467000 BK433 BK434 BK457 BK466 BK467 HB; have HO_3 := n0_; have HO_434000 := n1_; have HO_458000 := n2_; have HO_467000 := n3_; have BK433 := n4_; have BK434 := n5_; have BK457 := n6_; have BK466 := n7_; have BK467 := n8_; have HB := n9_; clear n0_ n1_ n2_ n3_ n4_ n5_ n6_ n7_ n8_ n9_; (try clear hb); (try clear hb2); (try clear hk); (try clear hi)))
             go_meet
             case rel => exact ⟨_, (true), (by first | rfl | (simp; done) | (simp [*]; done)), H', ⟨by have := HJ17.out; have := HJ102.out; first | omega | exact Nat.le_refl _⟩, ⟨by (with_reducible repeat (first | apply Kd.R_alloc | apply Kd.R_drewN | apply Kd.R_drew)); exact HO_3.out⟩, ⟨by (with_reducible repeat (first | apply Kd.R_alloc | apply Kd.R_drewN | apply Kd.R_drew)); exact HO_434000.out⟩, ⟨by (with_reducible repeat (first | apply Kd.V_alloc | apply Kd.V_drewN | apply Kd.V_drew)); exact HO_458000.out⟩, ⟨by (with_reducible repeat (first | apply Kd.V_alloc | apply Kd.V_drewN | apply Kd.V_drew)); exact HO_467000.out⟩, ⟨by (with_reducible repeat (first | refine blk_drewN ?_ _ | refine blk_drew ?_ | refine blk_alloc ?_ _)); exact BK433.out⟩, ⟨by (with_reducible repeat (first | refine blk_drewN ?_ _ | refine blk_drew ?_ | refine blk_alloc ?_ _)); exact BK434.out⟩, ⟨by (with_reducible repeat (first | refine blk_drewN ?_ _ | refine blk_drew ?_ | refine blk_alloc ?_ _)); exact BK457.out⟩, ⟨by (with_reducible repeat (first | refine blk_drewN ?_ _ | refine blk_drew ?_ | refine blk_alloc ?_ _)); exact BK466.out⟩, ⟨by (with_reducible repeat (first | refine blk_drewN ?_ _ | refine blk_drew ?_ | refine blk_alloc ?_ _)); exact BK467.out⟩, ⟨by repeat (first | (with_reducible first | exact HB.out | apply below_alloc | apply pw_below_drewN | apply below_drew1 | refine below_set ?_ GE433.out | refine below_set ?_ GE434.out | refine below_set ?_ GE457.out | refine below_set ?_ GE466.out | refine below_set ?_ GE467.out) | exact HB.out)⟩⟩
           case rest =>
            clear HC195
            try clear c1
            try clear c2
            try clear p2
            try clear q2
            try clear c3
            try clear c4
            try clear c5
            try clear c6
            try clear c7
            try clear c8
            try clear c8b0
            try clear c8b1
            try clear c9
            try clear c9b0
            try clear c9b1
            try clear c10
            try clear c11
            try clear c12
            try clear c12b0
            try clear c12b1
            try clear c13
            try clear c13b0
            try clear c13b1
            try clear c14
            try clear c15
            try clear c16
            try clear c17
            try clear c18
            try clear c19
            try clear c20
            try clear c21
            try clear c22
            try clear q22
            try clear c24
            try clear c25
            try clear c32
            try clear c38
            try clear c39
            try clear c47
            try clear c48
            try clear c49
            try clear c52
            try clear c53
            try clear c54
            try clear c55
            try clear c60
            try clear c62
            try clear c63
            try clear c64
            try clear c65
            try clear c68
            try clear c69
            try clear c70
            try clear c73
            try clear c74
            try clear c75
            try clear c76
            try clear c79
            try clear c80
            try clear c80b0
            try clear c80b1
            try clear c81
            try clear c82
            try clear c83
            try clear c84
            try clear c85
            try clear c88
            try clear c88b0
            try clear c88b1
            try clear c89
            try clear c90
            try clear c91
            try clear c92
            try clear c96
            try clear c97
            try clear c98
            try clear c99
            try clear c104
            try clear c104b0
            try clear c104b1
            try clear c106
            try clear c106b0
            try clear c106b1
            try clear c108
            try clear c109
            try clear c110
            try clear c111
            try clear c112
            try clear c114
            try clear c115
            try clear c116
            try clear c121
            try clear c122
            try clear c123
            try clear c124
            try clear c125
            try clear c127
            try clear c128
            try clear c131
            try clear c132
            try clear c133
            try clear c134
            try clear c136
            try clear c137
            try clear c138
            try clear c143
            try clear c144
            try clear c145
            try clear c146
            try clear c147
            try clear c149
            try clear c150
            try clear c153
            try clear c154
            try clear c155
            try clear c156
            try clear c158
            try clear c159
            try clear c160
            try clear c165
            try clear c166
            try clear c167
            try clear c168
            try clear c169
            try clear c171
            try clear c171b0
            try clear c171b1
            try clear c173
            try clear c174
            try clear c175
            try clear c176
            try clear c177
            try clear c179
            try clear c180
            try clear c181
            try clear c184
            try clear c185
            try clear c186
            try clear c187
            try clear c189
            try clear c190
            try clear c191
            try clear c197
            try clear c199
            try clear c200
            try clear c201
            try clear c202
            try clear c206
            try clear c207
            try clear c208
            try clear c209
            try clear hcz100_0 hcz100_1 hcz100_2 hcz100_3 hcz100_4
            try clear hcz113_0 hcz113_1 hcz113_2 hcz113_3 hcz113_4
            try clear hcz117_0 hcz117_1
            try clear hcz126_0 hcz126_1 hcz126_2 hcz126_3 hcz126_4
            try clear hcz129_0 hcz129_1 hcz129_2 hcz129_3 hcz129_4
            try clear hcz135_0 hcz135_1 hcz135_2 hcz135_3 hcz135_4
            try clear hcz139_0 hcz139_1
            try clear hcz148_0 hcz148_1 hcz148_2 hcz148_3 hcz148_4
            try clear hcz151_0 hcz151_1 hcz151_2 hcz151_3 hcz151_4
            try clear hcz157_0 hcz157_1 hcz157_2 hcz157_3 hcz157_4
            try clear hcz161_0 hcz161_1
            try clear hcz170_0 hcz170_1 hcz170_2 hcz170_3 hcz170_4
            try clear hcz178_0 hcz178_1 hcz178_2 hcz178_3 hcz178_4
            try clear hcz182_0 hcz182_1 hcz182_2 hcz182_3 hcz182_4
            try clear hcz188_0 hcz188_1 hcz188_2 hcz188_3 hcz188_4
            try clear hcz192_0 hcz192_1 hcz192_2 hcz192_3 hcz192_4
            try clear hcz203_0 hcz203_1 hcz203_2 hcz203_3 hcz203_4
            try clear hcz210_0 hcz210_1 hcz210_2 hcz210_3 hcz210_4
            try clear hcz33_0 hcz33_1 hcz33_2 hcz33_3 hcz33_4
            try clear hcz34_0 hcz34_1
            try clear hcz40_0 hcz40_1 hcz40_2 hcz40_3 hcz40_4
            try clear hcz42_0 hcz42_1 hcz42_2 hcz42_3 hcz42_4
            try clear hcz50_0 hcz50_1 hcz50_2 hcz50_3 hcz50_4
            try clear hcz56_0 hcz56_1 hcz56_2 hcz56_3 hcz56_4
            try clear hcz66_0 hcz66_1 hcz66_2 hcz66_3 hcz66_4
            try clear hcz71_0 hcz71_1
            try clear hcz77_0 hcz77_1 hcz77_2 hcz77_3 hcz77_4
            try clear hcz86_0 hcz86_1 hcz86_2 hcz86_3 hcz86_4
            try clear hcz93_0 hcz93_1 hcz93_2 hcz93_3 hcz93_4
            try clear hfz100_0 hfz100_1 hfz100_2 hfz100_3 hfz100_4
            try clear hfz113_0 hfz113_1 hfz113_2 hfz113_3 hfz113_4
            try clear hfz117_0 hfz117_1
            try clear hfz126_0 hfz126_1 hfz126_2 hfz126_3 hfz126_4
            try clear hfz129_0 hfz129_1 hfz129_2 hfz129_3 hfz129_4
            try clear hfz135_0 hfz135_1 hfz135_2 hfz135_3 hfz135_4
            try clear hfz139_0 hfz139_1
            try clear hfz148_0 hfz148_1 hfz148_2 hfz148_3 hfz148_4
            try clear hfz151_0 hfz151_1 hfz151_2 hfz151_3 hfz151_4
            try clear hfz157_0 hfz157_1 hfz157_2 hfz157_3 hfz157_4
            try clear hfz161_0 hfz161_1
            try clear hfz170_0 hfz170_1 hfz170_2 hfz170_3 hfz170_4
            try clear hfz178_0 hfz178_1 hfz178_2 hfz178_3 hfz178_4
            try clear hfz182_0 hfz182_1 hfz182_2 hfz182_3 hfz182_4
            try clear hfz188_0 hfz188_1 hfz188_2 hfz188_3 hfz188_4
            try clear hfz192_0 hfz192_1 hfz192_2 hfz192_3 hfz192_4
            try clear hfz203_0 hfz203_1 hfz203_2 hfz203_3 hfz203_4
            try clear hfz210_0 hfz210_1 hfz210_2 hfz210_3 hfz210_4
            try clear hfz33_0 hfz33_1 hfz33_2 hfz33_3 hfz33_4
            try clear hfz34_0 hfz34_1
            try clear hfz40_0 hfz40_1 hfz40_2 hfz40_3 hfz40_4
            try clear hfz42_0 hfz42_1 hfz42_2 hfz42_3 hfz42_4
            try clear hfz50_0 hfz50_1 hfz50_2 hfz50_3 hfz50_4
            try clear hfz56_0 hfz56_1 hfz56_2 hfz56_3 hfz56_4
            try clear hfz66_0 hfz66_1 hfz66_2 hfz66_3 hfz66_4
            try clear hfz71_0 hfz71_1
            try clear hfz77_0 hfz77_1 hfz77_2 hfz77_3 hfz77_4
            try clear hfz86_0 hfz86_1 hfz86_2 hfz86_3 hfz86_4
            try clear hfz93_0 hfz93_1 hfz93_2 hfz93_3 hfz93_4
            try clear p2
            try clear q2
            try clear q22
            obtain ⟨kq, x102_194, rfl, HA, HJ194, HO_3, HO_434000, HO_458000, HO_467000, BK433, BK434, BK457, BK466, BK467, HB⟩ := hcut
            cases kq with
            | zero => exact absurd HA.out (by simp [foghornlaw04_StoreWrites.j3])
            | succ kj194 =>
             have H := HA.out
             clear HA
             simp only [foghornlaw04_StoreWrites.j3] at H
             by_cases c212 : x102_194 = true
             ·subst c212
              have H1 : (foghornlaw04_StoreWrites.j4 kj194 t442 y445 t465 1 t435 t438 t439 t440 t441 t458 t461 t462 t463 t464 0 0 0 false) = some r := by rw [if_pos rfl] at H; exact H
              clear H
              have H := H1
              clear H1
              have H' := aA H
              clear H
              go_wp2
              go_meet
              case rel => exact ⟨_, (1), (by first | rfl | (simp; done) | (simp [*]; done)), H', ⟨by have := HJ17.out; have := HJ102.out; have := HJ194.out; first | omega | exact Nat.le_refl _⟩, ⟨by (with_reducible repeat (first | apply Kd.R_alloc | apply Kd.R_drewN | apply Kd.R_drew)); exact HO_3.out⟩, ⟨by (with_reducible repeat (first | apply Kd.R_alloc | apply Kd.R_drewN | apply Kd.R_drew)); exact HO_434000.out⟩, ⟨by (with_reducible repeat (first | apply Kd.V_alloc | apply Kd.V_drewN | apply Kd.V_drew)); exact HO_458000.out⟩, ⟨by (with_reducible repeat (first | apply Kd.V_alloc | apply Kd.V_drewN | apply Kd.V_drew)); exact HO_467000.out⟩, ⟨by (with_reducible repeat (first | refine blk_drewN ?_ _ | refine blk_drew ?_ | refine blk_alloc ?_ _)); exact BK433.out⟩, ⟨by (with_reducible repeat (first | refine blk_drewN ?_ _ | refine blk_drew ?_ | refine blk_alloc ?_ _)); exact BK434.out⟩, ⟨by (with_reducible repeat (first | refine blk_drewN ?_ _ | refine blk_drew ?_ | refine blk_alloc ?_ _)); exact BK457.out⟩, ⟨by (with_reducible repeat (first | refine blk_drewN ?_ _ | refine blk_drew ?_ | refine blk_alloc ?_ _)); exact BK466.out⟩, ⟨by (with_reducible repeat (first | refine blk_drewN ?_ _ | refine blk_drew ?_ | refine blk_alloc ?_ _)); exact BK467.out⟩, ⟨by repeat (first | (with_reducible first | exact HB.out | apply below_alloc | apply pw_below_drewN | apply below_drew1 | refine below_set ?_ GE433.out | refine below_set ?_ GE434.out | refine below_set ?_ GE457.out | refine below_set ?_ GE466.out | refine below_set ?_ GE467.out) | exact HB.out)⟩⟩
             ·replace c212 := Bool.eq_false_iff.mpr c212
              subst c212
              have H1 : ((foghornref04_Payloads.f kj194 t442).bind fun t485 => (if t485 = true then (if t441 = true then (foghornlaw04_StoreWrites.j4 kj194 t442 y445 t465 9 t435 t438 t439 t440 t441 t458 t461 t462 t463 t464 0 0 0 false) else ((foghornref04_Area.f t435).bind fun t486 => (if (t442.length : Int) > t486 then (foghornlaw04_StoreWrites.j4 kj194 t442 y445 t465 5 t435 t438 t439 t440 t441 t458 t461 t462 t463 t464 0 0 0 false) else ((foghornref04_Next.f t435 t438 t439 t440 t441).bind fun t487 => (if t487 > 250 then (foghornlaw04_StoreWrites.j4 kj194 t442 y445 t465 5 t435 t438 t439 t440 t441 t458 t461 t462 t463 t464 0 0 0 false) else (foghornlaw04_StoreWrites.j4 kj194 t442 y445 t465 0 t435 t438 t439 t440 t441 t458 t461 t462 t463 t464 0 0 0 false)))))) else (foghornlaw04_StoreWrites.j4 kj194 t442 y445 t465 2 t435 t438 t439 t440 t441 t458 t461 t462 t463 t464 0 0 0 false))) = some r := by rw [if_neg (show ¬ (false = true) by decide)] at H; exact H
              clear H
              have H := H1
              clear H1
              replace H := Option.bind_eq_some_iff.mp H
              obtain ⟨t485, A2130, H⟩ := H
              have A213 := aA A2130
              clear A2130
              by_cases c214 : t485 = true
              ·subst c214
               have H1 : (if t441 = true then (foghornlaw04_StoreWrites.j4 kj194 t442 y445 t465 9 t435 t438 t439 t440 t441 t458 t461 t462 t463 t464 0 0 0 false) else ((foghornref04_Area.f t435).bind fun t486 => (if (t442.length : Int) > t486 then (foghornlaw04_StoreWrites.j4 kj194 t442 y445 t465 5 t435 t438 t439 t440 t441 t458 t461 t462 t463 t464 0 0 0 false) else ((foghornref04_Next.f t435 t438 t439 t440 t441).bind fun t487 => (if t487 > 250 then (foghornlaw04_StoreWrites.j4 kj194 t442 y445 t465 5 t435 t438 t439 t440 t441 t458 t461 t462 t463 t464 0 0 0 false) else (foghornlaw04_StoreWrites.j4 kj194 t442 y445 t465 0 t435 t438 t439 t440 t441 t458 t461 t462 t463 t464 0 0 0 false)))))) = some r := by rw [if_pos rfl] at H; exact H
               clear H
               have H := H1
               clear H1
               by_cases c215 : t441 = true
               ·subst c215
                have H1 : (foghornlaw04_StoreWrites.j4 kj194 t442 y445 t465 9 t435 t438 t439 t440 true t458 t461 t462 t463 t464 0 0 0 false) = some r := by rw [if_pos rfl] at H; exact H
                clear H
                have H := H1
                clear H1
                have H' := aA H
                clear H
                go_wp2_with (first | ((with_reducible refine gate_callee (f := 27) rfl ?_); refine goesL_ (some 113) rfl rfl Try.func27 (by kernel_rfl) rfl #[.slice Ao43 t442.length co43] rfl mS ?_; (with_reducible refine (foghornref04_Payloads.calls kj194 _ _ t442 true _ ?side1 ?side2 A213.out).mono ?_); (case side1 => exact mC ((Kd.R_reads' HO_3.out).2.2)); (case side2 => exact (Kd.R_reads' HO_3.out).2.1); rintro e w' ⟨rfl, ⟨nd, rfl⟩⟩; refine ⟨_, rfl, ?_⟩; have hnb216 := NB433_434.out; have hnc216 := NB434_433.out; have hnb217 := NB433_457.out; have hnc217 := NB457_433.out; have hnb218 := NB433_466.out; have hnc218 := NB466_433.out; have hnb219 := NB433_467.out; have hnc219 := NB467_433.out; obtain ⟨hcz220_0, hcz220_1, hcz220_2, hcz220_3, hcz220_4⟩ := bC5 BK433.out; obtain ⟨hfz220_0, hfz220_1, hfz220_2, hfz220_3, hfz220_4⟩ := bF5 BK433.out))
                go_meet
                case rel => exact ⟨_, (9), (by first | rfl | (simp; done) | (simp [*]; done)), H', ⟨by have := HJ17.out; have := HJ102.out; have := HJ194.out; first | omega | exact Nat.le_refl _⟩, ⟨by (with_reducible repeat (first | apply Kd.R_alloc | apply Kd.R_drewN | apply Kd.R_drew)); exact HO_3.out⟩, ⟨by (with_reducible repeat (first | apply Kd.R_alloc | apply Kd.R_drewN | apply Kd.R_drew)); exact HO_434000.out⟩, ⟨by (with_reducible repeat (first | apply Kd.V_alloc | apply Kd.V_drewN | apply Kd.V_drew)); exact HO_458000.out⟩, ⟨by (with_reducible repeat (first | apply Kd.V_alloc | apply Kd.V_drewN | apply Kd.V_drew)); exact HO_467000.out⟩, ⟨by (with_reducible repeat (first | refine blk_drewN ?_ _ | refine blk_drew ?_ | refine blk_alloc ?_ _)); exact BK433.out⟩, ⟨by (with_reducible repeat (first | refine blk_drewN ?_ _ | refine blk_drew ?_ | refine blk_alloc ?_ _)); exact BK434.out⟩, ⟨by (with_reducible repeat (first | refine blk_drewN ?_ _ | refine blk_drew ?_ | refine blk_alloc ?_ _)); exact BK457.out⟩, ⟨by (with_reducible repeat (first | refine blk_drewN ?_ _ | refine blk_drew ?_ | refine blk_alloc ?_ _)); exact BK466.out⟩, ⟨by (with_reducible repeat (first | refine blk_drewN ?_ _ | refine blk_drew ?_ | refine blk_alloc ?_ _)); exact BK467.out⟩, ⟨by repeat (first | (with_reducible first | exact HB.out | apply below_alloc | apply pw_below_drewN | apply below_drew1 | refine below_set ?_ GE433.out | refine below_set ?_ GE434.out | refine below_set ?_ GE457.out | refine below_set ?_ GE466.out | refine below_set ?_ GE467.out) | exact HB.out)⟩⟩
               ·replace c215 := Bool.eq_false_iff.mpr c215
                subst c215
                have H1 : ((foghornref04_Area.f t435).bind fun t486 => (if (t442.length : Int) > t486 then (foghornlaw04_StoreWrites.j4 kj194 t442 y445 t465 5 t435 t438 t439 t440 false t458 t461 t462 t463 t464 0 0 0 false) else ((foghornref04_Next.f t435 t438 t439 t440 false).bind fun t487 => (if t487 > 250 then (foghornlaw04_StoreWrites.j4 kj194 t442 y445 t465 5 t435 t438 t439 t440 false t458 t461 t462 t463 t464 0 0 0 false) else (foghornlaw04_StoreWrites.j4 kj194 t442 y445 t465 0 t435 t438 t439 t440 false t458 t461 t462 t463 t464 0 0 0 false))))) = some r := by rw [if_neg (show ¬ (false = true) by decide)] at H; exact H
                clear H
                have H := H1
                clear H1
                replace H := Option.bind_eq_some_iff.mp H
                obtain ⟨t486, A2210, H⟩ := H
                have A221 := aA A2210
                clear A2210
                by_cases c222 : (t442.length : Int) > t486
                ·rw [if_pos c222] at H
                 have c222b0 : decide (t486 < (t442.length : Int)) = true := decide_eq_true c222
                 clear c222
                 have H' := aA H
                 clear H
                 go_wp2_with (first | ((with_reducible refine gate_callee (f := 27) rfl ?_); refine goesL_ (some 113) rfl rfl Try.func27 (by kernel_rfl) rfl #[.slice Ao43 t442.length co43] rfl mS ?_; (with_reducible refine (foghornref04_Payloads.calls kj194 _ _ t442 true _ ?side1 ?side2 A213.out).mono ?_); (case side1 => exact mC ((Kd.R_reads' HO_3.out).2.2)); (case side2 => exact (Kd.R_reads' HO_3.out).2.1); rintro e w' ⟨rfl, ⟨nd, rfl⟩⟩; refine ⟨_, rfl, ?_⟩; have hnb223 := NB433_434.out; have hnc223 := NB434_433.out; have hnb224 := NB433_457.out; have hnc224 := NB457_433.out; have hnb225 := NB433_466.out; have hnc225 := NB466_433.out; have hnb226 := NB433_467.out; have hnc226 := NB467_433.out; obtain ⟨hcz227_0, hcz227_1, hcz227_2, hcz227_3, hcz227_4⟩ := bC5 BK433.out; obtain ⟨hfz227_0, hfz227_1, hfz227_2, hfz227_3, hfz227_4⟩ := bF5 BK433.out) | ((with_reducible refine gate_callee (f := 24) rfl ?_); refine goesL_ (some 123) rfl rfl Try.func24 (by kernel_rfl) rfl #[.agg #[.slice Ao25 t435.length co25]] rfl mS ?_; (with_reducible refine (foghornref04_Area.calls _ _ t435 t486 _ ?side1 ?side2 A221.out).mono ?_); (case side1 => exact mC ((Kd.R_reads' HO_434000.out).2.2)); (case side2 => exact (Kd.R_reads' HO_434000.out).2.1); rintro e w228 ⟨rfl, hb⟩; refine ⟨_, rfl, ?_⟩; have n0_ := aA (Kd.R_below (mR HO_3.out) hb); have n1_ := aA (Kd.R_below (mR HO_434000.out) hb); have n2_ := aA (Kd.V_below (by (with_reducible repeat (first | apply Kd.V_alloc | apply Kd.V_drewN | apply Kd.V_drew)); exact HO_458000.out) hb); have n3_ := aA (Kd.V_below (by (with_reducible repeat (first | apply Kd.V_alloc | apply Kd.V_drewN | apply Kd.V_drew)); exact HO_467000.out) hb); have n4_ := aA (bB BK433.out hb); have n5_ := aA (bB BK434.out hb); have n6_ := aA (bB BK457.out hb); have n7_ := aA (bB BK466.out hb); have n8_ := aA (bB BK467.out hb); have n9_ := aA (below_step (by repeat (first | (with_reducible first | exact HB.out | apply below_alloc | apply pw_below_drewN | apply below_drew1 | refine below_set ?_ GE433.out | refine below_set ?_ GE434.out | refine below_set ?_ GE457.out | refine below_set ?_ GE466.out | refine below_set ?_ GE467.out) | exact HB.out)) hb); clear HO_3 HO_434000 HO_458000 HO_467000 BK433 BK434 BK457 BK466 BK467 HB; have HO_3 := n0_; have HO_434000 := n1_; have HO_458000 := n2_; have HO_467000 := n3_; have BK433 := n4_; have BK434 := n5_; have BK457 := n6_; have BK466 := n7_; have BK467 := n8_; have HB := n9_; clear n0_ n1_ n2_ n3_ n4_ n5_ n6_ n7_ n8_ n9_; (try clear hb); (try clear hb2); (try clear hk); (try clear hi)))
                 go_meet
                 case rel => exact ⟨_, (5), (by first | rfl | (simp; done) | (simp [*]; done)), H', ⟨by have := HJ17.out; have := HJ102.out; have := HJ194.out; first | omega | exact Nat.le_refl _⟩, ⟨by (with_reducible repeat (first | apply Kd.R_alloc | apply Kd.R_drewN | apply Kd.R_drew)); exact HO_3.out⟩, ⟨by (with_reducible repeat (first | apply Kd.R_alloc | apply Kd.R_drewN | apply Kd.R_drew)); exact HO_434000.out⟩, ⟨by (with_reducible repeat (first | apply Kd.V_alloc | apply Kd.V_drewN | apply Kd.V_drew)); exact HO_458000.out⟩, ⟨by (with_reducible repeat (first | apply Kd.V_alloc | apply Kd.V_drewN | apply Kd.V_drew)); exact HO_467000.out⟩, ⟨by (with_reducible repeat (first | refine blk_drewN ?_ _ | refine blk_drew ?_ | refine blk_alloc ?_ _)); exact BK433.out⟩, ⟨by (with_reducible repeat (first | refine blk_drewN ?_ _ | refine blk_drew ?_ | refine blk_alloc ?_ _)); exact BK434.out⟩, ⟨by (with_reducible repeat (first | refine blk_drewN ?_ _ | refine blk_drew ?_ | refine blk_alloc ?_ _)); exact BK457.out⟩, ⟨by (with_reducible repeat (first | refine blk_drewN ?_ _ | refine blk_drew ?_ | refine blk_alloc ?_ _)); exact BK466.out⟩, ⟨by (with_reducible repeat (first | refine blk_drewN ?_ _ | refine blk_drew ?_ | refine blk_alloc ?_ _)); exact BK467.out⟩, ⟨by repeat (first | (with_reducible first | exact HB.out | apply below_alloc | apply pw_below_drewN | apply below_drew1 | refine below_set ?_ GE433.out | refine below_set ?_ GE434.out | refine below_set ?_ GE457.out | refine below_set ?_ GE466.out | refine below_set ?_ GE467.out) | exact HB.out)⟩⟩
                ·rw [if_neg c222] at H
                 have c222b0 : decide (t486 < (t442.length : Int)) = false := decide_eq_false c222
                 clear c222
                 replace H := Option.bind_eq_some_iff.mp H
                 obtain ⟨t487, A2290, H⟩ := H
                 have A229 := aA A2290
                 clear A2290
                 by_cases c230 : t487 > 250
                 ·rw [if_pos c230] at H
                  have c230b0 : decide (250 < t487) = true := decide_eq_true c230
                  clear c230
                  have H' := aA H
                  clear H
                  go_wp2_with (first | ((with_reducible refine gate_callee (f := 27) rfl ?_); refine goesL_ (some 113) rfl rfl Try.func27 (by kernel_rfl) rfl #[.slice Ao43 t442.length co43] rfl mS ?_; (with_reducible refine (foghornref04_Payloads.calls kj194 _ _ t442 true _ ?side1 ?side2 A213.out).mono ?_); (case side1 => exact mC ((Kd.R_reads' HO_3.out).2.2)); (case side2 => exact (Kd.R_reads' HO_3.out).2.1); rintro e w' ⟨rfl, ⟨nd, rfl⟩⟩; refine ⟨_, rfl, ?_⟩; have hnb231 := NB433_434.out; have hnc231 := NB434_433.out; have hnb232 := NB433_457.out; have hnc232 := NB457_433.out; have hnb233 := NB433_466.out; have hnc233 := NB466_433.out; have hnb234 := NB433_467.out; have hnc234 := NB467_433.out; obtain ⟨hcz235_0, hcz235_1, hcz235_2, hcz235_3, hcz235_4⟩ := bC5 BK433.out; obtain ⟨hfz235_0, hfz235_1, hfz235_2, hfz235_3, hfz235_4⟩ := bF5 BK433.out) | ((with_reducible refine gate_callee (f := 24) rfl ?_); refine goesL_ (some 123) rfl rfl Try.func24 (by kernel_rfl) rfl #[.agg #[.slice Ao25 t435.length co25]] rfl mS ?_; (with_reducible refine (foghornref04_Area.calls _ _ t435 t486 _ ?side1 ?side2 A221.out).mono ?_); (case side1 => exact mC ((Kd.R_reads' HO_434000.out).2.2)); (case side2 => exact (Kd.R_reads' HO_434000.out).2.1); rintro e w236 ⟨rfl, hb⟩; refine ⟨_, rfl, ?_⟩; have n0_ := aA (Kd.R_below (mR HO_3.out) hb); have n1_ := aA (Kd.R_below (mR HO_434000.out) hb); have n2_ := aA (Kd.V_below (by (with_reducible repeat (first | apply Kd.V_alloc | apply Kd.V_drewN | apply Kd.V_drew)); exact HO_458000.out) hb); have n3_ := aA (Kd.V_below (by (with_reducible repeat (first | apply Kd.V_alloc | apply Kd.V_drewN | apply Kd.V_drew)); exact HO_467000.out) hb); have n4_ := aA (bB BK433.out hb); have n5_ := aA (bB BK434.out hb); have n6_ := aA (bB BK457.out hb); have n7_ := aA (bB BK466.out hb); have n8_ := aA (bB BK467.out hb); have n9_ := aA (below_step (by repeat (first | (with_reducible first | exact HB.out | apply below_alloc | apply pw_below_drewN | apply below_drew1 | refine below_set ?_ GE433.out | refine below_set ?_ GE434.out | refine below_set ?_ GE457.out | refine below_set ?_ GE466.out | refine below_set ?_ GE467.out) | exact HB.out)) hb); clear HO_3 HO_434000 HO_458000 HO_467000 BK433 BK434 BK457 BK466 BK467 HB; have HO_3 := n0_; have HO_434000 := n1_; have HO_458000 := n2_; have HO_467000 := n3_; have BK433 := n4_; have BK434 := n5_; have BK457 := n6_; have BK466 := n7_; have BK467 := n8_; have HB := n9_; clear n0_ n1_ n2_ n3_ n4_ n5_ n6_ n7_ n8_ n9_; (try clear hb); (try clear hb2); (try clear hk); (try clear hi); obtain ⟨hcz237_0, hcz237_1, hcz237_2, hcz237_3, hcz237_4⟩ := bC5 BK433.out; obtain ⟨hfz237_0, hfz237_1, hfz237_2, hfz237_3, hfz237_4⟩ := bF5 BK433.out) | (go_at_call 28; (with_reducible refine (foghornref04_Next.calls _ _ t435 t438 t439 t440 false t487 _ ?side1 ?side2 A229.out).mono ?_); (case side1 => exact mC ((Kd.R_reads' HO_434000.out).2.2)); (case side2 => exact (Kd.R_reads' HO_434000.out).2.1); rintro e w238 ⟨rfl, hb⟩; have n0_ := aA (Kd.R_below (mR HO_3.out) hb); have n1_ := aA (Kd.R_below (mR HO_434000.out) hb); have n2_ := aA (Kd.V_below (by (with_reducible repeat (first | apply Kd.V_alloc | apply Kd.V_drewN | apply Kd.V_drew)); exact HO_458000.out) hb); have n3_ := aA (Kd.V_below (by (with_reducible repeat (first | apply Kd.V_alloc | apply Kd.V_drewN | apply Kd.V_drew)); exact HO_467000.out) hb); have n4_ := aA (bB BK433.out hb); have n5_ := aA (bB BK434.out hb); have n6_ := aA (bB BK457.out hb); have n7_ := aA (bB BK466.out hb); have n8_ := aA (bB BK467.out hb); have n9_ := aA (below_step (by repeat (first | (with_reducible first | exact HB.out | apply below_alloc | apply pw_below_drewN | apply below_drew1 | refine below_set ?_ GE433.out | refine below_set ?_ GE434.out | refine below_set ?_ GE457.out | refine below_set ?_ GE466.out | refine below_set ?_ GE467.out) | exact HB.out)) hb); clear HO_3 HO_434000 HO_458000 HO_467000 BK433 BK434 BK457 BK466 BK467 HB; have HO_3 := n0_; have HO_434000 := n1_; have HO_458000 := n2_; have HO_467000 := n3_; have BK433 := n4_; have BK434 := n5_; have BK457 := n6_; have BK466 := n7_; have BK467 := n8_; have HB := n9_; clear n0_ n1_ n2_ n3_ n4_ n5_ n6_ n7_ n8_ n9_; (try clear hb); (try clear hb2); (try clear hk); (try clear hi)))
                  go_meet
                  case rel => exact ⟨_, (5), (by first | rfl | (simp; done) | (simp [*]; done)), H', ⟨by have := HJ17.out; have := HJ102.out; have := HJ194.out; first | omega | exact Nat.le_refl _⟩, ⟨by (with_reducible repeat (first | apply Kd.R_alloc | apply Kd.R_drewN | apply Kd.R_drew)); exact HO_3.out⟩, ⟨by (with_reducible repeat (first | apply Kd.R_alloc | apply Kd.R_drewN | apply Kd.R_drew)); exact HO_434000.out⟩, ⟨by (with_reducible repeat (first | apply Kd.V_alloc | apply Kd.V_drewN | apply Kd.V_drew)); exact HO_458000.out⟩, ⟨by (with_reducible repeat (first | apply Kd.V_alloc | apply Kd.V_drewN | apply Kd.V_drew)); exact HO_467000.out⟩, ⟨by (with_reducible repeat (first | refine blk_drewN ?_ _ | refine blk_drew ?_ | refine blk_alloc ?_ _)); exact BK433.out⟩, ⟨by (with_reducible repeat (first | refine blk_drewN ?_ _ | refine blk_drew ?_ | refine blk_alloc ?_ _)); exact BK434.out⟩, ⟨by (with_reducible repeat (first | refine blk_drewN ?_ _ | refine blk_drew ?_ | refine blk_alloc ?_ _)); exact BK457.out⟩, ⟨by (with_reducible repeat (first | refine blk_drewN ?_ _ | refine blk_drew ?_ | refine blk_alloc ?_ _)); exact BK466.out⟩, ⟨by (with_reducible repeat (first | refine blk_drewN ?_ _ | refine blk_drew ?_ | refine blk_alloc ?_ _)); exact BK467.out⟩, ⟨by repeat (first | (with_reducible first | exact HB.out | apply below_alloc | apply pw_below_drewN | apply below_drew1 | refine below_set ?_ GE433.out | refine below_set ?_ GE434.out | refine below_set ?_ GE457.out | refine below_set ?_ GE466.out | refine below_set ?_ GE467.out) | exact HB.out)⟩⟩
                 ·rw [if_neg c230] at H
                  have c230b0 : decide (250 < t487) = false := decide_eq_false c230
                  clear c230
                  have H' := aA H
                  clear H
                  go_wp2_with (first | ((with_reducible refine gate_callee (f := 27) rfl ?_); refine goesL_ (some 113) rfl rfl Try.func27 (by kernel_rfl) rfl #[.slice Ao43 t442.length co43] rfl mS ?_; (with_reducible refine (foghornref04_Payloads.calls kj194 _ _ t442 true _ ?side1 ?side2 A213.out).mono ?_); (case side1 => exact mC ((Kd.R_reads' HO_3.out).2.2)); (case side2 => exact (Kd.R_reads' HO_3.out).2.1); rintro e w' ⟨rfl, ⟨nd, rfl⟩⟩; refine ⟨_, rfl, ?_⟩; have hnb239 := NB433_434.out; have hnc239 := NB434_433.out; have hnb240 := NB433_457.out; have hnc240 := NB457_433.out; have hnb241 := NB433_466.out; have hnc241 := NB466_433.out; have hnb242 := NB433_467.out; have hnc242 := NB467_433.out; obtain ⟨hcz243_0, hcz243_1, hcz243_2, hcz243_3, hcz243_4⟩ := bC5 BK433.out; obtain ⟨hfz243_0, hfz243_1, hfz243_2, hfz243_3, hfz243_4⟩ := bF5 BK433.out) | ((with_reducible refine gate_callee (f := 24) rfl ?_); refine goesL_ (some 123) rfl rfl Try.func24 (by kernel_rfl) rfl #[.agg #[.slice Ao25 t435.length co25]] rfl mS ?_; (with_reducible refine (foghornref04_Area.calls _ _ t435 t486 _ ?side1 ?side2 A221.out).mono ?_); (case side1 => exact mC ((Kd.R_reads' HO_434000.out).2.2)); (case side2 => exact (Kd.R_reads' HO_434000.out).2.1); rintro e w244 ⟨rfl, hb⟩; refine ⟨_, rfl, ?_⟩; have n0_ := aA (Kd.R_below (mR HO_3.out) hb); have n1_ := aA (Kd.R_below (mR HO_434000.out) hb); have n2_ := aA (Kd.V_below (by (with_reducible repeat (first | apply Kd.V_alloc | apply Kd.V_drewN | apply Kd.V_drew)); exact HO_458000.out) hb); have n3_ := aA (Kd.V_below (by (with_reducible repeat (first | apply Kd.V_alloc | apply Kd.V_drewN | apply Kd.V_drew)); exact HO_467000.out) hb); have n4_ := aA (bB BK433.out hb); have n5_ := aA (bB BK434.out hb); have n6_ := aA (bB BK457.out hb); have n7_ := aA (bB BK466.out hb); have n8_ := aA (bB BK467.out hb); have n9_ := aA (below_step (by repeat (first | (with_reducible first | exact HB.out | apply below_alloc | apply pw_below_drewN | apply below_drew1 | refine below_set ?_ GE433.out | refine below_set ?_ GE434.out | refine below_set ?_ GE457.out | refine below_set ?_ GE466.out | refine below_set ?_ GE467.out) | exact HB.out)) hb); clear HO_3 HO_434000 HO_458000 HO_467000 BK433 BK434 BK457 BK466 BK467 HB; have HO_3 := n0_; have HO_434000 := n1_; have HO_458000 := n2_; have HO_467000 := n3_; have BK433 := n4_; have BK434 := n5_; have BK457 := n6_; have BK466 := n7_; have BK467 := n8_; have HB := n9_; clear n0_ n1_ n2_ n3_ n4_ n5_ n6_ n7_ n8_ n9_; (try clear hb); (try clear hb2); (try clear hk); (try clear hi); obtain ⟨hcz245_0, hcz245_1, hcz245_2, hcz245_3, hcz245_4⟩ := bC5 BK433.out; obtain ⟨hfz245_0, hfz245_1, hfz245_2, hfz245_3, hfz245_4⟩ := bF5 BK433.out) | (go_at_call 28; (with_reducible refine (foghornref04_Next.calls _ _ t435 t438 t439 t440 false t487 _ ?side1 ?side2 A229.out).mono ?_); (case side1 => exact mC ((Kd.R_reads' HO_434000.out).2.2)); (case side2 => exact (Kd.R_reads' HO_434000.out).2.1); rintro e w246 ⟨rfl, hb⟩; have n0_ := aA (Kd.R_below (mR HO_3.out) hb); have n1_ := aA (Kd.R_below (mR HO_434000.out) hb); have n2_ := aA (Kd.V_below (by (with_reducible repeat (first | apply Kd.V_alloc | apply Kd.V_drewN | apply Kd.V_drew)); exact HO_458000.out) hb); have n3_ := aA (Kd.V_below (by (with_reducible repeat (first | apply Kd.V_alloc | apply Kd.V_drewN | apply Kd.V_drew)); exact HO_467000.out) hb); have n4_ := aA (bB BK433.out hb); have n5_ := aA (bB BK434.out hb); have n6_ := aA (bB BK457.out hb); have n7_ := aA (bB BK466.out hb); have n8_ := aA (bB BK467.out hb); have n9_ := aA (below_step (by repeat (first | (with_reducible first | exact HB.out | apply below_alloc | apply pw_below_drewN | apply below_drew1 | refine below_set ?_ GE433.out | refine below_set ?_ GE434.out | refine below_set ?_ GE457.out | refine below_set ?_ GE466.out | refine below_set ?_ GE467.out) | exact HB.out)) hb); clear HO_3 HO_434000 HO_458000 HO_467000 BK433 BK434 BK457 BK466 BK467 HB; have HO_3 := n0_; have HO_434000 := n1_; have HO_458000 := n2_; have HO_467000 := n3_; have BK433 := n4_; have BK434 := n5_; have BK457 := n6_; have BK466 := n7_; have BK467 := n8_; have HB := n9_; clear n0_ n1_ n2_ n3_ n4_ n5_ n6_ n7_ n8_ n9_; (try clear hb); (try clear hb2); (try clear hk); (try clear hi)))
                  go_meet
                  case rel => exact ⟨_, (0), (by first | rfl | (simp; done) | (simp [*]; done)), H', ⟨by have := HJ17.out; have := HJ102.out; have := HJ194.out; first | omega | exact Nat.le_refl _⟩, ⟨by (with_reducible repeat (first | apply Kd.R_alloc | apply Kd.R_drewN | apply Kd.R_drew)); exact HO_3.out⟩, ⟨by (with_reducible repeat (first | apply Kd.R_alloc | apply Kd.R_drewN | apply Kd.R_drew)); exact HO_434000.out⟩, ⟨by (with_reducible repeat (first | apply Kd.V_alloc | apply Kd.V_drewN | apply Kd.V_drew)); exact HO_458000.out⟩, ⟨by (with_reducible repeat (first | apply Kd.V_alloc | apply Kd.V_drewN | apply Kd.V_drew)); exact HO_467000.out⟩, ⟨by (with_reducible repeat (first | refine blk_drewN ?_ _ | refine blk_drew ?_ | refine blk_alloc ?_ _)); exact BK433.out⟩, ⟨by (with_reducible repeat (first | refine blk_drewN ?_ _ | refine blk_drew ?_ | refine blk_alloc ?_ _)); exact BK434.out⟩, ⟨by (with_reducible repeat (first | refine blk_drewN ?_ _ | refine blk_drew ?_ | refine blk_alloc ?_ _)); exact BK457.out⟩, ⟨by (with_reducible repeat (first | refine blk_drewN ?_ _ | refine blk_drew ?_ | refine blk_alloc ?_ _)); exact BK466.out⟩, ⟨by (with_reducible repeat (first | refine blk_drewN ?_ _ | refine blk_drew ?_ | refine blk_alloc ?_ _)); exact BK467.out⟩, ⟨by repeat (first | (with_reducible first | exact HB.out | apply below_alloc | apply pw_below_drewN | apply below_drew1 | refine below_set ?_ GE433.out | refine below_set ?_ GE434.out | refine below_set ?_ GE457.out | refine below_set ?_ GE466.out | refine below_set ?_ GE467.out) | exact HB.out)⟩⟩
              ·replace c214 := Bool.eq_false_iff.mpr c214
               subst c214
               have H1 : (foghornlaw04_StoreWrites.j4 kj194 t442 y445 t465 2 t435 t438 t439 t440 t441 t458 t461 t462 t463 t464 0 0 0 false) = some r := by rw [if_neg (show ¬ (false = true) by decide)] at H; exact H
               clear H
               have H := H1
               clear H1
               have H' := aA H
               clear H
               go_wp2_with (first | ((with_reducible refine gate_callee (f := 27) rfl ?_); refine goesL_ (some 113) rfl rfl Try.func27 (by kernel_rfl) rfl #[.slice Ao43 t442.length co43] rfl mS ?_; (with_reducible refine (foghornref04_Payloads.calls kj194 _ _ t442 false _ ?side1 ?side2 A213.out).mono ?_); (case side1 => exact mC ((Kd.R_reads' HO_3.out).2.2)); (case side2 => exact (Kd.R_reads' HO_3.out).2.1); rintro e w' ⟨rfl, ⟨nd, rfl⟩⟩; refine ⟨_, rfl, ?_⟩))
               go_meet
               case rel => exact ⟨_, (2), (by first | rfl | (simp; done) | (simp [*]; done)), H', ⟨by have := HJ17.out; have := HJ102.out; have := HJ194.out; first | omega | exact Nat.le_refl _⟩, ⟨by (with_reducible repeat (first | apply Kd.R_alloc | apply Kd.R_drewN | apply Kd.R_drew)); exact HO_3.out⟩, ⟨by (with_reducible repeat (first | apply Kd.R_alloc | apply Kd.R_drewN | apply Kd.R_drew)); exact HO_434000.out⟩, ⟨by (with_reducible repeat (first | apply Kd.V_alloc | apply Kd.V_drewN | apply Kd.V_drew)); exact HO_458000.out⟩, ⟨by (with_reducible repeat (first | apply Kd.V_alloc | apply Kd.V_drewN | apply Kd.V_drew)); exact HO_467000.out⟩, ⟨by (with_reducible repeat (first | refine blk_drewN ?_ _ | refine blk_drew ?_ | refine blk_alloc ?_ _)); exact BK433.out⟩, ⟨by (with_reducible repeat (first | refine blk_drewN ?_ _ | refine blk_drew ?_ | refine blk_alloc ?_ _)); exact BK434.out⟩, ⟨by (with_reducible repeat (first | refine blk_drewN ?_ _ | refine blk_drew ?_ | refine blk_alloc ?_ _)); exact BK457.out⟩, ⟨by (with_reducible repeat (first | refine blk_drewN ?_ _ | refine blk_drew ?_ | refine blk_alloc ?_ _)); exact BK466.out⟩, ⟨by (with_reducible repeat (first | refine blk_drewN ?_ _ | refine blk_drew ?_ | refine blk_alloc ?_ _)); exact BK467.out⟩, ⟨by repeat (first | (with_reducible first | exact HB.out | apply below_alloc | apply pw_below_drewN | apply below_drew1 | refine below_set ?_ GE433.out | refine below_set ?_ GE434.out | refine below_set ?_ GE457.out | refine below_set ?_ GE466.out | refine below_set ?_ GE467.out) | exact HB.out)⟩⟩
          case rest =>
           clear HC194
           try clear c1
           try clear c2
           try clear p2
           try clear q2
           try clear c3
           try clear c4
           try clear c5
           try clear c6
           try clear c7
           try clear c8
           try clear c8b0
           try clear c8b1
           try clear c9
           try clear c9b0
           try clear c9b1
           try clear c10
           try clear c11
           try clear c12
           try clear c12b0
           try clear c12b1
           try clear c13
           try clear c13b0
           try clear c13b1
           try clear c14
           try clear c15
           try clear c16
           try clear c17
           try clear c18
           try clear c19
           try clear c20
           try clear c21
           try clear c22
           try clear q22
           try clear c23
           try clear c24
           try clear c25
           try clear c27
           try clear c32
           try clear c38
           try clear c39
           try clear c47
           try clear c48
           try clear c49
           try clear c52
           try clear c53
           try clear c54
           try clear c55
           try clear c60
           try clear c62
           try clear c63
           try clear c64
           try clear c65
           try clear c68
           try clear c69
           try clear c70
           try clear c73
           try clear c74
           try clear c75
           try clear c76
           try clear c79
           try clear c80
           try clear c80b0
           try clear c80b1
           try clear c81
           try clear c82
           try clear c83
           try clear c84
           try clear c85
           try clear c88
           try clear c88b0
           try clear c88b1
           try clear c89
           try clear c90
           try clear c91
           try clear c92
           try clear c96
           try clear c97
           try clear c98
           try clear c99
           try clear c104
           try clear c104b0
           try clear c104b1
           try clear c106
           try clear c106b0
           try clear c106b1
           try clear c108
           try clear c109
           try clear c110
           try clear c111
           try clear c112
           try clear c114
           try clear c115
           try clear c116
           try clear c121
           try clear c122
           try clear c123
           try clear c124
           try clear c125
           try clear c127
           try clear c128
           try clear c131
           try clear c132
           try clear c133
           try clear c134
           try clear c136
           try clear c137
           try clear c138
           try clear c143
           try clear c144
           try clear c145
           try clear c146
           try clear c147
           try clear c149
           try clear c150
           try clear c153
           try clear c154
           try clear c155
           try clear c156
           try clear c158
           try clear c159
           try clear c160
           try clear c165
           try clear c166
           try clear c167
           try clear c168
           try clear c169
           try clear c171
           try clear c171b0
           try clear c171b1
           try clear c173
           try clear c174
           try clear c175
           try clear c176
           try clear c177
           try clear c179
           try clear c180
           try clear c181
           try clear c184
           try clear c185
           try clear c186
           try clear c187
           try clear c189
           try clear c190
           try clear c191
           try clear c197
           try clear c199
           try clear c200
           try clear c201
           try clear c202
           try clear c206
           try clear c207
           try clear c208
           try clear c209
           try clear c212
           try clear c214
           try clear c215
           try clear c216
           try clear c217
           try clear c218
           try clear c219
           try clear c222
           try clear c222b0
           try clear c223
           try clear c224
           try clear c225
           try clear c226
           try clear c230
           try clear c230b0
           try clear c231
           try clear c232
           try clear c233
           try clear c234
           try clear c239
           try clear c240
           try clear c241
           try clear c242
           try clear hcz100_0 hcz100_1 hcz100_2 hcz100_3 hcz100_4
           try clear hcz113_0 hcz113_1 hcz113_2 hcz113_3 hcz113_4
           try clear hcz117_0 hcz117_1
           try clear hcz126_0 hcz126_1 hcz126_2 hcz126_3 hcz126_4
           try clear hcz129_0 hcz129_1 hcz129_2 hcz129_3 hcz129_4
           try clear hcz135_0 hcz135_1 hcz135_2 hcz135_3 hcz135_4
           try clear hcz139_0 hcz139_1
           try clear hcz148_0 hcz148_1 hcz148_2 hcz148_3 hcz148_4
           try clear hcz151_0 hcz151_1 hcz151_2 hcz151_3 hcz151_4
           try clear hcz157_0 hcz157_1 hcz157_2 hcz157_3 hcz157_4
           try clear hcz161_0 hcz161_1
           try clear hcz170_0 hcz170_1 hcz170_2 hcz170_3 hcz170_4
           try clear hcz178_0 hcz178_1 hcz178_2 hcz178_3 hcz178_4
           try clear hcz182_0 hcz182_1 hcz182_2 hcz182_3 hcz182_4
           try clear hcz188_0 hcz188_1 hcz188_2 hcz188_3 hcz188_4
           try clear hcz192_0 hcz192_1 hcz192_2 hcz192_3 hcz192_4
           try clear hcz203_0 hcz203_1 hcz203_2 hcz203_3 hcz203_4
           try clear hcz210_0 hcz210_1 hcz210_2 hcz210_3 hcz210_4
           try clear hcz220_0 hcz220_1 hcz220_2 hcz220_3 hcz220_4
           try clear hcz227_0 hcz227_1 hcz227_2 hcz227_3 hcz227_4
           try clear hcz235_0 hcz235_1 hcz235_2 hcz235_3 hcz235_4
           try clear hcz237_0 hcz237_1 hcz237_2 hcz237_3 hcz237_4
           try clear hcz243_0 hcz243_1 hcz243_2 hcz243_3 hcz243_4
           try clear hcz245_0 hcz245_1 hcz245_2 hcz245_3 hcz245_4
           try clear hcz33_0 hcz33_1 hcz33_2 hcz33_3 hcz33_4
           try clear hcz34_0 hcz34_1
           try clear hcz40_0 hcz40_1 hcz40_2 hcz40_3 hcz40_4
           try clear hcz42_0 hcz42_1 hcz42_2 hcz42_3 hcz42_4
           try clear hcz50_0 hcz50_1 hcz50_2 hcz50_3 hcz50_4
           try clear hcz56_0 hcz56_1 hcz56_2 hcz56_3 hcz56_4
           try clear hcz66_0 hcz66_1 hcz66_2 hcz66_3 hcz66_4
           try clear hcz71_0 hcz71_1
           try clear hcz77_0 hcz77_1 hcz77_2 hcz77_3 hcz77_4
           try clear hcz86_0 hcz86_1 hcz86_2 hcz86_3 hcz86_4
           try clear hcz93_0 hcz93_1 hcz93_2 hcz93_3 hcz93_4
           try clear hfz100_0 hfz100_1 hfz100_2 hfz100_3 hfz100_4
           try clear hfz113_0 hfz113_1 hfz113_2 hfz113_3 hfz113_4
           try clear hfz117_0 hfz117_1
           try clear hfz126_0 hfz126_1 hfz126_2 hfz126_3 hfz126_4
           try clear hfz129_0 hfz129_1 hfz129_2 hfz129_3 hfz129_4
           try clear hfz135_0 hfz135_1 hfz135_2 hfz135_3 hfz135_4
           try clear hfz139_0 hfz139_1
           try clear hfz148_0 hfz148_1 hfz148_2 hfz148_3 hfz148_4
           try clear hfz151_0 hfz151_1 hfz151_2 hfz151_3 hfz151_4
           try clear hfz157_0 hfz157_1 hfz157_2 hfz157_3 hfz157_4
           try clear hfz161_0 hfz161_1
           try clear hfz170_0 hfz170_1 hfz170_2 hfz170_3 hfz170_4
           try clear hfz178_0 hfz178_1 hfz178_2 hfz178_3 hfz178_4
           try clear hfz182_0 hfz182_1 hfz182_2 hfz182_3 hfz182_4
           try clear hfz188_0 hfz188_1 hfz188_2 hfz188_3 hfz188_4
           try clear hfz192_0 hfz192_1 hfz192_2 hfz192_3 hfz192_4
           try clear hfz203_0 hfz203_1 hfz203_2 hfz203_3 hfz203_4
           try clear hfz210_0 hfz210_1 hfz210_2 hfz210_3 hfz210_4
           try clear hfz220_0 hfz220_1 hfz220_2 hfz220_3 hfz220_4
           try clear hfz227_0 hfz227_1 hfz227_2 hfz227_3 hfz227_4
           try clear hfz235_0 hfz235_1 hfz235_2 hfz235_3 hfz235_4
           try clear hfz237_0 hfz237_1 hfz237_2 hfz237_3 hfz237_4
           try clear hfz243_0 hfz243_1 hfz243_2 hfz243_3 hfz243_4
           try clear hfz245_0 hfz245_1 hfz245_2 hfz245_3 hfz245_4
           try clear hfz33_0 hfz33_1 hfz33_2 hfz33_3 hfz33_4
           try clear hfz34_0 hfz34_1
           try clear hfz40_0 hfz40_1 hfz40_2 hfz40_3 hfz40_4
           try clear hfz42_0 hfz42_1 hfz42_2 hfz42_3 hfz42_4
           try clear hfz50_0 hfz50_1 hfz50_2 hfz50_3 hfz50_4
           try clear hfz56_0 hfz56_1 hfz56_2 hfz56_3 hfz56_4
           try clear hfz66_0 hfz66_1 hfz66_2 hfz66_3 hfz66_4
           try clear hfz71_0 hfz71_1
           try clear hfz77_0 hfz77_1 hfz77_2 hfz77_3 hfz77_4
           try clear hfz86_0 hfz86_1 hfz86_2 hfz86_3 hfz86_4
           try clear hfz93_0 hfz93_1 hfz93_2 hfz93_3 hfz93_4
           try clear p2
           try clear q2
           try clear q22
           obtain ⟨kq, x16_193, rfl, HA, HJ193, HO_3, HO_434000, HO_458000, HO_467000, BK433, BK434, BK457, BK466, BK467, HB⟩ := hcut
           cases kq with
           | zero => exact absurd HA.out (by simp [foghornlaw04_StoreWrites.j4])
           | succ kj193 =>
            have H := HA.out
            clear HA
            simp only [foghornlaw04_StoreWrites.j4] at H
            by_cases c247 : x16_193 = 0
            ·rw [if_pos c247] at H
             have c247b0 : (x16_193 == 0) = true := beq_iff_eq.mpr c247
             have c247b1 : (x16_193 != 0) = false := bne_eq_false_iff_eq.mpr c247
             clear c247
             replace H := Option.bind_eq_some_iff.mp H
             obtain ⟨⟨t488, t491, t492, t493, t494, t495⟩, A2480, H⟩ := H
             have A248 := aA A2480
             clear A2480
             by_cases c249 : t465 = t495
             ·rw [if_pos c249] at H
              have c249b0 : (t465 == t495) = true := beq_iff_eq.mpr c249
              have c249b1 : (t465 != t495) = false := bne_eq_false_iff_eq.mpr c249
              clear c249
              replace H := Option.bind_eq_some_iff.mp H
              obtain ⟨t497, A2500, H⟩ := H
              have A250 := aA A2500
              clear A2500
              obtain rfl := Option.some.inj H
              have hnb251 := NB433_434.out
              have hnc251 := NB434_433.out
              have hnb252 := NB433_457.out
              have hnc252 := NB457_433.out
              have hnb253 := NB433_466.out
              have hnc253 := NB466_433.out
              have hnb254 := NB433_467.out
              have hnc254 := NB467_433.out
              obtain ⟨hcz255_0, hcz255_1, hcz255_2, hcz255_3, hcz255_4⟩ := bC5 BK433.out
              obtain ⟨hfz255_0, hfz255_1, hfz255_2, hfz255_3, hfz255_4⟩ := bF5 BK433.out
              go_wp2_with (first | ((with_reducible refine gate_callee (f := 29) rfl ?_); refine goesL_ (some 144) rfl rfl Try.func29 (by kernel_rfl) rfl #[.agg #[.slice Ao25 t435.length co25, .int .i64 t438, .int .i64 t439, .int .i64 t440, .bool t441], .slice Ao43 t442.length co43, .slice A4 y445.length c4] rfl mS ?_; (with_reducible refine (foghornref04_Turn.calls kj193 (fun k_ => some k_ = (.slice Ao25 t435.length co25 : Value).ownBlock) _ _ t435 t438 t439 t440 t441 _ _ t442 _ _ y445 t488 t491 t492 t493 t494 t495 _ ?side1 ?side2 ?side3 ?side4 ?side5 A248.out).mono ?_); (case side1 => exact Kd.R_V (Kd.R_tight rfl (Kd.R_types (Kd.R_types (Kd.R_types (Kd.R_types (Kd.R_types (HO_434000.out) BK433.out (by decide)) BK434.out (by decide)) BK457.out (by decide)) BK466.out (by decide)) BK467.out (by decide)))); (case side2 => exact mC ((Kd.R_reads' HO_3.out).2.2)); (case side3 => exact (Kd.R_reads' HO_3.out).2.1); (case side4 => exact mC ((Kd.C_below HR448.out HB.out))); (case side5 => exact HC448.out); rintro e w256 ⟨v489, rfl, ho0, hb⟩; refine ⟨_, rfl, ?_⟩; have n0_ := aA (Kd.R_below (mR HO_3.out) hb); have n1_ := aA (Kd.R_below (mR HO_434000.out) hb); have n2_ := aA (Kd.V_below (by (with_reducible repeat (first | apply Kd.V_alloc | apply Kd.V_drewN | apply Kd.V_drew)); exact HO_458000.out) hb); have n3_ := aA (Kd.V_below (by (with_reducible repeat (first | apply Kd.V_alloc | apply Kd.V_drewN | apply Kd.V_drew)); exact HO_467000.out) hb); have n4_ := aA (Kd.V_lower (Kd.V_mono (ok' := fun k_ => some k_ ≠ (.slice Ao43 t442.length co43 : Value).ownBlock ∧ k_ ≠ gb433 ∧ k_ ≠ gb434 ∧ k_ ≠ gb457 ∧ k_ ≠ gb466 ∧ k_ ≠ gb467) ho0 (fun k_ hk_ => ⟨Or.elim hk_ (fun hs_ => ((Kd.R_types (Kd.R_types (Kd.R_types (Kd.R_types (Kd.R_types (HO_434000.out) BK433.out (by decide)) BK434.out (by decide)) BK457.out (by decide)) BK466.out (by decide)) BK467.out (by decide)).1 k_ hs_.symm).1.1.1.1.1) (fun hn_ => (Kd.fresh' (Kd.R_lt (mR HO_3.out)) k_ hn_)), Or.elim hk_ (fun hs_ => ((Kd.R_types (Kd.R_types (Kd.R_types (Kd.R_types (Kd.R_types (HO_434000.out) BK433.out (by decide)) BK434.out (by decide)) BK457.out (by decide)) BK466.out (by decide)) BK467.out (by decide)).1 k_ hs_.symm).1.1.1.1.2) (fun hn_ => (Kd.freshB (g := gb433) (o := .cells #[.slice Ao25 t435.length co25, .int .i64 t438, .int .i64 t439, .int .i64 t440, .bool t441] 26 (0, 0)) (mK BK433.out) k_ hn_)), Or.elim hk_ (fun hs_ => ((Kd.R_types (Kd.R_types (Kd.R_types (Kd.R_types (Kd.R_types (HO_434000.out) BK433.out (by decide)) BK434.out (by decide)) BK457.out (by decide)) BK466.out (by decide)) BK467.out (by decide)).1 k_ hs_.symm).1.1.1.2) (fun hn_ => (Kd.freshB (g := gb434) (o := .cells #[.int .i64 a2_0, .int .i64 a2_1] 45 (0, 0)) (mK BK434.out) k_ hn_)), Or.elim hk_ (fun hs_ => ((Kd.R_types (Kd.R_types (Kd.R_types (Kd.R_types (Kd.R_types (HO_434000.out) BK433.out (by decide)) BK434.out (by decide)) BK457.out (by decide)) BK466.out (by decide)) BK467.out (by decide)).1 k_ hs_.symm).1.1.2) (fun hn_ => (Kd.freshB (g := gb457) (o := .cells #[.slice Ao37 t449.length co37, .int .i64 t452, .int .i64 t453, .int .i64 t454, .bool t455] 26 (0, 0)) (mK BK457.out) k_ hn_)), Or.elim hk_ (fun hs_ => ((Kd.R_types (Kd.R_types (Kd.R_types (Kd.R_types (Kd.R_types (HO_434000.out) BK433.out (by decide)) BK434.out (by decide)) BK457.out (by decide)) BK466.out (by decide)) BK467.out (by decide)).1 k_ hs_.symm).1.2) (fun hn_ => (Kd.freshB (g := gb466) (o := .cells #[.slice Ao46 t458.length co46, .int .i64 t461, .int .i64 t462, .int .i64 t463, .bool t464] 26 (0, 0)) (mK BK466.out) k_ hn_)), Or.elim hk_ (fun hs_ => ((Kd.R_types (Kd.R_types (Kd.R_types (Kd.R_types (Kd.R_types (HO_434000.out) BK433.out (by decide)) BK434.out (by decide)) BK457.out (by decide)) BK466.out (by decide)) BK467.out (by decide)).1 k_ hs_.symm).2) (fun hn_ => (Kd.freshB (g := gb467) (o := .cells #[.slice none 0 0, .int .i64 0, .int .i64 0, .int .i64 0, .bool false] 26 (0, 0)) (mK BK467.out) k_ hn_))⟩)) (below_size (by repeat (first | (with_reducible first | exact HB.out | apply below_alloc | apply pw_below_drewN | apply below_drew1 | refine below_set ?_ GE433.out | refine below_set ?_ GE434.out | refine below_set ?_ GE457.out | refine below_set ?_ GE466.out | refine below_set ?_ GE467.out) | exact HB.out)))); have n5_ := aA (bB BK433.out hb); have n6_ := aA (bB BK434.out hb); have n7_ := aA (bB BK457.out hb); have n8_ := aA (bB BK466.out hb); have n9_ := aA (bB BK467.out hb); have n10_ := aA (below_step (by repeat (first | (with_reducible first | exact HB.out | apply below_alloc | apply pw_below_drewN | apply below_drew1 | refine below_set ?_ GE433.out | refine below_set ?_ GE434.out | refine below_set ?_ GE457.out | refine below_set ?_ GE466.out | refine below_set ?_ GE467.out) | exact HB.out)) hb); clear HO_3 HO_434000 HO_458000 HO_467000 BK433 BK434 BK457 BK466 BK467 HB; have HO_3 := n0_; have HO_434000 := n1_; have HO_458000 := n2_; have HO_467000 := n3_; have HO490 := n4_; have BK433 := n5_; have BK434 := n6_; have BK457 := n7_; have BK466 := n8_; have BK467 := n9_; have HB := n10_; clear n0_ n1_ n2_ n3_ n4_ n5_ n6_ n7_ n8_ n9_ n10_; (try clear hb); (try clear hb2); (try clear hk); (try clear hi); (try clear ho0)) | ((with_reducible refine gate_dst (N := 19) rfl ?_); refine box_event ?hg (N := 19) ?hd (cs := #[.slice none 0 0, .int .i64 0, .int .i64 0, .int .i64 0, .bool false]) (t := 26) ?hr ?_; (case hd => rfl); (case hg => rfl); (case hr => first | (go_simp; done) | (go_simp; rfl)); intro gb496 hg w257 hbox hb; have n0_ := aA (Kd.R_below (mR HO_3.out) hb); have n1_ := aA (Kd.R_below (mR HO_434000.out) hb); have n2_ := aA (Kd.V_below (Kd.V_elderB (by (with_reducible repeat (first | apply Kd.V_alloc | apply Kd.V_drewN | apply Kd.V_drew)); exact HO_458000.out) gb496 (Nat.le_of_eq hg.symm)) hb); have n3_ := aA (Kd.V_below (Kd.V_elderB (by (with_reducible repeat (first | apply Kd.V_alloc | apply Kd.V_drewN | apply Kd.V_drew)); exact HO_467000.out) gb496 (Nat.le_of_eq hg.symm)) hb); have n4_ := aA (Kd.V_below (Kd.V_elderB (by (with_reducible repeat (first | apply Kd.V_alloc | apply Kd.V_drewN | apply Kd.V_drew)); exact HO490.out) gb496 (Nat.le_of_eq hg.symm)) hb); have n5_ := aA (bB BK433.out hb); have n6_ := aA (bB BK434.out hb); have n7_ := aA (bB BK457.out hb); have n8_ := aA (bB BK466.out hb); have n9_ := aA (bB BK467.out hb); have n10_ := aA (below_step (by repeat (first | (with_reducible first | exact HB.out | apply below_alloc | apply pw_below_drewN | apply below_drew1 | refine below_set ?_ GE433.out | refine below_set ?_ GE434.out | refine below_set ?_ GE457.out | refine below_set ?_ GE466.out | refine below_set ?_ GE467.out) | exact HB.out)) hb); have n11_ := aA (hbox); have n12_ := aA ((by rw [hg]; exact (below_size (by repeat (first | (with_reducible first | exact HB.out | apply below_alloc | apply pw_below_drewN | apply below_drew1 | refine below_set ?_ GE433.out | refine below_set ?_ GE434.out | refine below_set ?_ GE457.out | refine below_set ?_ GE466.out | refine below_set ?_ GE467.out) | exact HB.out))) : w.heap.size ≤ gb496)); have n13_ := aA ((by rw [hg]; exact (below_size (by repeat (first | (with_reducible first | exact HB.out | apply below_alloc | apply pw_below_drewN | apply below_drew1 | refine below_set ?_ GE433.out | refine below_set ?_ GE434.out | refine below_set ?_ GE457.out | refine below_set ?_ GE466.out | refine below_set ?_ GE467.out) | exact HB.out))) : w.heap.size ≤ gb496)); have n14_ := aA ((bL hg BK433.out)); have n15_ := aA ((bG hg BK433.out)); have n16_ := aA ((bL hg BK434.out)); have n17_ := aA ((bG hg BK434.out)); have n18_ := aA ((bL hg BK457.out)); have n19_ := aA ((bG hg BK457.out)); have n20_ := aA ((bL hg BK466.out)); have n21_ := aA ((bG hg BK466.out)); have n22_ := aA ((bL hg BK467.out)); have n23_ := aA ((bG hg BK467.out)); clear HO_3 HO_434000 HO_458000 HO_467000 HO490 BK433 BK434 BK457 BK466 BK467 HB; have HO_3 := n0_; have HO_434000 := n1_; have HO_458000 := n2_; have HO_467000 := n3_; have HO490 := n4_; have BK433 := n5_; have BK434 := n6_; have BK457 := n7_; have BK466 := n8_; have BK467 := n9_; have HB := n10_; have BK496 := n11_; have GW496 := n12_; have GE496 := n13_; have NB433_496 := n14_; have NB496_433 := n15_; have NB434_496 := n16_; have NB496_434 := n17_; have NB457_496 := n18_; have NB496_457 := n19_; have NB466_496 := n20_; have NB496_466 := n21_; have NB467_496 := n22_; have NB496_467 := n23_; clear n0_ n1_ n2_ n3_ n4_ n5_ n6_ n7_ n8_ n9_ n10_ n11_ n12_ n13_ n14_ n15_ n16_ n17_ n18_ n19_ n20_ n21_ n22_ n23_ hb hbox hg; obtain ⟨Ao258, co258, eo258⟩ := Kd.V_slice HO490.out; subst eo258; have hnb259 := NB496_433.out; have hnc259 := NB433_496.out; have hnb260 := NB496_434.out; have hnc260 := NB434_496.out; have hnb261 := NB496_457.out; have hnc261 := NB457_496.out; have hnb262 := NB496_466.out; have hnc262 := NB466_496.out; have hnb263 := NB496_467.out; have hnc263 := NB467_496.out; obtain ⟨hcz264_0, hcz264_1, hcz264_2, hcz264_3, hcz264_4⟩ := bC5 BK496.out; obtain ⟨hfz264_0, hfz264_1, hfz264_2, hfz264_3, hfz264_4⟩ := bF5 BK496.out; have hnb265 := NB466_434.out; have hnc265 := NB434_466.out; have hnb266 := NB466_457.out; have hnc266 := NB457_466.out; have hnb267 := NB466_467.out; have hnc267 := NB467_466.out; obtain ⟨hcz268_0, hcz268_1, hcz268_2, hcz268_3, hcz268_4⟩ := bC5 BK466.out; obtain ⟨hfz268_0, hfz268_1, hfz268_2, hfz268_3, hfz268_4⟩ := bF5 BK466.out) | (go_at_call 16; (with_reducible refine (foghornref04_Same.calls kj193 _ _ t458 t461 t462 t463 t464 _ _ t488 t491 t492 t493 t494 t497 _ ?side1 ?side2 ?side3 ?side4 A250.out).mono ?_); (case side1 => refine (Kd.V_reads' (e := 9) (base := w.heap.size) (ok := fun k_ => ((some k_ ≠ (.slice Ao43 t442.length co43 : Value).ownBlock ∧ (k_ ≠ gb433 ∧ (k_ ≠ gb434 ∧ (k_ ≠ gb457 ∧ (k_ ≠ gb466 ∧ k_ ≠ gb467))))) ∧ k_ ≠ gb496)) (n := t458.length) (c := co46) ?_).2.2; exact (by (with_reducible repeat (first | apply Kd.V_alloc | apply Kd.V_drewN | apply Kd.V_drew)); exact (Kd.V_mono (Kd.V_far (p := ⟨gb496, 4, none⟩) (Kd.V_far (p := ⟨gb496, 3, none⟩) (Kd.V_far (p := ⟨gb496, 2, none⟩) (Kd.V_far (p := ⟨gb496, 1, none⟩) (Kd.V_far (p := ⟨gb496, 0, none⟩) (Kd.V_mono HO_467000.out (fun k_ hk => (⟨hk, hk.2⟩ : _ ∧ k_ ≠ gb496))) (fun _ hk => hk.2) (.slice Ao258 t488.length co258)) (fun _ hk => hk.2) (.int .i64 t491)) (fun _ hk => hk.2) (.int .i64 t492)) (fun _ hk => hk.2) (.int .i64 t493)) (fun _ hk => hk.2) (.bool t494)) (fun _ h_ => h_.1)))); (case side2 => exact (Kd.V_reads' HO_467000.out).2.1); (case side3 => refine (Kd.V_reads' (e := 9) (base := w.heap.size) (ok := fun k_ => ((some k_ ≠ (.slice Ao43 t442.length co43 : Value).ownBlock ∧ (k_ ≠ gb433 ∧ (k_ ≠ gb434 ∧ (k_ ≠ gb457 ∧ (k_ ≠ gb466 ∧ k_ ≠ gb467))))) ∧ k_ ≠ gb496)) (n := t488.length) (c := co258) ?_).2.2; exact (by (with_reducible repeat (first | apply Kd.V_alloc | apply Kd.V_drewN | apply Kd.V_drew)); exact (Kd.V_mono (Kd.V_far (p := ⟨gb496, 4, none⟩) (Kd.V_far (p := ⟨gb496, 3, none⟩) (Kd.V_far (p := ⟨gb496, 2, none⟩) (Kd.V_far (p := ⟨gb496, 1, none⟩) (Kd.V_far (p := ⟨gb496, 0, none⟩) (Kd.V_mono HO490.out (fun k_ hk => (⟨hk, hk.2⟩ : _ ∧ k_ ≠ gb496))) (fun _ hk => hk.2) (.slice Ao258 t488.length co258)) (fun _ hk => hk.2) (.int .i64 t491)) (fun _ hk => hk.2) (.int .i64 t492)) (fun _ hk => hk.2) (.int .i64 t493)) (fun _ hk => hk.2) (.bool t494)) (fun _ h_ => h_.1)))); (case side4 => exact (Kd.V_reads' HO490.out).2.1); rintro e w269 ⟨rfl, hb⟩; have n0_ := aA (Kd.R_below (by (with_reducible repeat (first | apply Kd.R_alloc | apply Kd.R_drewN | apply Kd.R_drew)); exact (Kd.R_mono (rF 4 (rF 3 (rF 2 (rF 1 (rF 0 (Kd.R_types HO_3.out BK496.out (by decide))))))) (fun _ h_ => h_.1))) hb); have n1_ := aA (Kd.R_below (by (with_reducible repeat (first | apply Kd.R_alloc | apply Kd.R_drewN | apply Kd.R_drew)); exact (Kd.R_mono (rF 4 (rF 3 (rF 2 (rF 1 (rF 0 (Kd.R_types HO_434000.out BK496.out (by decide))))))) (fun _ h_ => h_.1))) hb); have n2_ := aA (Kd.V_below (by (with_reducible repeat (first | apply Kd.V_alloc | apply Kd.V_drewN | apply Kd.V_drew)); exact (Kd.V_mono (Kd.V_far (p := ⟨gb496, 4, none⟩) (Kd.V_far (p := ⟨gb496, 3, none⟩) (Kd.V_far (p := ⟨gb496, 2, none⟩) (Kd.V_far (p := ⟨gb496, 1, none⟩) (Kd.V_far (p := ⟨gb496, 0, none⟩) (Kd.V_mono HO_458000.out (fun k_ hk => (⟨hk, hk.2⟩ : _ ∧ k_ ≠ gb496))) (fun _ hk => hk.2) (.slice Ao258 t488.length co258)) (fun _ hk => hk.2) (.int .i64 t491)) (fun _ hk => hk.2) (.int .i64 t492)) (fun _ hk => hk.2) (.int .i64 t493)) (fun _ hk => hk.2) (.bool t494)) (fun _ h_ => h_.1))) hb); have n3_ := aA (Kd.V_below (by (with_reducible repeat (first | apply Kd.V_alloc | apply Kd.V_drewN | apply Kd.V_drew)); exact (Kd.V_mono (Kd.V_far (p := ⟨gb496, 4, none⟩) (Kd.V_far (p := ⟨gb496, 3, none⟩) (Kd.V_far (p := ⟨gb496, 2, none⟩) (Kd.V_far (p := ⟨gb496, 1, none⟩) (Kd.V_far (p := ⟨gb496, 0, none⟩) (Kd.V_mono HO_467000.out (fun k_ hk => (⟨hk, hk.2⟩ : _ ∧ k_ ≠ gb496))) (fun _ hk => hk.2) (.slice Ao258 t488.length co258)) (fun _ hk => hk.2) (.int .i64 t491)) (fun _ hk => hk.2) (.int .i64 t492)) (fun _ hk => hk.2) (.int .i64 t493)) (fun _ hk => hk.2) (.bool t494)) (fun _ h_ => h_.1))) hb); have n4_ := aA (Kd.V_below (by (with_reducible repeat (first | apply Kd.V_alloc | apply Kd.V_drewN | apply Kd.V_drew)); exact (Kd.V_mono (Kd.V_far (p := ⟨gb496, 4, none⟩) (Kd.V_far (p := ⟨gb496, 3, none⟩) (Kd.V_far (p := ⟨gb496, 2, none⟩) (Kd.V_far (p := ⟨gb496, 1, none⟩) (Kd.V_far (p := ⟨gb496, 0, none⟩) (Kd.V_mono HO490.out (fun k_ hk => (⟨hk, hk.2⟩ : _ ∧ k_ ≠ gb496))) (fun _ hk => hk.2) (.slice Ao258 t488.length co258)) (fun _ hk => hk.2) (.int .i64 t491)) (fun _ hk => hk.2) (.int .i64 t492)) (fun _ hk => hk.2) (.int .i64 t493)) (fun _ hk => hk.2) (.bool t494)) (fun _ h_ => h_.1))) hb); have n5_ := aA (blk_below (g := gb433) (o := .cells #[.slice Ao25 t435.length co25, .int .i64 t438, .int .i64 t439, .int .i64 t440, .bool t441] 26 (0, 0)) (by (with_reducible repeat (first | refine blk_drewN ?_ _ | refine blk_drew ?_ | refine blk_alloc ?_ _)); refine blk_far ?_ NB433_496.out _; (with_reducible repeat (first | refine blk_drewN ?_ _ | refine blk_drew ?_ | refine blk_alloc ?_ _)); refine blk_far ?_ NB433_496.out _; (with_reducible repeat (first | refine blk_drewN ?_ _ | refine blk_drew ?_ | refine blk_alloc ?_ _)); refine blk_far ?_ NB433_496.out _; (with_reducible repeat (first | refine blk_drewN ?_ _ | refine blk_drew ?_ | refine blk_alloc ?_ _)); refine blk_far ?_ NB433_496.out _; (with_reducible repeat (first | refine blk_drewN ?_ _ | refine blk_drew ?_ | refine blk_alloc ?_ _)); refine blk_far ?_ NB433_496.out _; (with_reducible repeat (first | refine blk_drewN ?_ _ | refine blk_drew ?_ | refine blk_alloc ?_ _)); exact BK433.out) hb); have n6_ := aA (blk_below (g := gb434) (o := .cells #[.int .i64 a2_0, .int .i64 a2_1] 45 (0, 0)) (by (with_reducible repeat (first | refine blk_drewN ?_ _ | refine blk_drew ?_ | refine blk_alloc ?_ _)); refine blk_far ?_ NB434_496.out _; (with_reducible repeat (first | refine blk_drewN ?_ _ | refine blk_drew ?_ | refine blk_alloc ?_ _)); refine blk_far ?_ NB434_496.out _; (with_reducible repeat (first | refine blk_drewN ?_ _ | refine blk_drew ?_ | refine blk_alloc ?_ _)); refine blk_far ?_ NB434_496.out _; (with_reducible repeat (first | refine blk_drewN ?_ _ | refine blk_drew ?_ | refine blk_alloc ?_ _)); refine blk_far ?_ NB434_496.out _; (with_reducible repeat (first | refine blk_drewN ?_ _ | refine blk_drew ?_ | refine blk_alloc ?_ _)); refine blk_far ?_ NB434_496.out _; (with_reducible repeat (first | refine blk_drewN ?_ _ | refine blk_drew ?_ | refine blk_alloc ?_ _)); exact BK434.out) hb); have n7_ := aA (blk_below (g := gb457) (o := .cells #[.slice Ao37 t449.length co37, .int .i64 t452, .int .i64 t453, .int .i64 t454, .bool t455] 26 (0, 0)) (by (with_reducible repeat (first | refine blk_drewN ?_ _ | refine blk_drew ?_ | refine blk_alloc ?_ _)); refine blk_far ?_ NB457_496.out _; (with_reducible repeat (first | refine blk_drewN ?_ _ | refine blk_drew ?_ | refine blk_alloc ?_ _)); refine blk_far ?_ NB457_496.out _; (with_reducible repeat (first | refine blk_drewN ?_ _ | refine blk_drew ?_ | refine blk_alloc ?_ _)); refine blk_far ?_ NB457_496.out _; (with_reducible repeat (first | refine blk_drewN ?_ _ | refine blk_drew ?_ | refine blk_alloc ?_ _)); refine blk_far ?_ NB457_496.out _; (with_reducible repeat (first | refine blk_drewN ?_ _ | refine blk_drew ?_ | refine blk_alloc ?_ _)); refine blk_far ?_ NB457_496.out _; (with_reducible repeat (first | refine blk_drewN ?_ _ | refine blk_drew ?_ | refine blk_alloc ?_ _)); exact BK457.out) hb); have n8_ := aA (blk_below (g := gb466) (o := .cells #[.slice Ao46 t458.length co46, .int .i64 t461, .int .i64 t462, .int .i64 t463, .bool t464] 26 (0, 0)) (by (with_reducible repeat (first | refine blk_drewN ?_ _ | refine blk_drew ?_ | refine blk_alloc ?_ _)); refine blk_far ?_ NB466_496.out _; (with_reducible repeat (first | refine blk_drewN ?_ _ | refine blk_drew ?_ | refine blk_alloc ?_ _)); refine blk_far ?_ NB466_496.out _; (with_reducible repeat (first | refine blk_drewN ?_ _ | refine blk_drew ?_ | refine blk_alloc ?_ _)); refine blk_far ?_ NB466_496.out _; (with_reducible repeat (first | refine blk_drewN ?_ _ | refine blk_drew ?_ | refine blk_alloc ?_ _)); refine blk_far ?_ NB466_496.out _; (with_reducible repeat (first | refine blk_drewN ?_ _ | refine blk_drew ?_ | refine blk_alloc ?_ _)); refine blk_far ?_ NB466_496.out _; (with_reducible repeat (first | refine blk_drewN ?_ _ | refine blk_drew ?_ | refine blk_alloc ?_ _)); exact BK466.out) hb); have n9_ := aA (blk_below (g := gb467) (o := .cells #[.slice none 0 0, .int .i64 0, .int .i64 0, .int .i64 0, .bool false] 26 (0, 0)) (by (with_reducible repeat (first | refine blk_drewN ?_ _ | refine blk_drew ?_ | refine blk_alloc ?_ _)); refine blk_far ?_ NB467_496.out _; (with_reducible repeat (first | refine blk_drewN ?_ _ | refine blk_drew ?_ | refine blk_alloc ?_ _)); refine blk_far ?_ NB467_496.out _; (with_reducible repeat (first | refine blk_drewN ?_ _ | refine blk_drew ?_ | refine blk_alloc ?_ _)); refine blk_far ?_ NB467_496.out _; (with_reducible repeat (first | refine blk_drewN ?_ _ | refine blk_drew ?_ | refine blk_alloc ?_ _)); refine blk_far ?_ NB467_496.out _; (with_reducible repeat (first | refine blk_drewN ?_ _ | refine blk_drew ?_ | refine blk_alloc ?_ _)); refine blk_far ?_ NB467_496.out _; (with_reducible repeat (first | refine blk_drewN ?_ _ | refine blk_drew ?_ | refine blk_alloc ?_ _)); exact BK467.out) hb); have n10_ := aA (blk_below (g := gb496) (o := .cells #[.slice Ao258 t488.length co258, .int .i64 t491, .int .i64 t492, .int .i64 t493, .bool t494] 26 (0, 0)) (by (with_reducible repeat (first | refine blk_drewN ?_ _ | refine blk_drew ?_ | refine blk_alloc ?_ _)); have h_ := BK496.out; exact pK 4 (pK 3 (pK 2 (pK 1 (pK 0 (h_)))))) hb); have n11_ := aA (below_step (by repeat (first | (with_reducible first | exact HB.out | apply below_alloc | apply pw_below_drewN | apply below_drew1 | refine below_set ?_ GE433.out | refine below_set ?_ GE434.out | refine below_set ?_ GE457.out | refine below_set ?_ GE466.out | refine below_set ?_ GE467.out | refine below_set ?_ GE496.out) | exact HB.out)) hb); clear HO_3 HO_434000 HO_458000 HO_467000 HO490 BK433 BK434 BK457 BK466 BK467 BK496 HB; have HO_3 := n0_; have HO_434000 := n1_; have HO_458000 := n2_; have HO_467000 := n3_; have HO490 := n4_; have BK433 := n5_; have BK434 := n6_; have BK457 := n7_; have BK466 := n8_; have BK467 := n9_; have BK496 := n10_; have HB := n11_; clear n0_ n1_ n2_ n3_ n4_ n5_ n6_ n7_ n8_ n9_ n10_ n11_; (try clear hb); (try clear hb2); (try clear hk); (try clear hi)))
              go_ret
              exact ⟨by first | rfl | (simp [errW_none, errW_some] <;> rfl) | (simp only [← hji7, ← hji11]; first | rfl | (simp [errW_none, errW_some] <;> rfl)) | (simp [*, errW_none, errW_some] <;> rfl), by repeat (first | (with_reducible first | exact HB.out | apply below_alloc | apply pw_below_drewN | apply below_drew1 | refine below_set ?_ GE433.out | refine below_set ?_ GE434.out | refine below_set ?_ GE457.out | refine below_set ?_ GE466.out | refine below_set ?_ GE467.out | refine below_set ?_ GE496.out) | exact HB.out)⟩
             ·rw [if_neg c249] at H
              have c249b0 : (t465 == t495) = false := beq_eq_false_iff_ne.mpr c249
              have c249b1 : (t465 != t495) = true := bne_iff_ne.mpr c249
              exact absurd (Option.some.inj H) (by rw [hrt_]; decide)
            ·rw [if_neg c247] at H
             have c247b0 : (x16_193 == 0) = false := beq_eq_false_iff_ne.mpr c247
             have c247b1 : (x16_193 != 0) = true := bne_iff_ne.mpr c247
             by_cases c284 : t465 = x16_193
             ·rw [if_pos c284] at H
              have c284b0 : (t465 == x16_193) = true := beq_iff_eq.mpr c284
              have c284b1 : (t465 != x16_193) = false := bne_eq_false_iff_eq.mpr c284
              clear c284
              replace H := Option.bind_eq_some_iff.mp H
              obtain ⟨t498, A2850, H⟩ := H
              have A285 := aA A2850
              clear A2850
              obtain rfl := Option.some.inj H
              have hnb286 := NB466_433.out
              have hnc286 := NB433_466.out
              have hnb287 := NB466_434.out
              have hnc287 := NB434_466.out
              have hnb288 := NB466_457.out
              have hnc288 := NB457_466.out
              have hnb289 := NB466_467.out
              have hnc289 := NB467_466.out
              obtain ⟨hcz290_0, hcz290_1, hcz290_2, hcz290_3, hcz290_4⟩ := bC5 BK466.out
              obtain ⟨hfz290_0, hfz290_1, hfz290_2, hfz290_3, hfz290_4⟩ := bF5 BK466.out
              have hnb291 := NB467_433.out
              have hnc291 := NB433_467.out
              have hnb292 := NB467_434.out
              have hnc292 := NB434_467.out
              have hnb293 := NB467_457.out
              have hnc293 := NB457_467.out
              obtain ⟨hcz294_0, hcz294_1, hcz294_2, hcz294_3, hcz294_4⟩ := bC5 BK467.out
              obtain ⟨hfz294_0, hfz294_1, hfz294_2, hfz294_3, hfz294_4⟩ := bF5 BK467.out
              go_wp2_with (first | (go_at_call 16; (refine (foghornref04_Same.calls kj193 _ _ t458 t461 t462 t463 t464 _ _ ([] : List ByteArray) 0 0 0 false t498 _ ?side1 ?side2 ?side3 ?side4 A285.out).mono ?_); (case side1 => exact mC ((Kd.V_reads' HO_467000.out).2.2)); (case side2 => exact (Kd.V_reads' HO_467000.out).2.1); (case side3 => exact Kd.C_nil _ _); (case side4 => exact Nat.le_refl _); rintro e w295 ⟨rfl, hb⟩; have n0_ := aA (Kd.R_below (mR HO_3.out) hb); have n1_ := aA (Kd.R_below (mR HO_434000.out) hb); have n2_ := aA (Kd.V_below (by (with_reducible repeat (first | apply Kd.V_alloc | apply Kd.V_drewN | apply Kd.V_drew)); exact HO_458000.out) hb); have n3_ := aA (Kd.V_below (by (with_reducible repeat (first | apply Kd.V_alloc | apply Kd.V_drewN | apply Kd.V_drew)); exact HO_467000.out) hb); have n4_ := aA (bB BK433.out hb); have n5_ := aA (bB BK434.out hb); have n6_ := aA (bB BK457.out hb); have n7_ := aA (bB BK466.out hb); have n8_ := aA (bB BK467.out hb); have n9_ := aA (below_step (by repeat (first | (with_reducible first | exact HB.out | apply below_alloc | apply pw_below_drewN | apply below_drew1 | refine below_set ?_ GE433.out | refine below_set ?_ GE434.out | refine below_set ?_ GE457.out | refine below_set ?_ GE466.out | refine below_set ?_ GE467.out) | exact HB.out)) hb); clear HO_3 HO_434000 HO_458000 HO_467000 BK433 BK434 BK457 BK466 BK467 HB; have HO_3 := n0_; have HO_434000 := n1_; have HO_458000 := n2_; have HO_467000 := n3_; have BK433 := n4_; have BK434 := n5_; have BK457 := n6_; have BK466 := n7_; have BK467 := n8_; have HB := n9_; clear n0_ n1_ n2_ n3_ n4_ n5_ n6_ n7_ n8_ n9_; (try clear hb); (try clear hb2); (try clear hk); (try clear hi)))
              go_ret
              exact ⟨by first | rfl | (simp [errW_none, errW_some] <;> rfl) | (simp only [← hji7, ← hji11]; first | rfl | (simp [errW_none, errW_some] <;> rfl)) | (simp [*, errW_none, errW_some] <;> rfl), by repeat (first | (with_reducible first | exact HB.out | apply below_alloc | apply pw_below_drewN | apply below_drew1 | refine below_set ?_ GE433.out | refine below_set ?_ GE434.out | refine below_set ?_ GE457.out | refine below_set ?_ GE466.out | refine below_set ?_ GE467.out) | exact HB.out)⟩
             ·rw [if_neg c284] at H
              have c284b0 : (t465 == x16_193) = false := beq_eq_false_iff_ne.mpr c284
              have c284b1 : (t465 != x16_193) = true := bne_iff_ne.mpr c284
              try exact absurd (Option.some.inj H) (by rw [hrt_]; decide)
              all_goals
               obtain rfl := Option.some.inj H
               go_wp2
               go_ret
               exact ⟨by first | rfl | (simp [errW_none, errW_some] <;> rfl) | (simp only [← hji7, ← hji11]; first | rfl | (simp [errW_none, errW_some] <;> rfl)) | (simp [*, errW_none, errW_some] <;> rfl), by repeat (first | (with_reducible first | exact HB.out | apply below_alloc | apply pw_below_drewN | apply below_drew1 | refine below_set ?_ GE433.out | refine below_set ?_ GE434.out | refine below_set ?_ GE457.out | refine below_set ?_ GE466.out | refine below_set ?_ GE467.out) | exact HB.out)⟩
     ·replace c17 := Bool.eq_false_iff.mpr c17
      subst c17
      have H1 : (some false) = some r := by rw [if_neg (show ¬ (false = true) by decide)] at H; exact H
      clear H
      have H := H1
      clear H1
      exact absurd (Option.some.inj H) (by rw [hrt_]; decide)
    ·rw [if_neg c13] at H
     exact absurd H (by simp)
   ·rw [if_neg c12] at H
    exact absurd H (by simp)
  ·rw [if_neg c9] at H
   exact absurd H (by simp)
 ·rw [if_neg c8] at H
  exact absurd H (by simp)
end Go.Proofs.YtopaddpclipnjaaQ.P
namespace Go.Proofs.YtopaddpclipnjaaQ.P
open Go.RowKit Go.Proofs.YtopaddpclipnjaaW.PrintWords Go.Proofs.YtopaddpclipnjaaW.PrintLast Go.Proofs.YtopaddpclipnjaaW.PrintMore
attribute [local go_sem] max2_int min2_int max_two min_two max_three min_three max_four min_four
def foghornref02_Zeros.l0 : Nat → Int → ByteArray → Int → Option (ByteArray)
 | 0, _, _, _ => none
 | k + 1, x0, x3, x4 => if x4 < x0 then (if x3.size + 1 ≤ 9223372036854775807 then (foghornref02_Zeros.l0 k x0 (x3 ++ (⟨#[0]⟩ : ByteArray)) (wrap64 (x4 + 1))) else (none)) else (some x3)
def foghornref02_Zeros.f (k : Nat) (a0 : Int) : Option (ByteArray) := foghornref02_Zeros.l0 k a0 (⟨#[]⟩ : ByteArray) 0
theorem foghornref02_Zeros.mono_l : ∀ k, (∀ y0 y1 y2, LeO (foghornref02_Zeros.l0 k y0 y1 y2) (foghornref02_Zeros.l0 (k + 1) y0 y1 y2))
 | 0 => fun _ _ _ r h => by simp [foghornref02_Zeros.l0] at h
 | k + 1 => by
  have ih0 := foghornref02_Zeros.mono_l k
  ·intro y0 y1 y2
   unfold foghornref02_Zeros.l0
   repeat' first
   | (with_reducible exact ih0 _ _ _)
   | (with_reducible exact LeO.refl _)
   | (with_reducible exact LeO.none _)
   | (with_reducible refine LeO.ite ?_ ?_)
   | (with_reducible refine LeO.bind ?_ (fun _ => ?_))
   | exact ih0 _ _ _
   | exact LeO.none _
   | refine LeO.ite ?_ ?_
   | refine LeO.bind ?_ (fun _ => ?_)
theorem foghornref02_Zeros.mono : ∀ a0 k, LeO (foghornref02_Zeros.f k a0) (foghornref02_Zeros.f (k + 1) a0) := by
 intro a0 k
 have ih0 := foghornref02_Zeros.mono_l k
 unfold foghornref02_Zeros.f
 repeat' first
   | (with_reducible exact ih0 _ _ _)
   | (with_reducible exact LeO.refl _)
   | (with_reducible exact LeO.none _)
   | (with_reducible refine LeO.ite ?_ ?_)
   | (with_reducible refine LeO.bind ?_ (fun _ => ?_))
   | exact ih0 _ _ _
   | exact LeO.none _
   | refine LeO.ite ?_ ?_
   | refine LeO.bind ?_ (fun _ => ?_)
end Go.Proofs.YtopaddpclipnjaaQ.P
namespace Go.Proofs.YtopaddpclipnjaaQ.P
open Go.RowKit Go.Proofs.YtopaddpclipnjaaW.PrintWords Go.Proofs.YtopaddpclipnjaaW.PrintLast Go.Proofs.YtopaddpclipnjaaW.PrintMore
attribute [local go_sem] max2_int min2_int max_two min_two max_three min_three max_four min_four
def foghornref02_New.l0 : Nat → Int → Int → List ByteArray → Option (List ByteArray)
 | 0, _, _, _ => none
 | k + 1, x0, x4, x230000 => if x4 < x0 then ((foghornref02_Zeros.f k 128).bind fun t230 => (if x230000.length < 8796093022208 then (foghornref02_New.l0 k x0 (wrap64 (x4 + 1)) (x230000 ++ [t230])) else (none))) else (some x230000)
theorem foghornref02_New.mono_l : ∀ k, (∀ y0 y1 y2, LeO (foghornref02_New.l0 k y0 y1 y2) (foghornref02_New.l0 (k + 1) y0 y1 y2))
 | 0 => fun _ _ _ r h => by simp [foghornref02_New.l0] at h
 | k + 1 => by
  have ih0 := foghornref02_New.mono_l k
  ·intro y0 y1 y2
   unfold foghornref02_New.l0
   repeat' first
   | (with_reducible exact ih0 _ _ _)
   | (with_reducible exact foghornref02_Zeros.mono _ _)
   | (with_reducible exact LeO.refl _)
   | (with_reducible exact LeO.none _)
   | (with_reducible refine LeO.ite ?_ ?_)
   | (with_reducible refine LeO.bind ?_ (fun _ => ?_))
   | exact ih0 _ _ _
   | exact foghornref02_Zeros.mono _ _
   | exact LeO.none _
   | refine LeO.ite ?_ ?_
   | refine LeO.bind ?_ (fun _ => ?_)
end Go.Proofs.YtopaddpclipnjaaQ.P
namespace Go.Proofs.YtopaddpclipnjaaQ.P
open Go.RowKit Go.Proofs.YtopaddpclipnjaaW.PrintWords Go.Proofs.YtopaddpclipnjaaW.PrintMore Go.Proofs.Ytopaddpclipnjaa
theorem over_ext {X T : ByteArray} (hX : X.size = 128) (hT : T.size = 128) {k : Nat} (hk : k ≤ 128) : T.extract 0 k ++ X.extract k X.size = over X T k := by
  apply bytes_ext
  rw [over_list, ByteArray.data_append, Array.toList_append, ext_list, ext_list, List.drop_zero, Nat.sub_zero]
  have h2 : (X.data.toList.drop k).take (X.size - k) = X.data.toList.drop k := List.take_of_length_le (by rw [List.length_drop, len_data]; omega)
  rw [h2]
theorem rtear_l {xs : List ByteArray} (hlog : logB xs = true) {q : Int} (q0 : 0 ≤ q) (q1 : q < xs.length) {T : ByteArray} (hT : T.size = 128) {kk : Int} (k0 : 0 ≤ kk) (k1 : kk ≤ 128) (d : Nat) : ∀ (k i : Nat) (acc : List ByteArray), i + d = xs.length → d < k → acc.length = i →
    foghornref02_Tear.l0 k q T kk acc xs (xs.length : Int) i = some (acc ++ (xs.set q.toNat (over (sec xs q) T kk.toNat)).drop i) := by
  obtain ⟨n1, n2, _, hsz, _, _, hlen, a1, a2⟩ := logB_nums hlog
  induction d with
  | zero =>
    intro k i acc h hk ha
    obtain ⟨k, rfl⟩ : ∃ m, k = m + 1 := ⟨k - 1, by omega⟩
    simp only [foghornref02_Tear.l0]
    rw [if_neg (by omega), drop_end (by rw [List.length_set]; omega), List.append_nil]
  | succ d ih =>
    intro k i acc h hk ha
    obtain ⟨k, rfl⟩ : ∃ m, k = m + 1 := ⟨k - 1, by omega⟩
    have hi : i < xs.length := by omega
    have hs : (sec xs i).size = 128 := sec_size hlog (by omega) (by omega)
    have hd : (xs.set q.toNat (over (sec xs q) T kk.toNat)).drop i = (if (i : Int) = q then over (sec xs q) T kk.toNat else sec xs i) :: (xs.set q.toNat (over (sec xs q) T kk.toNat)).drop (i + 1) := by
      have hi2 : i < (xs.set q.toNat (over (sec xs q) T kk.toNat)).length := by rw [List.length_set]; exact hi
      rw [drop_cons hi2, ← sec_get hi2, sec_set q0 q1 i (by omega)]
    simp only [foghornref02_Tear.l0]
    rw [if_pos (by omega), if_pos (by omega), if_pos (by omega), rd_sec, w64s (by omega), hd]
    by_cases e : (i : Int) = q
    · have hz : (T.extract 0 (kk : Int).toNat).size + ((sec xs i).extract (kk : Int).toNat (sec xs i).size).size ≤ 9223372036854775807 := by
        rw [ByteArray.size_extract, ByteArray.size_extract]
        omega
      rw [if_pos e, if_pos k0, if_pos (by omega), if_pos (by omega), if_pos hz, if_pos (by omega), over_ext hs hT (by omega), ih k (i + 1) _ (by omega) (by omega) (by simp; omega), if_pos e, e]
      simp only [List.append_assoc, List.singleton_append]
    · rw [if_neg e, if_pos (by omega), ih k (i + 1) _ (by omega) (by omega) (by simp; omega), if_neg e]
      simp only [List.append_assoc, List.singleton_append]
theorem rtear_f {xs : List ByteArray} (hlog : logB xs = true) {q : Int} (q0 : 0 ≤ q) (q1 : q < xs.length) {T : ByteArray} (hT : T.size = 128) {kk : Int} (k0 : 0 ≤ kk) (k1 : kk ≤ 128) {k : Nat} (hk : 140 < k) :
    foghornref02_Tear.f k xs q T kk = some (tearL xs q T kk) := by
  have := (logB_nums hlog).2.1
  unfold foghornref02_Tear.f
  rw [tearL_set hlog q0 q1 hT k0 k1]
  have := rtear_l hlog q0 q1 hT k0 k1 xs.length k 0 [] (by omega) (by omega) rfl
  simpa using this
theorem rwrite_f {xs : List ByteArray} (hlog : logB xs = true) {q : Int} (q0 : 0 ≤ q) (q1 : q < xs.length) {T : ByteArray} (hT : T.size = 128) {k : Nat} (hk : 140 < k) :
    foghornref02_Write.f k xs q T = some (tearL xs q T 128) := by
  unfold foghornref02_Write.f
  rw [rtear_f hlog q0 q1 hT (by omega) (by omega) hk]
  rfl
theorem rseal_f {g no : Int} {p : ByteArray} (g1 : 1 ≤ g) (g2 : g ≤ 250) (n0 : 0 ≤ no) (n1 : no ≤ 64) (hp : p.size ≤ 96) : foghornref03_Seal.f g no p = some (sealT g no p) ∧ sealS g no p = sealT g no p ∧ (sealT g no p).size = 128 := by
  obtain ⟨hT, hTe⟩ := sealT_is g1 g2 n0 n1 hp
  refine ⟨?_, hTe, hT.size⟩
  unfold foghornref03_Seal.f
  rw [if_pos hp]
  rfl
theorem rwr_f {s : Sto} (hlog : logB s.xs = true) {q : Int} (q0 : 0 ≤ q) (q1 : q < s.xs.length) {T : ByteArray} (hT : T.size = 128) {f : Flt} (hf : fltB f = true) {k : Nat} (hk : 140 < k) :
    foghornref04_write.f k s.xs s.gen s.used s.top s.down q T f.kind f.k = some ((wrL s.xs q T f).1, s.gen, s.used, s.top, (if f.kind = 2 then true else s.down), (wrL s.xs q T f).2) := by
  have hfl : 0 ≤ f.kind ∧ f.kind ≤ 2 ∧ 0 ≤ f.k ∧ f.k ≤ 128 := by
    unfold fltB at hf
    simp only [Bool.and_eq_true, decide_eq_true_eq] at hf
    exact ⟨hf.1.1.1, hf.1.1.2, hf.1.2, hf.2⟩
  unfold foghornref04_write.f wrL
  by_cases k1 : f.kind = 1
  · rw [if_pos k1, if_pos k1, if_neg (by omega)]
  · rw [if_neg k1, if_neg k1]
    by_cases k2 : f.kind = 2
    · rw [if_pos k2, if_pos k2, rtear_f hlog q0 q1 hT hfl.2.2.1 hfl.2.2.2 hk, if_pos k2]
      rfl
    · rw [if_neg k2, if_neg k2, rwrite_f hlog q0 q1 hT hk, if_neg k2]
      rfl
theorem tearL_le (xs : List ByteArray) (i : Int) (t : ByteArray) (k : Int) : (tearL xs i t k).length ≤ xs.length := by
  unfold tearL
  split
  · simp
  · simp
theorem same_zero {k : Nat} (hk : 0 < k) : foghornref04_Same.f k Sto.zero.xs Sto.zero.gen Sto.zero.used Sto.zero.top Sto.zero.down [] 0 0 0 false = some true := by
  have := ssame_f Sto.zero Sto.zero (by decide) (k := k) hk
  rw [stoEq_self] at this
  exact this
theorem appS_len (s : Sto) (p : ByteArray) (f : Flt) : (appS s p f).1.xs.length ≤ s.xs.length := by
  unfold appS
  split
  · exact Nat.le_refl _
  · split
    · exact tearL_le _ _ _ _
    · exact tearL_le _ _ _ _
end Go.Proofs.YtopaddpclipnjaaQ.P
