/- Contract of foghornlaw03.whole. -/
import Derived.Test.YtpccdlpkaflioaaC03r
import Derived.Test.YtpccdlpkaflioaaM05
set_option linter.unusedVariables false
set_option linter.unusedSimpArgs false
namespace Go.Proofs.Ytpccdlpkaflioaa
open Go.RowKit
theorem zeros_size (k : Nat) : (ByteArray.mk (zeros k).toArray).size = k := (mk_size _).trans (zeros_len k)
def wholeB (s : ByteArray) : ByteArray := s.extract 0 128 ++ ⟨(zeros (128 - (s.extract 0 128).size)).toArray⟩
theorem wholeB_size (s : ByteArray) : (wholeB s).size = 128 := by
  unfold wholeB
  rw [ByteArray.size_append, zeros_size, ByteArray.size_extract]
  omega
set_option maxHeartbeats 2000000 in
theorem whole_to (s x : ByteArray) (w : World) (hs : s.size ≤ maxLen) (hx : Hid (x = wholeB s)) :
    Calls Try.prog 44 #[.string s] w fun e w' => e = .returned (.string x) ∧ w = w' := by
  have hx1 := hx.out
  unfold wholeB at hx1
  unfold maxLen at hs
  obtain ⟨y, hy⟩ : ∃ y, y = s.extract 0 128 := ⟨_, rfl⟩
  rw [← hy] at hx1
  obtain ⟨z, hz⟩ : ∃ z, z = ByteArray.mk (zeros (128 - y.size)).toArray := ⟨_, rfl⟩
  have hzs : z.size = 128 - y.size := by rw [hz]; exact zeros_size _
  have hys : y.size ≤ 128 := by rw [hy, ByteArray.size_extract]; omega
  rw [← hz] at hx1
  have hm : (128 : Int) - y.size = ((128 - y.size : Nat) : Int) := by omega
  have hm2 : wrap64 ((128 : Int) - y.size) = ((128 - y.size : Nat) : Int) := by unfold wrap64; omega
  have hk : ¬ 9223372036854775807 < y.size + z.size := by omega
  have HZ := Lib.hid hz
  have HX := Lib.hid hx1
  rcases Nat.lt_or_ge 128 s.size with c | c
  · have hsl : s.extract 0 128 = y := hy.symm
    clear hx1 hz hx hy hzs
    go_enter Try.func44, Try.ntmps44
    go_wp2_with fail
    refine (refZeros_to _ z HZ (by omega) _).mono ?_
    rintro e w2 ⟨rfl, rfl⟩
    go_wp2
    go_ret
    refine ⟨?_, rfl⟩
    rw [HX.out]
    rfl
  · have hsl : s = y := by rw [hy]; exact (ext0_all s 128 c).symm
    subst hsl
    clear hx1 hz hx hy hzs
    go_enter Try.func44, Try.ntmps44
    go_wp2_with fail
    refine (refZeros_to _ z HZ (by omega) _).mono ?_
    rintro e w2 ⟨rfl, rfl⟩
    go_wp2
    go_ret
    refine ⟨?_, rfl⟩
    rw [HX.out]
    rfl
end Go.Proofs.Ytpccdlpkaflioaa
