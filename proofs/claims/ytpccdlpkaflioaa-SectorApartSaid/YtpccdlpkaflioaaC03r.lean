/- Contracts of the references of layers 2 and 3 that make texts: Zeros, stamp, Seal, Open. -/
import Derived.Test.YtpccdlpkaflioaaC03b
set_option linter.unusedVariables false
set_option linter.unusedSimpArgs false
namespace Go.Proofs.Ytpccdlpkaflioaa
open Go.RowKit
theorem zeros_snoc (k : Nat) : zeros (k + 1) = zeros k ++ [0] := by rw [zeros_add]; rfl
theorem app_toArray (l m : List UInt8) : (ByteArray.mk l.toArray) ++ (ByteArray.mk m.toArray) = ByteArray.mk (l ++ m).toArray := by
  apply ByteArray.ext
  simp
theorem size_mk (l : List UInt8) : (ByteArray.mk l.toArray).size = l.length := List.size_toArray
theorem conv1 {P : Program} {src dst e : TypeId} (hs : P.underlying src = some (.slice e)) (he : P.underlying e = some (.int .u8)) (hd : P.underlying dst = some .string) {a : Int} {g : Nat} {W w1 : World} {fr : Nat × Nat}
    (hk : W.heap[g]? = some (.cells #[.int .u8 a] e fr)) (hb : Below W.heap.size W w1) : (convert src dst (.slice (some ⟨g, 0, none⟩) 1 1)).run P w1 = .ok (.string (strOfNums [a])) w1 := by
  refine run_convert_bytes_arg _ src e hs he _ 0 _ _ [a] rfl (fun i hi => ?_) dst hd
  have h1 : i < 1 := hi
  obtain rfl : i = 0 := by omega
  exact blk_cell (blk_below hb (blk_lt hk) hk) rfl
theorem refsum_to (t : ByteArray) (X : Int) (hX : X = crcMore 0 t.data.toList) (w : World) (ht : t.size ≤ maxLen) :
    Calls Try.prog 16 #[.string t] w fun e w' => e = .returned (.int .i64 X) ∧ w = w' := by
  rw [hX]
  exact refsum_any t w ht
theorem reffour_to (x : Int) (f : ByteArray) (w : World) (hf : f = ByteArray.mk (crcFour x).toArray) :
    Calls Try.prog 20 #[.int .i64 x] w fun e w' => e = .returned (.string f) ∧ Below w.heap.size w w' := by
  rw [hf]
  exact reffour_any x w
theorem refZeros_to (n : Nat) (z : ByteArray) (hz : Hid (z = ⟨(zeros n).toArray⟩)) (hn : n ≤ 1000000) (w : World) :
    Calls Try.prog 49 #[.int .i64 n] w fun e w' => e = .returned (.string z) ∧ w = w' := by
  go_enter Try.func49, Try.ntmps49
  go_wp2
  go_loop [3, 4] (fun s i => ∃ (k : Nat) (x : ByteArray), k ≤ n ∧ i = .int .i64 k ∧ s = .string x ∧ x.size = k ∧ Hid (x = ⟨(zeros k).toArray⟩)) (fun _ i => n - (intOf i).toNat)
  case atStart => exact ⟨0, ⟨#[]⟩, Nat.zero_le _, rfl, rfl, rfl, rfl⟩
  case round =>
    obtain ⟨k, x, hk, rfl, rfl, hs, hx⟩ := hrel
    by_cases hlt : k < n
    · have hn : ¬ 9223372036854775807 < x.size + 1 := by omega
      go_wp2
      go_round
      case rel =>
        refine ⟨k + 1, _, by omega, by go_num, rfl, ?_, ?_⟩
        · rw [ByteArray.size_append, hs]; rfl
        · show _ = _
          rw [hx.out, zeros_snoc, ← app_toArray]
      case measure => simp [intOf]; omega
    · obtain rfl : k = n := by omega
      go_wp2
      go_ret
      exact ⟨ret_str (by rw [hx.out, hz.out]), rfl⟩
theorem refstamp_to (gen no : Int) (st : ByteArray) (hst : Hid (st = ⟨(stampL gen no).toArray⟩)) (w : World) :
    Calls Try.prog 48 #[.int .i64 gen, .int .i64 no] w fun e w' => e = .returned (.string st) ∧ Below w.heap.size w w' := by
  have hc4 := fun (a b : Int) (W : World) => run_lit Try.underlying25 Try.underlying5 Try.underlying9 [a, b] W
  simp only [List.length_cons, List.length_nil, List.map_cons, List.map_nil, Nat.zero_add] at hc4
  go_enter Try.func48, Try.ntmps48
  go_wp2
  go_ret
  exact ⟨ret_str (by rw [hst.out]; rfl), bal (Below.refl _ _) _⟩
theorem refStamp_any (gen no : Int) (w : World) :
    Calls Try.prog 26 #[.int .i64 gen, .int .i64 no] w fun e w' => e = .returned (.bool (stampB gen no)) ∧ w = w' := by
  go_enter Try.func26, Try.ntmps26
  go_wp2
  all_goals
    go_ret
    refine ⟨ret_bool ?_, rfl⟩
    unfold stampB
    rw [Bool.eq_iff_iff]
    simp
    omega
set_option maxHeartbeats 1000000 in
theorem refSeal_to (gen no : Int) (p s : ByteArray) (hp : p.size ≤ 96) (hs : Hid (s = ⟨(sealL gen no (bytesOf p)).toArray⟩)) (w : World) :
    Calls Try.prog 27 #[.int .i64 gen, .int .i64 no, .string p] w fun e w' => e = .returned (.string s) ∧ Below w.heap.size w w' := by
  obtain ⟨st, hst⟩ : ∃ st, st = ByteArray.mk (stampL gen no).toArray := ⟨_, rfl⟩
  have hst2 : st.size = 2 := by rw [hst]; rfl
  have HST := Lib.hid hst
  clear hst
  obtain ⟨m, hm⟩ : ∃ m, m = 96 - p.size := ⟨_, rfl⟩
  have hm' : (96 : Int) - p.size = m := by omega
  obtain ⟨z, hz⟩ : ∃ z, z = ByteArray.mk (zeros m).toArray := ⟨_, rfl⟩
  have hzs : z.size = m := by rw [hz, size_mk, zeros_len]
  have HZ := Lib.hid hz
  clear hz
  obtain ⟨y, hy⟩ : ∃ y, y = ByteArray.mk (zeros 23).toArray := ⟨_, rfl⟩
  have hys : y.size = 23 := by rw [hy, size_mk, zeros_len]
  have HY := Lib.hid hy
  clear hy
  have hmle : m ≤ 96 := by omega
  have HM := Lib.hid hm
  clear hm
  have hc1 := fun (W : World) => conv1 (P := Try.prog) Try.underlying25 Try.underlying5 Try.underlying9 (g := W.heap.size) (W := W.alloc (.cells #[.int .u8 (p.size : Int)] 5)) (blk_new W _) (Below.refl _ _)
  have hc3 := fun (W : World) => conv1 (P := Try.prog) Try.underlying25 Try.underlying5 Try.underlying9 (g := W.heap.size) (W := (W.alloc (.cells #[.int .u8 (p.size : Int)] 5)).drew) (blk_new W _) (Below.refl _ _)
  obtain ⟨b, hb⟩ : ∃ b, b = strOfNums [(p.size : Int)] := ⟨_, rfl⟩
  simp only [← hb] at hc1 hc3
  have hbs : b.size = 1 := by rw [hb]; rfl
  have HB := Lib.hid hb
  clear hb
  have q1 : IntKind.u8.wrap (p.size : Int) = p.size := by rw [IntKind.wrap_u8]; omega
  have hn1 : ¬ 9223372036854775807 < 3 + p.size := by omega
  obtain ⟨X, hX⟩ : ∃ X, X = crcMore 0 (headL gen no (bytesOf p)) := ⟨_, rfl⟩
  obtain ⟨f, hf⟩ : ∃ f, f = ByteArray.mk (crcFour X).toArray := ⟨_, rfl⟩
  have hfs : f.size = 4 := by rw [hf]; rfl
  have hbl : b = ByteArray.mk [u8 p.size].toArray := by
    rw [HB.out, strOfNums_eq]
    unfold u8
    rw [show ((p.size : Int) % 256) = p.size by omega]
    rfl
  have hpe : p = ByteArray.mk (bytesOf p).toArray := rfl
  have hall : st ++ b ++ p ++ z = ByteArray.mk (headL gen no (bytesOf p)).toArray := by
    rw [HST.out, hbl, HZ.out, HM.out, hpe, app_toArray, app_toArray, ← hpe, app_toArray]
    unfold headL
    rw [show (bytesOf p).length = p.size from len_data p, List.append_assoc, List.append_assoc]
  have hhead : (st ++ b ++ p ++ z).data.toList = headL gen no (bytesOf p) := by
    rw [hall]
  have HF := Lib.hid hf
  have HX : Hid (X = crcMore 0 (st ++ b ++ p ++ z).data.toList) := by
    show _ = _
    rw [hX, hhead]
  have HMX : Hid ((st ++ b ++ p ++ z).size ≤ maxLen) := by
    show _ ≤ _
    simp only [ByteArray.size_append, maxLen]
    omega
  have HFIN : Hid (st ++ b ++ p ++ z ++ f ++ y ++ st = s) := by
    show _ = _
    rw [hall, hf, HY.out, HST.out, hs.out, app_toArray, app_toArray, app_toArray, hX]
    unfold sealL
    rw [List.append_assoc, List.append_assoc]
  clear hf hX hhead hbl hpe hall
  have hn3 : ¬ 9223372036854775807 < 3 + p.size + m + 4 := by omega
  have hn4 : ¬ 9223372036854775807 < 3 + p.size + m + 4 + 23 := by omega
  have hn5 : ¬ 9223372036854775807 < 3 + p.size + m + 4 + 23 + 2 := by omega
  have hn2 : ¬ 9223372036854775807 < 3 + p.size + m := by omega
  have q2 : IntKind.i64.wrap (m : Int) = m := by rw [IntKind.wrap_i64]; omega
  go_enter Try.func27, Try.ntmps27
  go_wp2_with fail
  go_region_law (first
    | (go_simp; go_at_call 48; refine (refstamp_to _ _ _ HST _).mono ?_; rintro e w1 ⟨rfl, hb1⟩; try (have hc2 := conv1 (P := Try.prog) Try.underlying25 Try.underlying5 Try.underlying9 (g := w.heap.size) (W := (w.alloc (.cells #[.int .u8 (p.size : Int)] 5)).drew) (blk_new w _) hb1; rw [← HB.out] at hc2))
    | (go_simp; go_at_call 49; refine (refZeros_to _ _ HZ (by omega) _).mono ?_; rintro e w2 ⟨rfl, rfl⟩))
  all_goals
    go_wp2_with (first
      | (go_at_call 16; refine (refsum_to _ X HX.out _ HMX.out).mono ?_; rintro e w' ⟨rfl, rfl⟩)
      | (go_at_call 20; refine (reffour_to X _ _ HF.out).mono ?_; rintro e w3 ⟨rfl, hb3⟩)
      | (go_at_call 49; refine (refZeros_to 23 _ HY (by omega) _).mono ?_; rintro e w' ⟨rfl, rfl⟩)
      | (go_at_call 48; refine (refstamp_to _ _ _ HST _).mono ?_; rintro e w4 ⟨rfl, hb4⟩))
  all_goals
    go_ret
    refine ⟨ret_str HFIN.out, ?_⟩
    repeat (first | exact Below.refl _ _ | assumption | refine bel ?_ (by assumption) | apply bdn | apply Below.drew | apply bal)
set_option maxHeartbeats 2000000 in
set_option maxRecDepth 100000 in
theorem refOpen_any (x : ByteArray) (w : World) (hmax : x.size ≤ maxLen) : Calls Try.prog 24 #[.string x] w (OpenPost x w) := by
  by_cases h128 : x.size = 128
  case neg =>
    have he : openE x = 2 := by unfold openE; rw [if_pos h128]
    have hn : ((x.size : Int) != 128) = true := by simp; omega
    have HE := Lib.hid he
    clear he h128
    go_enter Try.func24, Try.ntmps24
    go_wp2
    (try simp only [Exit.inBlock, Exit.then]); refine bodyPost_ret (results_tmp4 rfl _ _ _) rfl ?_
    exact openPost_bad HE.out (by decide) (Below.refl _ _)
  cases h1 : openA x
  · have he : openE x = 6 := by unfold openE; rw [if_neg (by simp [h128]), if_pos h1]
    have HE := Lib.hid he
    clear he
    unfold openA at h1
    go_enter Try.func24, Try.ntmps24
    go_wp2
    go_region
    go_wp2
    (try simp only [Exit.inBlock, Exit.then]); refine bodyPost_ret (results_tmp4 rfl _ _ _) rfl ?_
    exact openPost_bad HE.out (by decide) (Below.refl _ _).drew
  have hmx : (x.extract 0 99).size ≤ maxLen := ext_max x 99 hmax
  have hsum := fun W => refsum_any (x.extract 0 99) W hmx
  cases h2 : openB x
  · have he : openE x = 7 := by unfold openE; rw [if_neg (by simp [h128]), if_neg (by simp [h1]), if_pos h2]
    have HE := Lib.hid he
    have HS := Lib.hid hsum
    clear he hsum
    unfold openA at h1
    unfold openB at h2
    go_enter Try.func24, Try.ntmps24
    go_wp2
    go_region
    go_wp2
    go_region_law (first
      | (go_simp; go_at_call 16; refine (HS.out _).mono ?_; rintro e w5 ⟨rfl, rfl⟩)
      | (go_simp; go_at_call 20; refine (reffour_any _ _).mono ?_; rintro e w6 ⟨rfl, hb6⟩))
    go_wp2
    (try simp only [Exit.inBlock, Exit.then]); refine bodyPost_ret (results_tmp4 rfl _ _ _) rfl ?_
    exact openPost_bad HE.out (by decide) (bel (Below.refl _ _).drew.drew hb6)
  have b0 := (at8_get x 0 (by omega)).symm
  have b1 := (at8_get x 1 (by omega)).symm
  have b2 := (at8_get x 2 (by omega)).symm
  have r0 := at8_range x 0
  have r1 := at8_range x 1
  have r2 := at8_range x 2
  have q0 : IntKind.i64.wrap (at8 x 0) = at8 x 0 := by rw [IntKind.wrap_i64]; omega
  have q1 : IntKind.i64.wrap (at8 x 1) = at8 x 1 := by rw [IntKind.wrap_i64]; omega
  have q2 : IntKind.i64.wrap (at8 x 2) = at8 x 2 := by rw [IntKind.wrap_i64]; omega
  obtain ⟨r20, r21⟩ := r2
  have HS := Lib.hid hsum
  clear hsum
  have hstamp := fun W => refStamp_any (at8 x 0) (at8 x 1) W
  cases hst : stampB (at8 x 0) (at8 x 1)
  · rw [hst] at hstamp
    have he : openE x = 1 := by
      unfold openE
      rw [if_neg (by simp [h128]), if_neg (by simp [h1]), if_neg (by simp [h2])]
      split
      · rfl
      · rw [if_neg]
        intro hc
        unfold sealE at hc
        rw [if_pos hst] at hc
        exact absurd hc.1 (by decide)
    have HE := Lib.hid he
    have HT := Lib.hid hstamp
    clear he hstamp hst
    unfold openA at h1
    unfold openB at h2
    go_enter Try.func24, Try.ntmps24
    go_wp2
    go_region
    go_wp2
    go_region_law (first
      | (go_simp; go_at_call 16; refine (HS.out _).mono ?_; rintro e w5 ⟨rfl, rfl⟩)
      | (go_simp; go_at_call 20; refine (reffour_any _ _).mono ?_; rintro e w6 ⟨rfl, hb6⟩))
    go_wp2_with (go_at_call 26; refine (HT.out _).mono ?_; rintro e w5 ⟨rfl, rfl⟩)
    (try simp only [Exit.inBlock, Exit.then]); refine bodyPost_ret (results_tmp4 rfl _ _ _) rfl ?_
    exact openPost_bad HE.out (by decide) (bel (Below.refl _ _).drew.drew hb6)
  rw [hst] at hstamp
  by_cases hn : 96 < at8 x 2
  · have he : openE x = 1 := by unfold openE; rw [if_neg (by simp [h128]), if_neg (by simp [h1]), if_neg (by simp [h2]), if_pos hn]
    have HE := Lib.hid he
    have HT := Lib.hid hstamp
    clear he hstamp hst
    unfold openA at h1
    unfold openB at h2
    go_enter Try.func24, Try.ntmps24
    go_wp2
    go_region
    go_wp2
    go_region_law (first
      | (go_simp; go_at_call 16; refine (HS.out _).mono ?_; rintro e w5 ⟨rfl, rfl⟩)
      | (go_simp; go_at_call 20; refine (reffour_any _ _).mono ?_; rintro e w6 ⟨rfl, hb6⟩))
    go_wp2_with (go_at_call 26; refine (HT.out _).mono ?_; rintro e w5 ⟨rfl, rfl⟩)
    (try simp only [Exit.inBlock, Exit.then]); refine bodyPost_ret (results_tmp4 rfl _ _ _) rfl ?_
    exact openPost_bad HE.out (by decide) (bel (Below.refl _ _).drew.drew hb6)
  have hps : (partP x).size ≤ 96 := by
    unfold partP
    rw [ByteArray.size_extract]
    omega
  have hE0 : sealE (at8 x 0) (at8 x 1) (partP x) = 0 := by
    unfold sealE
    rw [hst, if_neg (by simp), if_pos hps]
  obtain ⟨S, hS⟩ : ∃ S, S = ByteArray.mk (sealL (at8 x 0) (at8 x 1) (bytesOf (partP x))).toArray := ⟨_, rfl⟩
  have hS0 : sealS (at8 x 0) (at8 x 1) (partP x) = S := by
    unfold sealS
    rw [if_pos ⟨hst, hps⟩, hS]
  have he : openE x = if S = x then 0 else 1 := by
    unfold openE
    rw [if_neg (by simp [h128]), if_neg (by simp [h1]), if_neg (by simp [h2]), if_neg hn, hE0, hS0]
    by_cases hc : S = x
    · rw [if_pos ⟨rfl, hc⟩, if_pos hc]
    · rw [if_neg (fun h => hc h.2), if_neg hc]
  have hn3 : 3 + at8 x 2 ≤ 128 := by omega
  have hn4 : 0 ≤ 3 + at8 x 2 := by omega
  have hsl : ∀ W, (Instr.slice 9 (.string x) (some (.int .i64 3)) (some (.int .i64 (3 + at8 x 2))) none).run Try.prog W = .ok (.string (partP x)) W := fun W =>
    run_slice_string W 9 x .i64 .i64 3 (3 + at8 x 2) Try.underlying9 (by omega) (by omega) (by omega)
  have HT := Lib.hid hstamp
  have HSS := Lib.hid hS
  have HPS := Lib.hid hps
  cases ht : (x.toList == S.toList)
  · have hne : openE x = 1 := by rw [he, if_neg (fun h => by rw [h, bytes_eq_self] at ht; exact absurd ht (by decide))]
    have HE := Lib.hid hne
    clear he hstamp hst hS hS0 hE0 hps hne
    unfold openA at h1
    unfold openB at h2
    go_enter Try.func24, Try.ntmps24
    go_wp2
    go_region
    go_wp2
    go_region_law (first
      | (go_simp; go_at_call 16; refine (HS.out _).mono ?_; rintro e w5 ⟨rfl, rfl⟩)
      | (go_simp; go_at_call 20; refine (reffour_any _ _).mono ?_; rintro e w6 ⟨rfl, hb6⟩))
    go_wp2_with (first
      | (go_at_call 26; refine (HT.out _).mono ?_; rintro e w5 ⟨rfl, rfl⟩)
      | (go_at_call 27; refine (refSeal_to _ _ _ S HPS.out HSS _).mono ?_; rintro e w7 ⟨rfl, hb7⟩))
    (try simp only [Exit.inBlock, Exit.then]); refine bodyPost_ret (results_tmp4 rfl _ _ _) rfl ?_
    exact openPost_bad HE.out (by decide) (bel (bel (Below.refl _ _).drew.drew hb6) hb7)
  · have hne : openE x = 0 := by rw [he, if_pos (bytes_of_eq ht).symm]
    have HE := Lib.hid hne
    clear he hstamp hst hS hS0 hE0 hps hne
    unfold openA at h1
    unfold openB at h2
    go_enter Try.func24, Try.ntmps24
    go_wp2
    go_region
    go_wp2
    go_region_law (first
      | (go_simp; go_at_call 16; refine (HS.out _).mono ?_; rintro e w5 ⟨rfl, rfl⟩)
      | (go_simp; go_at_call 20; refine (reffour_any _ _).mono ?_; rintro e w6 ⟨rfl, hb6⟩))
    go_wp2_with (first
      | (go_at_call 26; refine (HT.out _).mono ?_; rintro e w5 ⟨rfl, rfl⟩)
      | (go_at_call 27; refine (refSeal_to _ _ _ S HPS.out HSS _).mono ?_; rintro e w7 ⟨rfl, hb7⟩))
    go_quiet (fail)
    go_wp2
    (try simp only [Exit.inBlock, Exit.then]); refine bodyPost_ret (results_tmp4 rfl _ _ _) rfl ?_
    refine ⟨?_, bdn (bel (bel (Below.refl _ _).drew.drew hb6) hb7) _⟩
    unfold openG openN openP
    rw [if_pos HE.out, if_pos HE.out, if_pos HE.out, HE.out]
    rfl
end Go.Proofs.Ytpccdlpkaflioaa
