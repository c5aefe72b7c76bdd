/- Part 3 of a proof: contracts and plain laws of what the statement reaches. No condition. -/
import Derived.Laws.BitsLemmas
import Derived.Laws.Entries
import Derived.WalkKit
import Derived.Laws.BytesArg
import Derived.Test.YtndgollcganhmaaCodeGetsz1
import Derived.Test.YtndgollcganhmaaCodeGetsz2
set_option linter.unusedVariables false
set_option linter.unusedSimpArgs false
namespace Go.Proofs.Ytndgollcganhmaa
open Go.RowKit
def FA (g : Nat) (r : Rst) (w : World) : Prop := w.heap[g]? = some (.cells #[.string (tx r.1), .bool r.2] 81 (0, 0))
def FP (g : Nat) (r : Rst) (w w' : World) : Prop := FA g r w' ∧ w.grownBy w' (some g)
theorem FP.trans {g : Nat} {r s : Rst} {w w1 w2 : World} (h : FP g r w w1) (k : FP g s w1 w2) : FP g s w w2 := ⟨k.1, h.2.trans k.2⟩
theorem FP.here {g : Nat} {r : Rst} {w : World} (h : FA g r w) : FP g r w w := ⟨h, World.grownBy.refl _ _⟩
theorem tx_cut (l : List UInt8) (n : Nat) (h : n ≤ l.length) : (tx l).extract 0 n = tx (l.take n) := by
  apply ByteArray.ext
  apply Array.toList_inj.1
  simp [tx, ByteArray.data_extract]
theorem tx_drop (l : List UInt8) (n : Nat) : (tx l).extract n l.length = tx (l.drop n) := by
  apply ByteArray.ext
  apply Array.toList_inj.1
  simp [tx, ByteArray.data_extract]
  exact List.take_of_length_le (by simp)
theorem set_heap {w : World} {g j : Nat} {cs : Array Value} {T : TypeId} (h : w.heap[g]? = some (.cells cs T (0, 0))) (v : Value) : (w.setCell ⟨g, j, none⟩ v).heap[g]? = some (.cells (cs.setIfInBounds j v) T (0, 0)) := by
  obtain ⟨hlt, hk⟩ := Array.getElem?_eq_some_iff.1 h
  show (w.heap.modify g _)[g]? = _
  rw [Array.getElem?_eq_getElem (by rw [Array.size_modify]; exact hlt), Array.getElem_modify_self, hk]
  rfl
theorem gr_set {w w1 : World} {g j : Nat} (h : w.grownBy w1 (some g)) (v : Value) : w.grownBy (w1.setCell ⟨g, j, none⟩ v) (some g) := by
  have key : w1.grownBy (w1.setCell ⟨g, j, none⟩ v) (some g) := ⟨rfl, rfl, rfl, by simp [World.setCell], fun i _ hne => by
    have : i ≠ g := fun h => hne (by rw [h])
    simp [World.setCell, Array.getElem?_modify]
    intro h; exact absurd h.symm this⟩
  exact h.trans key
theorem grown_of {w w1 : World} (h : Below w.heap.size w w1) (k : Option Nat) : w.grownBy w1 k := ⟨h.os, h.tape, h.output, h.size, fun i hi _ => h.block i hi⟩
set_option maxHeartbeats 1000000 in
theorem take_any (g : Nat) (r : Rst) (n : Nat) (w : World) (h : FA g r w) (hn : n ≤ 255) (hl : r.1.length ≤ 100000) :
    Calls Try.prog 88 #[.pointer (some ⟨g, 0, none⟩), .int .i64 n] w fun e w' => e = .returned (.string (tx (takeF n r).1)) ∧ FP g (takeF n r).2 w w' := by
  obtain ⟨l, b⟩ := r
  have hs := tx_size l
  have c0 : w.cell? ⟨g, 0, none⟩ = some (.string (tx l)) := blk_cell h rfl
  have c1 : w.cell? ⟨g, 1, none⟩ = some (.bool b) := blk_cell h rfl
  have hgl := blk_lt h
  have hfz : ∀ j, w.frozen? ⟨g, j, none⟩ = false := fun j => Lib.frozen_of_heap h j
  have HH := Lib.hid h
  clear h
  simp only at hl
  have HR := Lib.hid fun W => Try.strings_Repeat (tx [0]) n W (by omega) (by rw [tx_size]; simp; omega)
  by_cases hlt : l.length < n
  · go_enter Try.func88, Try.ntmps88
    go_wp2_with fail
    refine (HR.out _).mono ?_
    rintro e w2 ⟨rfl, hb⟩
    have hh := set_heap (j := 1) (set_heap (j := 0) HH.out (.string ⟨#[]⟩)) (.bool true)
    have hg := gr_set (j := 1) (gr_set (j := 0) (World.grownBy.refl w (some g)) (.string ⟨#[]⟩)) (.bool true)
    go_wp2_with fail
    go_ret
    have e1 : takeF n (l, b) = (List.replicate n 0, ([], true)) := by simp [takeF, hlt]
    rw [e1]
    refine ⟨by rw [tx_data, repeat_zero]; rfl, (hb.block g (by simpa using hgl)).trans hh, hg.trans (grown_of hb _)⟩
  · go_enter Try.func88, Try.ntmps88
    go_wp2_with fail
    go_ret
    have e1 : takeF n (l, b) = (l.take n, (l.drop n, b)) := by simp [takeF, hlt]
    rw [e1]
    rw [tx_cut l n (by omega), tx_drop]
    exact ⟨rfl, set_heap (j := 0) HH.out _, gr_set (World.grownBy.refl _ _) _⟩
theorem tx_at (l : List UInt8) (i : Nat) (h : i < l.length) (h2 : i < (tx l).size) : (tx l)[i]'h2 = l[i] := by
  simp [tx, ByteArray.getElem_eq_getElem_data]
  try rfl
theorem take1_at (r : Rst) (h : 0 < (tx (takeF 1 r).1).size) : (((tx (takeF 1 r).1)[0]'h).toNat : Int) = (numF r).1 := by
  have hl := takeF_len 1 r
  rw [tx_at _ _ (by omega)]
  rw [numF_take]
  obtain ⟨c, hc⟩ : ∃ c, (takeF 1 r).1 = [c] := List.length_eq_one_iff.1 hl
  simp [hc]
set_option maxHeartbeats 1000000 in
theorem number_any (g : Nat) (r : Rst) (w : World) (h : FA g r w) (hl : r.1.length ≤ 100000) :
    Calls Try.prog 61 #[.pointer (some ⟨g, 0, none⟩)] w fun e w' => e = .returned (.int .i64 (numF r).1) ∧ FP g (numF r).2 w w' := by
  have HT := Lib.hid (take_any g r 1 w h (by omega) hl)
  have hgl := blk_lt h
  have hr : (takeF 1 r).2 = (numF r).2 := by rw [numF_take]
  rw [hr] at HT
  obtain ⟨s, hs, hsz, hat⟩ : ∃ s, s = tx (takeF 1 r).1 ∧ s.size = 1 ∧ ∀ h : 0 < s.size, ((s[0]'h).toNat : Int) = (numF r).1 := ⟨_, rfl, by rw [tx_size, takeF_len], take1_at r⟩
  rw [← hs] at HT
  clear hs h hr
  have hat0 := hat (by omega)
  have hle := numF_le r
  go_enter Try.func61, Try.ntmps61
  go_wp2_with fail
  refine HT.out.mono ?_
  rintro e w2 ⟨rfl, hp⟩
  go_wp2_with fail
  go_ret
  exact ⟨rfl, hp⟩
theorem or256 (m c : Int) (h0 : 0 ≤ m) (h1 : m < 1099511627776) (h2 : 0 ≤ c) (h3 : c < 256) : bits .or .i64 (m * 256) c = m * 256 + c :=
  bits_join .i64 62 (by decide) (fun n a b => by rw [show (2 : Int) ^ 62 = 4611686018427387904 by decide] at b; rw [IntKind.wrap_i64]; omega) 8 (m * 256) c (by omega) (by rw [show (2 : Int) ^ 8 = 256 by decide]; omega) (by rw [show (2 : Int) ^ 62 = 4611686018427387904 by decide]; omega) h2 h3 (by rw [show (2 : Int) ^ 62 = 4611686018427387904 by decide]; omega)
set_option maxHeartbeats 1000000 in
theorem ftime_any (g : Nat) (r : Rst) (w : World) (h : FA g r w) (hl : r.1.length ≤ 100000) :
    Calls Try.prog 62 #[.pointer (some ⟨g, 0, none⟩)] w fun e w' => e = .returned (.int .i64 (timeF 6 0 r).1) ∧ FP g (timeF 6 0 r).2 w w' := by
  have HH := Lib.hid h
  clear h
  go_enter Try.func62, Try.ntmps62
  go_wp2
  go_loopw [4, 3] (fun i m wr => ∃ k q : Nat, ∃ s : Rst, k ≤ 6 ∧ i = .int .i64 k ∧ m = .int .i64 q ∧ q < 256 ^ k ∧ s.1.length ≤ 100000 ∧ Hid (timeF (6 - k) q s = timeF 6 0 r) ∧ Hid (FP g s w wr)) (fun i _ _ => 6 - (intOf i).toNat)
  case atStart => exact ⟨0, 0, r, by omega, rfl, rfl, by decide, hl, Lib.hid rfl, Lib.hid (FP.here HH.out)⟩
  case round =>
    obtain ⟨k, q, s, hk, rfl, rfl, hq, hsl, HE, HF⟩ := hrel
    by_cases hlt : k < 6
    · have hq5 : q < 1099511627776 := Nat.lt_of_lt_of_le hq (Nat.pow_le_pow_right (n := 256) (by decide) (show k ≤ 5 by omega))
      have HN := Lib.hid (number_any g s wr HF.out.1 hsl)
      have hle := numF_le s
      have hor := or256 q (numF s).1 (by omega) (by omega) (by omega) (by omega)
      have hrest := numF_rest s
      have HE2 := Lib.hid (show timeF (6 - (k + 1)) (q * 256 + (numF s).1) (numF s).2 = timeF 6 0 r by rw [← HE.out, show 6 - k = (6 - (k + 1)) + 1 by omega]; rfl)
      have HQ := Lib.hid (show q * 256 + (numF s).1 < 256 ^ (k + 1) by rw [Nat.pow_succ]; omega)
      clear HE hq
      obtain ⟨c, hc⟩ : ∃ c, c = (numF s).1 := ⟨_, rfl⟩
      rw [← hc] at HN hle hor HE2 HQ
      clear hc
      go_wp2_with fail
      refine HN.out.mono ?_
      rintro e w2 ⟨rfl, hp⟩
      go_wp2_with fail
      refine ⟨⟨k + 1, q * 256 + c, (numF s).2, by omega, by go_num, by go_num, HQ.out, by omega, HE2, Lib.hid (HF.out.trans hp)⟩, by simp [intOf]; omega⟩
    · obtain rfl : k = 6 := by omega
      have hE : (q, s) = timeF 6 0 r := HE.out
      have hF := HF.out
      go_wp2
      go_ret
      rw [← hE]
      exact ⟨rfl, hF⟩
theorem FP.drew {g : Nat} {r : Rst} {w w1 : World} (h : FP g r w.drew w1) : FP g r w w1 := ⟨h.1, h.2.os, h.2.tape, h.2.output, h.2.size, h.2.block⟩
set_option maxHeartbeats 1000000 in
theorem ftext_any (g : Nat) (r : Rst) (w : World) (h : FA g r w) (hl : r.1.length ≤ 100000) :
    Calls Try.prog 89 #[.pointer (some ⟨g, 0, none⟩)] w fun e w' => e = .returned (.string (tx (textF r).1)) ∧ FP g (textF r).2 w w' := by
  have HN := Lib.hid fun W (h : FA g r W) => number_any g r W h hl
  have HT := Lib.hid fun W (h : FA g (numF r).2 W) => take_any g (numF r).2 (numF r).1 W h (numF_le r) (Nat.le_trans (numF_rest r) hl)
  have hgl := blk_lt h
  have c0 : w.cell? ⟨g, 0, none⟩ = some (.string (tx r.1)) := blk_cell h rfl
  have HH := Lib.hid h
  clear h
  unfold textF
  go_enter Try.func89, Try.ntmps89
  go_wp2_with fail
  go_region_law (first
    | (go_simp; go_at_call 61; refine (HN.out _ (show FA g r w.drew from HH.out)).mono ?_; rintro e w1 ⟨rfl, hp1⟩)
    | (go_simp; go_at_call 88; refine (HT.out _ hp1.1).mono ?_; rintro e w2 ⟨rfl, hp2⟩))
  all_goals (go_wp2_with fail; go_ret; exact ⟨rfl, (hp1.trans hp2).drew⟩)
theorem gr_then {w w1 w2 : World} {g : Nat} {k : Option Nat} (h : w.grownBy w1 (some g)) (h2 : w1.grownBy w2 k) (hk : ∀ j, k = some j → w.heap.size ≤ j) : w.grownBy w2 (some g) :=
  ⟨h2.os.trans h.os, h2.tape.trans h.tape, h2.output.trans h.output, Nat.le_trans h.size h2.size, fun i hi hne =>
    (h2.block i (Nat.lt_of_lt_of_le hi h.size) (fun e => by have := hk i e.symm; omega)).trans (h.block i hi hne)⟩
theorem infoLabF : (Try.prog.info? 41).map (fun i => (i.zero, i.size, i.bytes)) = some (some (.agg #[.string ⟨#[]⟩, .string ⟨#[]⟩]), 2, 32) := by kernel_rfl
theorem infoMatF : (Try.prog.info? 35).map (fun i => (i.zero, i.size, i.bytes)) = some (some (.agg #[.int .i64 0, .string ⟨#[]⟩, .string ⟨#[]⟩]), 3, 40) := by kernel_rfl
theorem FA.far {g : Nat} {r : Rst} {w w1 : World} {k : Option Nat} (h : FA g r w) (hg : w.grownBy w1 k) (hk : ∀ j, k = some j → g < j) : FA g r w1 :=
  (hg.block g (blk_lt h) (fun e => by have := hk g e.symm; omega)).trans h
theorem row_ne {w : World} {B g n sz : Nat} {e : TypeId} {v : Value} {xs : List Value} (h : w.ownsRow B e sz v n xs) (hg : g < B) : v.ownBlock = none ∨ v.ownBlock ≠ some g :=
  .inr fun e => by have := (h.lt g e).1; omega
theorem row_gt {w : World} {B g n sz : Nat} {e : TypeId} {v : Value} {xs : List Value} (h : w.ownsRow B e sz v n xs) (hg : g < B) : ∀ j, v.ownBlock = some j → g < j :=
  fun j e => by have := (h.lt j e).1; omega
theorem textF_rest (r : Rst) : (textF r).2.1.length ≤ r.1.length := Nat.le_trans (takeF_rest _ _) (numF_rest _)
theorem labsF_done (k : Nat) (l : List Lab) (s : Rst) (h : k = 0 ∨ s.2 = true) : labsF k l s = (l, s) := by
  cases k with
  | zero => rfl
  | succ k => simp [labsF, h.resolve_left (by omega)]
theorem labsF_next (k : Nat) (l : List Lab) (s : Rst) (h0 : 0 < k) (h : s.2 = false) : labsF k l s = labsF (k - 1) (l ++ [(labF s).1]) (labF s).2 := by
  obtain ⟨k, rfl⟩ : ∃ j, k = j + 1 := ⟨k - 1, by omega⟩
  simp [labsF, h]
theorem labsC_snoc (l : List Lab) (x : Lab) : labsC l ++ labC x = labsC (l ++ [x]) := by simp [labsC]
theorem labs_oneF (x : Lab) : ∀ u ∈ labC x, u.oneCell' = true := by simp [labC, Value.oneCell']
theorem mats_oneF (x : Mat) : ∀ u ∈ matC x, u.oneCell' = true := by simp [matC, Value.oneCell']
set_option maxHeartbeats 2000000 in
set_option maxRecDepth 100000 in
theorem flabels_any (g : Nat) (r : Rst) (w : World) (h : FA g r w) (hl : r.1.length ≤ 100000) :
    Calls Try.prog 63 #[.pointer (some ⟨g, 0, none⟩)] w fun e w' => ∃ v, e = .returned v ∧ Hid (w'.ownsRow w.heap.size 41 2 v (labsF (numF r).1 [] (numF r).2).1.length (labsC (labsF (numF r).1 [] (numF r).2).1)) ∧ FP g (labsF (numF r).1 [] (numF r).2).2 w w' := by
  have hgl := blk_lt h
  have HN := Lib.hid (number_any g r w h hl)
  have hr0 := numF_rest r
  have hn0 := numF_le r
  obtain ⟨R, hR⟩ : ∃ R, R = labsF (numF r).1 [] (numF r).2 := ⟨_, rfl⟩
  rw [← hR]
  have HRR := Lib.hid hR
  clear hR h
  obtain ⟨n0, hn⟩ : ∃ n, n = (numF r).1 := ⟨_, rfl⟩
  rw [← hn] at HN hn0 HRR
  clear hn
  go_enter Try.func63, Try.ntmps63
  go_wp2_with fail
  refine HN.out.mono ?_
  rintro e w1 ⟨rfl, hp⟩
  have HP := Lib.hid hp
  clear hp HN
  go_wp2_with fail
  go_loopw [4, 3] (fun i v wr => ∃ k : Nat, ∃ l : List Lab, ∃ s : Rst, i = .int .i64 k ∧ k + l.length ≤ 255 ∧ s.1.length ≤ 100000 ∧ Hid (R = labsF k l s) ∧ Hid (wr.ownsRow w.heap.size 41 2 v l.length (labsC l)) ∧ Hid (FP g s w wr)) (fun i _ _ => (intOf i).toNat)
  case atStart => exact ⟨n0, [], (numF r).2, rfl, by simpa using hn0, by omega, HRR, Lib.hid (World.ownsRow_nil _ _ _ _), HP⟩
  case round =>
    obtain ⟨k, l, s, rfl, hk, hsl, HE, HO, HF⟩ := hrel
    clear HP HRR
    have d1 : wr.cell? ⟨g, 1, none⟩ = some (.bool s.2) := blk_cell HF.out.1 rfl
    have hgr := blk_lt HF.out.1
    rcases Bool.eq_false_or_eq_true s.2 with hb | hb
    · rw [hb] at d1
      have hE := HE.out
      rw [labsF_done _ _ _ (.inr hb)] at hE
      by_cases h0 : 0 < k
      · go_wp2_with fail
        go_ret
        rw [hE]
        exact ⟨_, rfl, HO, HF.out⟩
      · go_wp2_with fail
        go_ret
        rw [hE]
        exact ⟨_, rfl, HO, HF.out⟩
    · rw [hb] at d1
      by_cases h0 : 0 < k
      · have hE := HE.out
        rw [labsF_next _ _ _ h0 hb] at hE
        have HE2 := Lib.hid hE
        clear hE HE
        have HT1 := Lib.hid (ftext_any g s wr HF.out.1 hsl)
        have hs2 := textF_rest s
        have hs3 := textF_rest (textF s).2
        have HT2 := Lib.hid fun W (h : FA g (textF s).2 W) => ftext_any g (textF s).2 W h (by omega)
        have hE3 : R = labsF (k - 1) (l ++ [⟨tx (textF s).1, tx (textF (textF s).2).1⟩]) (textF (textF s).2).2 := HE2.out
        obtain ⟨s2, hs2e⟩ : ∃ q, q = (textF s).2 := ⟨_, rfl⟩
        obtain ⟨n1, hn1⟩ : ∃ q, q = tx (textF s).1 := ⟨_, rfl⟩
        rw [← hs2e] at HT1 HT2 hE3 hs3 hs2
        rw [← hn1] at HT1 hE3
        obtain ⟨s3, hs3e⟩ : ∃ q, q = (textF s2).2 := ⟨_, rfl⟩
        obtain ⟨n2, hn2⟩ : ∃ q, q = tx (textF s2).1 := ⟨_, rfl⟩
        rw [← hs3e] at HT2 hE3 hs3
        rw [← hn2] at HT2 hE3
        have HE3 := Lib.hid hE3
        clear hs2e hn1 hs3e hn2 hE3 HE2
        have hsz := HF.out.2.size
        go_wp2_with fail
        refine HT1.out.mono ?_
        rintro e w2 ⟨rfl, hp⟩
        have HP2 := Lib.hid hp
        clear hp
        go_wp2_with fail
        refine (HT2.out w2 HP2.out.1).mono ?_
        rintro e w3 ⟨rfl, hp⟩
        have HP3 := Lib.hid (HP2.out.trans hp)
        have hsz3 := HP3.out.2.size
        have HO3 := Lib.hid (HO.out.kept HP3.out.2 (row_ne HO.out hgl))
        have HI := Lib.hid infoLabF
        clear hp HT1 HT2 HP2 HO
        go_wp2_with (refine ev_app1 rfl (.tmp 22) (.tmp 27) _ (by rfl) (.agg #[.string ⟨#[]⟩, .string ⟨#[]⟩]) 32 (by kernel_rfl) HI.out rfl (by omega) (by omega) [.string n1, .string n2] (by rfl) (by rfl) rfl (labs_oneF ⟨n1, n2⟩) HO3.out (by omega) (by omega) ?_; intro g1 cap1 w4 HO4 hB4 hlt4 hg4; have hP4 : FP g s3 w w4 := ⟨HP3.out.1.far hg4 (row_gt HO3.out hgl), gr_then (HF.out.trans HP3.out).2 hg4 (fun j e => ((HO3.out.lt j e).1))⟩; have HP4 := Lib.hid hP4; clear hP4)
        refine ⟨⟨k - 1, l ++ [⟨n1, n2⟩], s3, by go_num, by simp; omega, by omega, HE3, ?_, HP4⟩, by simp [intOf]; omega⟩
        have hO := HO4.out
        rw [show labsC l ++ [Value.string n1, Value.string n2] = labsC (l ++ [⟨n1, n2⟩]) from labsC_snoc l ⟨n1, n2⟩] at hO
        exact Lib.hid (by rw [List.length_append]; exact hO)
      · have hE := HE.out
        rw [labsF_done _ _ _ (.inl (by omega))] at hE
        go_wp2_with fail
        go_ret
        rw [hE]
        exact ⟨_, rfl, HO, HF.out⟩
theorem timeF_rest : ∀ (k n : Nat) (r : Rst), (timeF k n r).2.1.length ≤ r.1.length
  | 0, n, r => Nat.le_refl _
  | k + 1, n, r => Nat.le_trans (timeF_rest k _ _) (numF_rest r)
theorem FP.stay {g b : Nat} {r : Rst} {w w1 : World} {ob : Obj} (h : FP g r w w1) (hb : w.heap[b]? = some ob) (hne : b ≠ g) : w1.heap[b]? = some ob :=
  (h.2.block b (blk_lt hb) (fun e => hne (Option.some.inj e))).trans hb
theorem row_type {w : World} {B b n sz : Nat} {e T : TypeId} {v : Value} {xs : List Value} {cs : Array Value} {fr : Nat × Nat} (h : w.ownsRow B e sz v n xs) (hb : w.heap[b]? = some (.cells cs T fr)) (hT : T ≠ e) : v.ownBlock ≠ some b := by
  rcases h.2 with ⟨rfl, _⟩ | ⟨g, cap, cur, rfl, _, hg, _⟩
  · simp [Value.ownBlock]
  · intro h2
    obtain rfl : g = b := by simpa [Value.ownBlock] using h2
    rw [hb] at hg
    injection hg with hg
    injection hg with _ h3
    exact hT h3
theorem FP.set {g b j : Nat} {r : Rst} {w w1 : World} (h : FP g r w w1) (hb : b ≠ g) (hB : w.heap.size ≤ b) (u : Value) : FP g r w (w1.setCell ⟨b, j, none⟩ u) :=
  ⟨(Below.heap_setCell w1 ⟨b, j, none⟩ u g (fun e => hb e.symm)).trans h.1, gr_then h.2 (gr_set (World.grownBy.refl w1 (some b)) u) (fun i e => by obtain rfl := Option.some.inj e; exact hB)⟩
theorem row_set {w : World} {B b j n sz : Nat} {e : TypeId} {v : Value} {xs : List Value} (h : w.ownsRow B e sz v n xs) (hb : v.ownBlock ≠ some b) (u : Value) : (w.setCell ⟨b, j, none⟩ u).ownsRow B e sz v n xs :=
  h.kept (gr_set (World.grownBy.refl w (some b)) u) (.inr hb)
theorem matsF_done (k : Nat) (l : List Mat) (s : Rst) (h : k = 0 ∨ s.2 = true) : matsF k l s = (l, s) := by
  cases k with
  | zero => rfl
  | succ k => simp [matsF, h.resolve_left (by omega)]
theorem matsF_next (k : Nat) (l : List Mat) (s : Rst) (h0 : 0 < k) (h : s.2 = false) : matsF k l s = matsF (k - 1) (l ++ [(matF s).1]) (matF s).2 := by
  obtain ⟨k, rfl⟩ : ∃ j, k = j + 1 := ⟨k - 1, by omega⟩
  simp [matsF, h]
theorem matsC_snoc (l : List Mat) (x : Mat) : matsC l ++ matC x = matsC (l ++ [x]) := by simp [matsC]
set_option maxHeartbeats 4000000 in
set_option maxRecDepth 100000 in
theorem fhush_any (g : Nat) (r : Rst) (w : World) (h : FA g r w) (hl : r.1.length ≤ 100000) :
    Calls Try.prog 64 #[.pointer (some ⟨g, 0, none⟩)] w fun e w' => ∃ v, e = .returned (.agg #[.int .i64 (timeF 6 0 r).1, .int .i64 (timeF 6 0 (timeF 6 0 r).2).1, v])
      ∧ Hid (w'.ownsRow w.heap.size 35 3 v (matsF (numF (timeF 6 0 (timeF 6 0 r).2).2).1 [] (numF (timeF 6 0 (timeF 6 0 r).2).2).2).1.length (matsC (matsF (numF (timeF 6 0 (timeF 6 0 r).2).2).1 [] (numF (timeF 6 0 (timeF 6 0 r).2).2).2).1))
      ∧ FP g (matsF (numF (timeF 6 0 (timeF 6 0 r).2).2).1 [] (numF (timeF 6 0 (timeF 6 0 r).2).2).2).2 w w' := by
  have hgl := blk_lt h
  have hl1 := timeF_rest 6 0 r
  have HT1 := Lib.hid fun W (h : FA g r W) => ftime_any g r W h hl
  obtain ⟨fr, hfr⟩ : ∃ q, q = (timeF 6 0 r).1 := ⟨_, rfl⟩
  obtain ⟨s1, hs1⟩ : ∃ q, q = (timeF 6 0 r).2 := ⟨_, rfl⟩
  rw [← hfr, ← hs1] at HT1
  rw [← hfr, ← hs1]
  rw [← hs1] at hl1
  have hl2 := timeF_rest 6 0 s1
  have HT2 := Lib.hid fun W (h : FA g s1 W) => ftime_any g s1 W h (by omega)
  obtain ⟨tt, htt⟩ : ∃ q, q = (timeF 6 0 s1).1 := ⟨_, rfl⟩
  obtain ⟨s2, hs2⟩ : ∃ q, q = (timeF 6 0 s1).2 := ⟨_, rfl⟩
  rw [← htt, ← hs2] at HT2
  rw [← htt, ← hs2]
  rw [← hs2] at hl2
  have hl3 := numF_rest s2
  have hn0 := numF_le s2
  have HN := Lib.hid fun W (h : FA g s2 W) => number_any g s2 W h (by omega)
  obtain ⟨n0, hn⟩ : ∃ q, q = (numF s2).1 := ⟨_, rfl⟩
  obtain ⟨s3, hs3⟩ : ∃ q, q = (numF s2).2 := ⟨_, rfl⟩
  rw [← hn, ← hs3] at HN
  rw [← hn, ← hs3]
  rw [← hs3] at hl3
  rw [← hn] at hn0
  obtain ⟨R, hR⟩ : ∃ R, R = matsF n0 [] s3 := ⟨_, rfl⟩
  rw [← hR]
  have HRR := Lib.hid hR
  have HA := Lib.hid h
  clear hR h hfr hs1 htt hs2 hn hs3
  go_enter Try.func64, Try.ntmps64
  go_wp2_with fail
  refine (HT1.out _ (HA.out.far (World.grownBy_alloc w _ none) (by simp))).mono ?_
  rintro e w1 ⟨rfl, hp⟩
  have hZ := hp.stay (blk_new w (.cells #[.int .i64 0, .int .i64 0, .slice none 0 0] 48)) (by omega)
  have HP1 := Lib.hid (show FP g s1 w w1 from ⟨hp.1, gr_then (World.grownBy.refl w _) (World.grownBy_alloc w _ none) (by simp) |>.trans hp.2⟩)
  have HZ := Lib.hid hZ
  clear hp hZ HT1
  go_wp2_with fail
  refine (HT2.out _ HP1.out.1).mono ?_
  rintro e w2 ⟨rfl, hp⟩
  have hZ := hp.stay HZ.out (by omega)
  have HP2 := Lib.hid (HP1.out.trans hp)
  clear HZ
  have HZ := Lib.hid hZ
  clear hp hZ HT2
  have hsz1 := HP1.out.2.size
  have hsz2 := HP2.out.2.size
  go_wp2_with fail
  refine (HN.out _ (HP2.out.1.far (World.grownBy_alloc w2 _ none) (by simp))).mono ?_
  rintro e w3 ⟨rfl, hp⟩
  have hlt2 := blk_lt HZ.out
  have hZ := hp.stay ((Lib.alloc_old w2 (.cells #[.int .i64 fr, .int .i64 tt, .slice none 0 0] 48) w.heap.size hlt2).trans HZ.out) (by omega)
  have hY := hp.stay (blk_new w2 (.cells #[.int .i64 fr, .int .i64 tt, .slice none 0 0] 48)) (by omega)
  have HP3 := Lib.hid (show FP g s3 w w3 from ⟨hp.1, gr_then HP2.out.2 (World.grownBy_alloc w2 (.cells #[.int .i64 fr, .int .i64 tt, .slice none 0 0] 48) none) (by simp) |>.trans hp.2⟩)
  clear HZ
  have HZ := Lib.hid hZ
  have HY := Lib.hid hY
  clear hp hZ hY HN
  obtain ⟨hb, hhb⟩ : ∃ q, q = w2.heap.size := ⟨_, rfl⟩
  rw [← hhb] at HY
  simp only [← hhb]
  rw [← hhb] at hsz2 hlt2
  clear hhb
  go_wp2_with fail
  go_loopw [5] (fun i wr => ∃ k : Nat, ∃ l : List Mat, ∃ s : Rst, ∃ v : Value, i = .int .i64 k ∧ k + l.length ≤ 255 ∧ s.1.length ≤ 100000 ∧ Hid (R = matsF k l s) ∧ Hid (wr.ownsRow w.heap.size 35 3 v l.length (matsC l)) ∧ Hid (wr.heap[w.heap.size]? = some (.cells #[.int .i64 0, .int .i64 0, .slice none 0 0] 48 (0, 0))) ∧ Hid (wr.heap[hb]? = some (.cells #[.int .i64 fr, .int .i64 tt, v] 48 (0, 0))) ∧ Hid (FP g s w wr)) (fun i _ => (intOf i).toNat)
  case atStart => exact ⟨n0, [], s3, _, rfl, by simpa using hn0, by omega, HRR, Lib.hid (World.ownsRow_nil _ _ _ _), HZ, HY, HP3⟩
  case round =>
    obtain ⟨k, l, s, v, rfl, hk, hsl, HE, HO, HZ, HY, HF⟩ := hrel
    obtain ⟨A, c, rfl⟩ := row_form HO.out
    have d1 : wr.cell? ⟨g, 1, none⟩ = some (.bool s.2) := blk_cell HF.out.1 rfl
    have hgr := blk_lt HF.out.1
    have y0 : wr.cell? ⟨hb, 0, none⟩ = some (.int .i64 fr) := blk_cell HY.out rfl
    have y1 : wr.cell? ⟨hb, 1, none⟩ = some (.int .i64 tt) := blk_cell HY.out rfl
    have y2 : wr.cell? ⟨hb, 2, none⟩ = some (.slice A l.length c) := blk_cell HY.out rfl
    have z0 : wr.cell? ⟨w.heap.size, 0, none⟩ = some (.int .i64 0) := blk_cell HZ.out rfl
    have z1 : wr.cell? ⟨w.heap.size, 1, none⟩ = some (.int .i64 0) := blk_cell HZ.out rfl
    have z2 : wr.cell? ⟨w.heap.size, 2, none⟩ = some (.slice none 0 0) := blk_cell HZ.out rfl
    have hzr := row_type HO.out HZ.out (by decide)
    have zf := fun j => Lib.frozen_of_heap HZ.out j
    rcases Bool.eq_false_or_eq_true s.2 with hbb | hbb
    · rw [hbb] at d1
      have hE := HE.out
      rw [matsF_done _ _ _ (.inr hbb)] at hE
      by_cases h0 : 0 < k
      · skip
        go_wp2_with fail
        refine bodyPost_ret (v := .agg #[.int .i64 fr, .int .i64 tt, .slice A l.length c]) ?_ rfl ?_
        · simp [results, Try.results64, go_sem, z0, z1, z2]
        · rw [hE]
          exact ⟨_, rfl, Lib.hid (row_set (row_set (row_set HO.out hzr _) hzr _) hzr _), ((HF.out.set (by omega) (Nat.le_refl _) _).set (by omega) (Nat.le_refl _) _).set (by omega) (Nat.le_refl _) _⟩
      · skip
        go_wp2_with fail
        refine bodyPost_ret (v := .agg #[.int .i64 fr, .int .i64 tt, .slice A l.length c]) ?_ rfl ?_
        · simp [results, Try.results64, go_sem, z0, z1, z2]
        · rw [hE]
          exact ⟨_, rfl, Lib.hid (row_set (row_set (row_set HO.out hzr _) hzr _) hzr _), ((HF.out.set (by omega) (Nat.le_refl _) _).set (by omega) (Nat.le_refl _) _).set (by omega) (Nat.le_refl _) _⟩
    · rw [hbb] at d1
      by_cases h0 : 0 < k
      · have hE := HE.out
        rw [matsF_next _ _ _ h0 hbb] at hE
        have hE3 : R = matsF (k - 1) (l ++ [⟨(numF s).1, tx (textF (numF s).2).1, tx (textF (textF (numF s).2).2).1⟩]) (textF (textF (numF s).2).2).2 := hE
        have hq1 := numF_rest s
        have hq2 := textF_rest (numF s).2
        have hq3 := textF_rest (textF (numF s).2).2
        have hn1 := numF_le s
        have HM1 := Lib.hid (number_any g s wr HF.out.1 hsl)
        have HM2 := Lib.hid fun W (h : FA g (numF s).2 W) => ftext_any g (numF s).2 W h (by omega)
        have HM3 := Lib.hid fun W (h : FA g (textF (numF s).2).2 W) => ftext_any g (textF (numF s).2).2 W h (by omega)
        obtain ⟨s4, hs4⟩ : ∃ q, q = (numF s).2 := ⟨_, rfl⟩
        obtain ⟨kk, hkk⟩ : ∃ q, q = (numF s).1 := ⟨_, rfl⟩
        rw [← hs4] at HM1 HM2 HM3 hE3 hq1 hq2 hq3
        rw [← hkk] at HM1 hE3 hn1
        obtain ⟨s5, hs5⟩ : ∃ q, q = (textF s4).2 := ⟨_, rfl⟩
        obtain ⟨n1, hn1⟩ : ∃ q, q = tx (textF s4).1 := ⟨_, rfl⟩
        rw [← hs5] at HM2 HM3 hE3 hq2 hq3
        rw [← hn1] at HM2 hE3
        obtain ⟨s6, hs6⟩ : ∃ q, q = (textF s5).2 := ⟨_, rfl⟩
        obtain ⟨n2, hn2⟩ : ∃ q, q = tx (textF s5).1 := ⟨_, rfl⟩
        rw [← hs6] at HM3 hE3 hq3
        rw [← hn2] at HM3 hE3
        have HE3 := Lib.hid hE3
        clear hs4 hkk hs5 hn1 hs6 hn2 hE3 HE hE z0 z1 z2 zf y0 y1 y2 hzr
        have hsz := HF.out.2.size
        go_wp2_with fail
        refine HM1.out.mono ?_
        rintro e w4 ⟨rfl, hp⟩
        have HP4 := Lib.hid hp
        clear hp
        go_wp2_with fail
        refine (HM2.out w4 HP4.out.1).mono ?_
        rintro e w5 ⟨rfl, hp⟩
        have HP5 := Lib.hid (HP4.out.trans hp)
        clear hp HM1 HM2 HP4
        have hY5 := HP5.out.stay HY.out (by omega)
        have y5 : w5.cell? ⟨hb, 2, none⟩ = some (.slice A l.length c) := blk_cell hY5 rfl
        have HY5 := Lib.hid hY5
        clear hY5
        have HI := Lib.hid infoMatF
        go_wp2_with fail
        go_region_law (first
          | (go_simp; go_at_call 89; refine (HM3.out _ (show FA g s5 w5.drew from HP5.out.1)).mono ?_; rintro e w6 ⟨rfl, hp⟩; have hP6 : FP g s6 wr w6 := HP5.out.trans hp.drew; have hY6 := hP6.stay HY.out (by omega); have y6 : w6.cell? ⟨hb, 2, none⟩ = some (.slice A l.length c) := blk_cell hY6 rfl; have HP6 := Lib.hid hP6; have HY6 := Lib.hid hY6; have HO6 := Lib.hid (HO.out.kept hP6.2 (row_ne HO.out hgl)); have hb6 := blk_lt hY6; clear hp hP6 hY6; have hsz6 := HP6.out.2.size)
          | (refine st_app1 (W := w6) rfl (.tmp 33) (.tmp 39) _ (by rfl) (.agg #[.int .i64 0, .string ⟨#[]⟩, .string ⟨#[]⟩]) 40 (by kernel_rfl) HI.out rfl (by omega) (by omega) [.int .i64 kk, .string n1, .string n2] (by rfl) (by rfl) rfl (mats_oneF ⟨kk, n1, n2⟩) HO6.out (by omega) (by omega) ?_; intro g1 cap1 w7 HO7 hB7 hlt7 hg7; have hY7 := (hg7.block hb (blk_lt HY6.out) (fun e => row_type HO6.out HY6.out (by decide) e.symm)).trans HY6.out; have y7 := blk_cell hY7 (j := 2) rfl; have f7 := blk_free hY7 2; have hZ6 := HP6.out.stay HZ.out (by omega); have hZ7 := (hg7.block w.heap.size (blk_lt hZ6) (fun e => row_type HO6.out hZ6 (by decide) e.symm)).trans hZ6; have HY7 := Lib.hid hY7; have HZ7 := Lib.hid hZ7; have hP7 : FP g s6 w w7 := ⟨HP6.out.1.far hg7 (row_gt HO6.out hgl), gr_then (HF.out.trans HP6.out).2 hg7 (fun j e => ((HO6.out.lt j e).1))⟩; have HP7 := Lib.hid hP7; clear hY7 hZ6 hZ7 hP7))
        all_goals
          go_wp2_with fail
          have hO := HO7.out
          rw [show matsC l ++ [Value.int .i64 kk, Value.string n1, Value.string n2] = matsC (l ++ [⟨kk, n1, n2⟩]) from matsC_snoc l ⟨kk, n1, n2⟩] at hO
          have hne := row_type hO HY7.out (by decide)
          refine ⟨⟨k - 1, l ++ [⟨kk, n1, n2⟩], s6, _, by go_num, by simp; omega, by omega, HE3, Lib.hid (row_set (by rw [List.length_append]; exact hO) hne _), Lib.hid ((Below.heap_setCell w7 ⟨hb, 2, none⟩ _ w.heap.size (fun e => by have : w.heap.size = hb := e; omega)).trans HZ7.out), Lib.hid (set_heap (j := 2) HY7.out _), Lib.hid (HP7.out.set (by omega) (by omega) _)⟩, by simp [intOf]; omega⟩
      · have hE := HE.out
        rw [matsF_done _ _ _ (.inl (by omega))] at hE
        go_wp2_with fail
        refine bodyPost_ret (v := .agg #[.int .i64 fr, .int .i64 tt, .slice A l.length c]) ?_ rfl ?_
        · simp [results, Try.results64, go_sem, z0, z1, z2]
        · rw [hE]
          exact ⟨_, rfl, Lib.hid (row_set (row_set (row_set HO.out hzr _) hzr _) hzr _), ((HF.out.set (by omega) (Nat.le_refl _) _).set (by omega) (Nat.le_refl _) _).set (by omega) (Nat.le_refl _) _⟩
end Go.Proofs.Ytndgollcganhmaa
namespace Go.Proofs.Ytndgollcganhmaa
open Go.RowKit
def iter (f : Int → Int) : Nat → Int → Int
  | 0, r => r
  | k+1, r => f (iter f k r)
end Go.Proofs.Ytndgollcganhmaa
namespace Go.Proofs.Ytndgollcganhmaa
open Go.RowKit
theorem tx_nil {l : List UInt8} (h : l.isEmpty = true) : (tx l).toList = [] := by
  cases l with
  | nil => rw [ByteArray.toList_eq]; rfl
  | cons a l => simp at h
theorem tx_cons {l : List UInt8} (h : l.isEmpty = false) : ¬ (tx l).toList = [] := by
  cases l with
  | nil => simp at h
  | cons a l => rw [ByteArray.toList_eq]; simp [tx]
theorem set_bel {B b j : Nat} {w W : World} {u : Value} (h : Below B w W) (hb : B ≤ b) : Below B w (W.setCell ⟨b, j, none⟩ u) := h.setCell (p := ⟨b, j, none⟩) hb u
def getE (s : Rst) (rb : Bool) (x y : Value) : Ending := if (s.2 || !s.1.isEmpty || !rb) = true then .returned (.tuple #[x, .int .i64 13]) else .returned (.tuple #[y, .int .i64 0])
theorem getE1 {s : Rst} {rb : Bool} {x y : Value} (h : s.2 = true) : .returned (.tuple #[x, .int .i64 13]) = getE s rb x y := by simp [getE, h]
theorem getE2 {s : Rst} {rb : Bool} {x y : Value} (h : s.1.isEmpty = false) : .returned (.tuple #[x, .int .i64 13]) = getE s rb x y := by simp [getE, h]
theorem getE3 {s : Rst} {x y : Value} : .returned (.tuple #[x, .int .i64 13]) = getE s false x y := by simp [getE]
theorem getE4 {s : Rst} {x y : Value} (h : s.2 = false) (h2 : s.1.isEmpty = true) : .returned (.tuple #[y, .int .i64 0]) = getE s true x y := by simp only [getE, h, h2]; rfl
section
variable (g : Nat)
set_option maxHeartbeats 8000000 in
set_option maxRecDepth 100000 in
theorem get0_any (a0 : ByteArray) (w : World) (hl : a0.data.toList.length ≤ 100000) (hkk : (numF (a0.data.toList, false)).1 ≠ 1 ∧ (numF (a0.data.toList, false)).1 ≠ 2 ∧ (numF (a0.data.toList, false)).1 ≠ 3) (rb : Bool)
    (HR : ∀ W, Calls Try.prog 26 #[.agg (recC (numF (a0.data.toList, false)).1 (.slice none 0 0) 0 0 0 0 0 (.slice none 0 0) 0 0 (.slice none 0 0))] W fun e w' => e = .returned (.bool rb) ∧ Below W.heap.size W w') :
    Calls Try.prog 30 #[.string a0] w fun e w' => e = getE (numF (a0.data.toList, false)).2 rb (.agg (recC 0 (.slice none 0 0) 0 0 0 0 0 (.slice none 0 0) 0 0 (.slice none 0 0))) (.agg (recC (numF (a0.data.toList, false)).1 (.slice none 0 0) 0 0 0 0 0 (.slice none 0 0) 0 0 (.slice none 0 0))) ∧ Below w.heap.size w w' := by
  have hl0 : (numF (a0.data.toList, false)).2.1.length ≤ a0.data.toList.length := numF_rest (a0.data.toList, false)
  have HN := Lib.hid fun W (h : FA (w.heap.size + 1) (a0.data.toList, false) W) => number_any (w.heap.size + 1) (a0.data.toList, false) W h hl
  obtain ⟨k, hk⟩ : ∃ q, q = (numF (a0.data.toList, false)).1 := ⟨_, rfl⟩
  obtain ⟨s0, hs0⟩ : ∃ q, q = (numF (a0.data.toList, false)).2 := ⟨_, rfl⟩
  rw [← hk, ← hs0] at HN
  rw [← hk] at hkk
  rw [← hs0] at hl0
  have HR := Lib.hid HR
  rw [← hk] at HR
  rw [← hk, ← hs0]
  unfold recC at *
  clear hk hs0
  go_enter Try.func30, Try.ntmps30
  go_wp2_with fail
  refine (HN.out _ ?_).mono ?_
  case refine_1 =>
    have := blk_new (w.alloc (.cells (recC 0 (.slice none 0 0) 0 0 0 0 0 (.slice none 0 0) 0 0 (.slice none 0 0)) 50)) (.cells #[.string a0, .bool false] 81)
    rw [size_alloc] at this
    unfold FA
    rw [tx_of]
    exact this
  rintro e w1 ⟨rfl, hp⟩
  have hZ := hp.stay (blk_new1 w (.cells (recC 0 (.slice none 0 0) 0 0 0 0 0 (.slice none 0 0) 0 0 (.slice none 0 0)) 50) (.cells #[.string a0, .bool false] 81)) (by omega)
  have hsz1 := hp.2.size
  simp only [size_alloc] at hsz1
  have HP1 := Lib.hid hp
  have HZ := Lib.hid hZ
  clear hp hZ HN
  have hbw : Below w.heap.size w w1 := ⟨HP1.out.2.os, HP1.out.2.tape, HP1.out.2.output, by omega, fun i hi => (HP1.out.2.block i (by simp only [size_alloc]; omega) (by simp; omega)).trans ((Lib.alloc_old _ _ _ (by rw [size_alloc]; omega)).trans (Lib.alloc_old _ _ _ hi))⟩
  have HX := Lib.hid (blk_new w1 (.cells (recC k (.slice none 0 0) 0 0 0 0 0 (.slice none 0 0) 0 0 (.slice none 0 0)) 50))
  have hZ := (Lib.alloc_old w1 (.cells (recC k (.slice none 0 0) 0 0 0 0 0 (.slice none 0 0) 0 0 (.slice none 0 0)) 50) _ (blk_lt HZ.out)).trans HZ.out
  have HF := Lib.hid (HP1.out.1.far (World.grownBy_alloc w1 (.cells (recC k (.slice none 0 0) 0 0 0 0 0 (.slice none 0 0) 0 0 (.slice none 0 0)) 50) none) (by simp))
  have HB := Lib.hid (hbw.alloc (by omega) (.cells (recC k (.slice none 0 0) 0 0 0 0 0 (.slice none 0 0) 0 0 (.slice none 0 0)) 50))
  clear HZ hbw
  have HZ := Lib.hid hZ
  unfold recC at *
  clear hZ HP1
  go_upto_region 4 with fail
  refine name_world (fun W hW => ?_)
  rw [← hW] at HX HZ HF HB
  clear hW
  obtain ⟨r, hr⟩ : ∃ r, r = w1.heap.size := ⟨_, rfl⟩
  simp only [← hr]
  rw [← hr] at HX hsz1
  clear hr
  have k1 : ((k : Int) == 1) = false := by simp; omega
  have k2 : ((k : Int) == 2) = false := by simp; omega
  have k3 : ((k : Int) == 3) = false := by simp; omega
  have cg0 : W.cell? ⟨w.heap.size + 1, 0, none⟩ = some (.string (tx s0.1)) := blk_cell HF.out rfl
  have cg1 : W.cell? ⟨w.heap.size + 1, 1, none⟩ = some (.bool s0.2) := blk_cell HF.out rfl
  have hgW := blk_lt HF.out
  have zf := fun j => Lib.frozen_of_heap HZ.out j
  have z0 : W.cell? ⟨w.heap.size, 0, none⟩ = some (.int .i64 0) := blk_cell HZ.out rfl
  have z1 : W.cell? ⟨w.heap.size, 1, none⟩ = some (.slice none 0 0) := blk_cell HZ.out rfl
  have z2 : W.cell? ⟨w.heap.size, 2, none⟩ = some (.int .i64 0) := blk_cell HZ.out rfl
  have z3 : W.cell? ⟨w.heap.size, 3, none⟩ = some (.int .i64 0) := blk_cell HZ.out rfl
  have z4 : W.cell? ⟨w.heap.size, 4, none⟩ = some (.int .i64 0) := blk_cell HZ.out rfl
  have z5 : W.cell? ⟨w.heap.size, 5, none⟩ = some (.int .i64 0) := blk_cell HZ.out rfl
  have z6 : W.cell? ⟨w.heap.size, 6, none⟩ = some (.int .i64 0) := blk_cell HZ.out rfl
  have z7 : W.cell? ⟨w.heap.size, 7, none⟩ = some (.slice none 0 0) := blk_cell HZ.out rfl
  have z8 : W.cell? ⟨w.heap.size, 8, none⟩ = some (.int .i64 0) := blk_cell HZ.out rfl
  have z9 : W.cell? ⟨w.heap.size, 9, none⟩ = some (.int .i64 0) := blk_cell HZ.out rfl
  have z10 : W.cell? ⟨w.heap.size, 10, none⟩ = some (.slice none 0 0) := blk_cell HZ.out rfl
  have x0 : W.cell? ⟨r, 0, none⟩ = some (.int .i64 k) := blk_cell HX.out rfl
  have x1 : W.cell? ⟨r, 1, none⟩ = some (.slice none 0 0) := blk_cell HX.out rfl
  have x2 : W.cell? ⟨r, 2, none⟩ = some (.int .i64 0) := blk_cell HX.out rfl
  have x3 : W.cell? ⟨r, 3, none⟩ = some (.int .i64 0) := blk_cell HX.out rfl
  have x4 : W.cell? ⟨r, 4, none⟩ = some (.int .i64 0) := blk_cell HX.out rfl
  have x5 : W.cell? ⟨r, 5, none⟩ = some (.int .i64 0) := blk_cell HX.out rfl
  have x6 : W.cell? ⟨r, 6, none⟩ = some (.int .i64 0) := blk_cell HX.out rfl
  have x7 : W.cell? ⟨r, 7, none⟩ = some (.slice none 0 0) := blk_cell HX.out rfl
  have x8 : W.cell? ⟨r, 8, none⟩ = some (.int .i64 0) := blk_cell HX.out rfl
  have x9 : W.cell? ⟨r, 9, none⟩ = some (.int .i64 0) := blk_cell HX.out rfl
  have x10 : W.cell? ⟨r, 10, none⟩ = some (.slice none 0 0) := blk_cell HX.out rfl
  rcases Bool.eq_false_or_eq_true s0.2 with hb | hb
  · rw [hb] at cg1
    go_wp2_with fail
    refine bodyPost_ret (v := .tuple #[.agg #[.int .i64 0, .slice none 0 0, .int .i64 0, .int .i64 0, .int .i64 0, .int .i64 0, .int .i64 0, .slice none 0 0, .int .i64 0, .int .i64 0, .slice none 0 0], .int .i64 13]) ?_ rfl ?_
    · simp [results, Try.results30, go_sem, z0, z1, z2, z3, z4, z5, z6, z7, z8, z9, z10]
    · exact ⟨getE1 hb, by (with_reducible (repeat (refine set_bel ?_ (Nat.le_refl _)))); exact HB.out⟩
  · rw [hb] at cg1
    rcases Bool.eq_false_or_eq_true s0.1.isEmpty with he | he
    · have hne2 := tx_nil he
      go_wp2_with fail
      refine (HR.out _).mono ?_
      rintro e w9 ⟨rfl, hbR⟩
      have HZ9 := Lib.hid ((hbR.block _ (blk_lt HZ.out)).trans HZ.out)
      have HX9 := Lib.hid ((hbR.block _ (blk_lt HX.out)).trans HX.out)
      have hsz9 := hbR.size
      have HB9 := Lib.hid (HB.out.trans (hbR.mono HB.out.size))
      clear z0 z1 z2 z3 z4 z5 z6 z7 z8 z9 z10 x0 x1 x2 x3 x4 x5 x6 x7 x8 x9 x10
      clear hbR zf
      have zf := fun j => Lib.frozen_of_heap HZ9.out j
      have z0 : w9.cell? ⟨w.heap.size, 0, none⟩ = some (.int .i64 0) := blk_cell HZ9.out rfl
      have z1 : w9.cell? ⟨w.heap.size, 1, none⟩ = some (.slice none 0 0) := blk_cell HZ9.out rfl
      have z2 : w9.cell? ⟨w.heap.size, 2, none⟩ = some (.int .i64 0) := blk_cell HZ9.out rfl
      have z3 : w9.cell? ⟨w.heap.size, 3, none⟩ = some (.int .i64 0) := blk_cell HZ9.out rfl
      have z4 : w9.cell? ⟨w.heap.size, 4, none⟩ = some (.int .i64 0) := blk_cell HZ9.out rfl
      have z5 : w9.cell? ⟨w.heap.size, 5, none⟩ = some (.int .i64 0) := blk_cell HZ9.out rfl
      have z6 : w9.cell? ⟨w.heap.size, 6, none⟩ = some (.int .i64 0) := blk_cell HZ9.out rfl
      have z7 : w9.cell? ⟨w.heap.size, 7, none⟩ = some (.slice none 0 0) := blk_cell HZ9.out rfl
      have z8 : w9.cell? ⟨w.heap.size, 8, none⟩ = some (.int .i64 0) := blk_cell HZ9.out rfl
      have z9 : w9.cell? ⟨w.heap.size, 9, none⟩ = some (.int .i64 0) := blk_cell HZ9.out rfl
      have z10 : w9.cell? ⟨w.heap.size, 10, none⟩ = some (.slice none 0 0) := blk_cell HZ9.out rfl
      have x0 : w9.cell? ⟨r, 0, none⟩ = some (.int .i64 k) := blk_cell HX9.out rfl
      have x1 : w9.cell? ⟨r, 1, none⟩ = some (.slice none 0 0) := blk_cell HX9.out rfl
      have x2 : w9.cell? ⟨r, 2, none⟩ = some (.int .i64 0) := blk_cell HX9.out rfl
      have x3 : w9.cell? ⟨r, 3, none⟩ = some (.int .i64 0) := blk_cell HX9.out rfl
      have x4 : w9.cell? ⟨r, 4, none⟩ = some (.int .i64 0) := blk_cell HX9.out rfl
      have x5 : w9.cell? ⟨r, 5, none⟩ = some (.int .i64 0) := blk_cell HX9.out rfl
      have x6 : w9.cell? ⟨r, 6, none⟩ = some (.int .i64 0) := blk_cell HX9.out rfl
      have x7 : w9.cell? ⟨r, 7, none⟩ = some (.slice none 0 0) := blk_cell HX9.out rfl
      have x8 : w9.cell? ⟨r, 8, none⟩ = some (.int .i64 0) := blk_cell HX9.out rfl
      have x9 : w9.cell? ⟨r, 9, none⟩ = some (.int .i64 0) := blk_cell HX9.out rfl
      have x10 : w9.cell? ⟨r, 10, none⟩ = some (.slice none 0 0) := blk_cell HX9.out rfl
      cases rb
      · skip
        go_wp2_with fail
        refine bodyPost_ret (v := .tuple #[.agg #[.int .i64 0, .slice none 0 0, .int .i64 0, .int .i64 0, .int .i64 0, .int .i64 0, .int .i64 0, .slice none 0 0, .int .i64 0, .int .i64 0, .slice none 0 0], .int .i64 13]) ?_ rfl ?_
        · simp [results, Try.results30, go_sem, z0, z1, z2, z3, z4, z5, z6, z7, z8, z9, z10]
        · exact ⟨getE3, by (with_reducible (repeat (refine set_bel ?_ (Nat.le_refl _)))); exact HB9.out⟩
      · skip
        go_wp2_with fail
        refine bodyPost_ret (v := .tuple #[.agg #[.int .i64 k, .slice none 0 0, .int .i64 0, .int .i64 0, .int .i64 0, .int .i64 0, .int .i64 0, .slice none 0 0, .int .i64 0, .int .i64 0, .slice none 0 0], .int .i64 0]) ?_ rfl ?_
        · simp [results, Try.results30, go_sem, z0, z1, z2, z3, z4, z5, z6, z7, z8, z9, z10, x0, x1, x2, x3, x4, x5, x6, x7, x8, x9, x10]
        · exact ⟨getE4 hb he, by (with_reducible (repeat (refine set_bel ?_ (Nat.le_refl _)))); exact HB9.out⟩
    · have hne2 := tx_cons he
      go_wp2_with fail
      refine bodyPost_ret (v := .tuple #[.agg #[.int .i64 0, .slice none 0 0, .int .i64 0, .int .i64 0, .int .i64 0, .int .i64 0, .int .i64 0, .slice none 0 0, .int .i64 0, .int .i64 0, .slice none 0 0], .int .i64 13]) ?_ rfl ?_
      · simp [results, Try.results30, go_sem, z0, z1, z2, z3, z4, z5, z6, z7, z8, z9, z10]
      · exact ⟨getE2 he, by (with_reducible (repeat (refine set_bel ?_ (Nat.le_refl _)))); exact HB.out⟩
set_option maxHeartbeats 8000000 in
set_option maxRecDepth 100000 in
theorem get2_any (a0 : ByteArray) (w : World) (hl : a0.data.toList.length ≤ 100000) (hkk : (numF (a0.data.toList, false)).1 = 2) (rb : Bool)
    (HR : ∀ W A c, W.ownsRow w.heap.size 41 2 (.slice A (labsF (numF (numF (a0.data.toList, false)).2).1 [] (numF (numF (a0.data.toList, false)).2).2).1.length c) (labsF (numF (numF (a0.data.toList, false)).2).1 [] (numF (numF (a0.data.toList, false)).2).2).1.length (labsC (labsF (numF (numF (a0.data.toList, false)).2).1 [] (numF (numF (a0.data.toList, false)).2).2).1) → Calls Try.prog 26 #[.agg (recC 2 (.slice none 0 0) 0 0 0 0 0 (.slice A (labsF (numF (numF (a0.data.toList, false)).2).1 [] (numF (numF (a0.data.toList, false)).2).2).1.length c) 0 0 (.slice none 0 0))] W fun e w' => e = .returned (.bool rb) ∧ Below W.heap.size W w') :
    Calls Try.prog 30 #[.string a0] w fun e w' => ∃ A c, e = getE (labsF (numF (numF (a0.data.toList, false)).2).1 [] (numF (numF (a0.data.toList, false)).2).2).2 rb (.agg (recC 0 (.slice none 0 0) 0 0 0 0 0 (.slice none 0 0) 0 0 (.slice none 0 0))) (.agg (recC 2 (.slice none 0 0) 0 0 0 0 0 (.slice A (labsF (numF (numF (a0.data.toList, false)).2).1 [] (numF (numF (a0.data.toList, false)).2).2).1.length c) 0 0 (.slice none 0 0))) ∧ Hid (w'.ownsRow w.heap.size 41 2 (.slice A (labsF (numF (numF (a0.data.toList, false)).2).1 [] (numF (numF (a0.data.toList, false)).2).2).1.length c) (labsF (numF (numF (a0.data.toList, false)).2).1 [] (numF (numF (a0.data.toList, false)).2).2).1.length (labsC (labsF (numF (numF (a0.data.toList, false)).2).1 [] (numF (numF (a0.data.toList, false)).2).2).1)) ∧ Below w.heap.size w w' := by
  have hl0 : (numF (a0.data.toList, false)).2.1.length ≤ a0.data.toList.length := numF_rest (a0.data.toList, false)
  have HN := Lib.hid fun W (h : FA (w.heap.size + 1) (a0.data.toList, false) W) => number_any (w.heap.size + 1) (a0.data.toList, false) W h hl
  rw [hkk] at HN
  obtain ⟨s0, hs0⟩ : ∃ q, q = (numF (a0.data.toList, false)).2 := ⟨_, rfl⟩
  rw [← hs0] at HN HR hl0
  rw [← hs0]
  have HL := Lib.hid fun W (h : FA (w.heap.size + 1) s0 W) => flabels_any (w.heap.size + 1) s0 W h (by omega)
  obtain ⟨L, hL⟩ : ∃ q, q = (labsF (numF s0).1 [] (numF s0).2).1 := ⟨_, rfl⟩
  obtain ⟨s, hs⟩ : ∃ q, q = (labsF (numF s0).1 [] (numF s0).2).2 := ⟨_, rfl⟩
  rw [← hL] at HR
  rw [← hL, ← hs] at HL
  rw [← hL, ← hs]
  have HR := Lib.hid HR
  clear hkk hL hs
  unfold recC at *
  clear hs0
  go_enter Try.func30, Try.ntmps30
  go_wp2_with fail
  refine (HN.out _ ?_).mono ?_
  case refine_1 =>
    have := blk_new (w.alloc (.cells (recC 0 (.slice none 0 0) 0 0 0 0 0 (.slice none 0 0) 0 0 (.slice none 0 0)) 50)) (.cells #[.string a0, .bool false] 81)
    rw [size_alloc] at this
    unfold FA
    rw [tx_of]
    exact this
  rintro e w1 ⟨rfl, hp⟩
  have hZ := hp.stay (blk_new1 w (.cells (recC 0 (.slice none 0 0) 0 0 0 0 0 (.slice none 0 0) 0 0 (.slice none 0 0)) 50) (.cells #[.string a0, .bool false] 81)) (by omega)
  have hsz1 := hp.2.size
  simp only [size_alloc] at hsz1
  have HP1 := Lib.hid hp
  have HZ := Lib.hid hZ
  clear hp hZ HN
  have hbw : Below w.heap.size w w1 := ⟨HP1.out.2.os, HP1.out.2.tape, HP1.out.2.output, by omega, fun i hi => (HP1.out.2.block i (by simp only [size_alloc]; omega) (by simp; omega)).trans ((Lib.alloc_old _ _ _ (by rw [size_alloc]; omega)).trans (Lib.alloc_old _ _ _ hi))⟩
  have HX := Lib.hid (blk_new w1 (.cells (recC 2 (.slice none 0 0) 0 0 0 0 0 (.slice none 0 0) 0 0 (.slice none 0 0)) 50))
  have hZ := (Lib.alloc_old w1 (.cells (recC 2 (.slice none 0 0) 0 0 0 0 0 (.slice none 0 0) 0 0 (.slice none 0 0)) 50) _ (blk_lt HZ.out)).trans HZ.out
  have HF := Lib.hid (HP1.out.1.far (World.grownBy_alloc w1 (.cells (recC 2 (.slice none 0 0) 0 0 0 0 0 (.slice none 0 0) 0 0 (.slice none 0 0)) 50) none) (by simp))
  have HB := Lib.hid (hbw.alloc (by omega) (.cells (recC 2 (.slice none 0 0) 0 0 0 0 0 (.slice none 0 0) 0 0 (.slice none 0 0)) 50))
  clear HZ hbw
  have HZ := Lib.hid hZ
  unfold recC at *
  clear hZ HP1
  go_upto_region 4 with fail
  refine name_world (fun W hW => ?_)
  rw [← hW] at HX HZ HF HB
  clear hW
  obtain ⟨r, hr⟩ : ∃ r, r = w1.heap.size := ⟨_, rfl⟩
  simp only [← hr]
  rw [← hr] at HX hsz1
  clear hr
  go_wp2_with fail
  refine (HL.out W HF.out).mono ?_
  rintro e W1 ⟨v, rfl, HO, hp⟩
  have HO := Lib.hid (row_mono HO.out HB.out.size)
  have hZ := hp.stay HZ.out (by omega)
  have hX := hp.stay HX.out (by omega)
  have hzr := row_type HO.out hZ (by decide)
  have hxr := row_type HO.out hX (by decide)
  have hB := HB.out.grown hp.2 HB.out.size (fun k e => by obtain rfl := Option.some.inj e; omega)
  have xf := fun j => Lib.frozen_of_heap hX j
  have x7 := blk_cell hX (j := 7) rfl
  obtain ⟨A, c, rfl⟩ := row_form HO.out
  have HX1 := Lib.hid hX
  have HZ1 := Lib.hid hZ
  have HB1 := Lib.hid hB
  have HP1 := Lib.hid hp
  clear hX hZ hB hp HX HZ HB HF
  go_upto_region 17 with fail
  have HX := Lib.hid (set_heap (j := 7) HX1.out (.slice A L.length c))
  have HZ := Lib.hid ((Below.heap_setCell W1 ⟨r, 7, none⟩ (.slice A L.length c) w.heap.size (fun e => by have : w.heap.size = r := e; omega)).trans HZ1.out)
  have HF := Lib.hid (show FA (w.heap.size + 1) s (W1.setCell ⟨r, 7, none⟩ (.slice A L.length c)) from (Below.heap_setCell W1 ⟨r, 7, none⟩ (.slice A L.length c) (w.heap.size + 1) (fun e => by have : w.heap.size + 1 = r := e; omega)).trans HP1.out.1)
  have HB := Lib.hid (set_bel (j := 7) (u := .slice A L.length c) HB1.out (show w.heap.size ≤ r by omega))
  have HO := Lib.hid (row_set (j := 7) HO.out hxr (.slice A L.length c))
  clear HX1 HZ1 HB1 HP1 hxr
  refine name_world (fun W2 hW => ?_)
  rw [← hW] at HX HZ HF HB HO
  clear hW
  have cg0 : W2.cell? ⟨w.heap.size + 1, 0, none⟩ = some (.string (tx s.1)) := blk_cell HF.out rfl
  have cg1 : W2.cell? ⟨w.heap.size + 1, 1, none⟩ = some (.bool s.2) := blk_cell HF.out rfl
  have hgW := blk_lt HF.out
  have zf := fun j => Lib.frozen_of_heap HZ.out j
  have z0 : W2.cell? ⟨w.heap.size, 0, none⟩ = some (.int .i64 0) := blk_cell HZ.out rfl
  have z1 : W2.cell? ⟨w.heap.size, 1, none⟩ = some (.slice none 0 0) := blk_cell HZ.out rfl
  have z2 : W2.cell? ⟨w.heap.size, 2, none⟩ = some (.int .i64 0) := blk_cell HZ.out rfl
  have z3 : W2.cell? ⟨w.heap.size, 3, none⟩ = some (.int .i64 0) := blk_cell HZ.out rfl
  have z4 : W2.cell? ⟨w.heap.size, 4, none⟩ = some (.int .i64 0) := blk_cell HZ.out rfl
  have z5 : W2.cell? ⟨w.heap.size, 5, none⟩ = some (.int .i64 0) := blk_cell HZ.out rfl
  have z6 : W2.cell? ⟨w.heap.size, 6, none⟩ = some (.int .i64 0) := blk_cell HZ.out rfl
  have z7 : W2.cell? ⟨w.heap.size, 7, none⟩ = some (.slice none 0 0) := blk_cell HZ.out rfl
  have z8 : W2.cell? ⟨w.heap.size, 8, none⟩ = some (.int .i64 0) := blk_cell HZ.out rfl
  have z9 : W2.cell? ⟨w.heap.size, 9, none⟩ = some (.int .i64 0) := blk_cell HZ.out rfl
  have z10 : W2.cell? ⟨w.heap.size, 10, none⟩ = some (.slice none 0 0) := blk_cell HZ.out rfl
  have x0 : W2.cell? ⟨r, 0, none⟩ = some (.int .i64 2) := blk_cell HX.out rfl
  have x1 : W2.cell? ⟨r, 1, none⟩ = some (.slice none 0 0) := blk_cell HX.out rfl
  have x2 : W2.cell? ⟨r, 2, none⟩ = some (.int .i64 0) := blk_cell HX.out rfl
  have x3 : W2.cell? ⟨r, 3, none⟩ = some (.int .i64 0) := blk_cell HX.out rfl
  have x4 : W2.cell? ⟨r, 4, none⟩ = some (.int .i64 0) := blk_cell HX.out rfl
  have x5 : W2.cell? ⟨r, 5, none⟩ = some (.int .i64 0) := blk_cell HX.out rfl
  have x6 : W2.cell? ⟨r, 6, none⟩ = some (.int .i64 0) := blk_cell HX.out rfl
  have x7 : W2.cell? ⟨r, 7, none⟩ = some (.slice A L.length c) := blk_cell HX.out rfl
  have x8 : W2.cell? ⟨r, 8, none⟩ = some (.int .i64 0) := blk_cell HX.out rfl
  have x9 : W2.cell? ⟨r, 9, none⟩ = some (.int .i64 0) := blk_cell HX.out rfl
  have x10 : W2.cell? ⟨r, 10, none⟩ = some (.slice none 0 0) := blk_cell HX.out rfl
  rcases Bool.eq_false_or_eq_true s.2 with hb | hb
  · rw [hb] at cg1
    go_wp2_with fail
    refine bodyPost_ret (v := .tuple #[.agg #[.int .i64 0, .slice none 0 0, .int .i64 0, .int .i64 0, .int .i64 0, .int .i64 0, .int .i64 0, .slice none 0 0, .int .i64 0, .int .i64 0, .slice none 0 0], .int .i64 13]) ?_ rfl ?_
    · simp [results, Try.results30, go_sem, z0, z1, z2, z3, z4, z5, z6, z7, z8, z9, z10]
    · exact ⟨_, _, getE1 hb, Lib.hid (by (with_reducible (repeat (refine row_set ?_ hzr _))); exact HO.out), by (with_reducible (repeat (refine set_bel ?_ (Nat.le_refl _)))); exact HB.out⟩
  · rw [hb] at cg1
    rcases Bool.eq_false_or_eq_true s.1.isEmpty with he | he
    · have hne2 := tx_nil he
      go_wp2_with fail
      refine (HR.out W2 A c HO.out).mono ?_
      rintro e w9 ⟨rfl, hbR⟩
      have HZ9 := Lib.hid ((hbR.block _ (blk_lt HZ.out)).trans HZ.out)
      have HX9 := Lib.hid ((hbR.block _ (blk_lt HX.out)).trans HX.out)
      have hsz9 := hbR.size
      have HO9 := Lib.hid (row_bel HO.out hbR)
      have HB9 := Lib.hid (HB.out.trans (hbR.mono HB.out.size))
      clear z0 z1 z2 z3 z4 z5 z6 z7 z8 z9 z10 x0 x1 x2 x3 x4 x5 x6 x7 x8 x9 x10
      clear hbR zf
      have zf := fun j => Lib.frozen_of_heap HZ9.out j
      have z0 : w9.cell? ⟨w.heap.size, 0, none⟩ = some (.int .i64 0) := blk_cell HZ9.out rfl
      have z1 : w9.cell? ⟨w.heap.size, 1, none⟩ = some (.slice none 0 0) := blk_cell HZ9.out rfl
      have z2 : w9.cell? ⟨w.heap.size, 2, none⟩ = some (.int .i64 0) := blk_cell HZ9.out rfl
      have z3 : w9.cell? ⟨w.heap.size, 3, none⟩ = some (.int .i64 0) := blk_cell HZ9.out rfl
      have z4 : w9.cell? ⟨w.heap.size, 4, none⟩ = some (.int .i64 0) := blk_cell HZ9.out rfl
      have z5 : w9.cell? ⟨w.heap.size, 5, none⟩ = some (.int .i64 0) := blk_cell HZ9.out rfl
      have z6 : w9.cell? ⟨w.heap.size, 6, none⟩ = some (.int .i64 0) := blk_cell HZ9.out rfl
      have z7 : w9.cell? ⟨w.heap.size, 7, none⟩ = some (.slice none 0 0) := blk_cell HZ9.out rfl
      have z8 : w9.cell? ⟨w.heap.size, 8, none⟩ = some (.int .i64 0) := blk_cell HZ9.out rfl
      have z9 : w9.cell? ⟨w.heap.size, 9, none⟩ = some (.int .i64 0) := blk_cell HZ9.out rfl
      have z10 : w9.cell? ⟨w.heap.size, 10, none⟩ = some (.slice none 0 0) := blk_cell HZ9.out rfl
      have x0 : w9.cell? ⟨r, 0, none⟩ = some (.int .i64 2) := blk_cell HX9.out rfl
      have x1 : w9.cell? ⟨r, 1, none⟩ = some (.slice none 0 0) := blk_cell HX9.out rfl
      have x2 : w9.cell? ⟨r, 2, none⟩ = some (.int .i64 0) := blk_cell HX9.out rfl
      have x3 : w9.cell? ⟨r, 3, none⟩ = some (.int .i64 0) := blk_cell HX9.out rfl
      have x4 : w9.cell? ⟨r, 4, none⟩ = some (.int .i64 0) := blk_cell HX9.out rfl
      have x5 : w9.cell? ⟨r, 5, none⟩ = some (.int .i64 0) := blk_cell HX9.out rfl
      have x6 : w9.cell? ⟨r, 6, none⟩ = some (.int .i64 0) := blk_cell HX9.out rfl
      have x7 : w9.cell? ⟨r, 7, none⟩ = some (.slice A L.length c) := blk_cell HX9.out rfl
      have x8 : w9.cell? ⟨r, 8, none⟩ = some (.int .i64 0) := blk_cell HX9.out rfl
      have x9 : w9.cell? ⟨r, 9, none⟩ = some (.int .i64 0) := blk_cell HX9.out rfl
      have x10 : w9.cell? ⟨r, 10, none⟩ = some (.slice none 0 0) := blk_cell HX9.out rfl
      cases rb
      · skip
        go_wp2_with fail
        refine bodyPost_ret (v := .tuple #[.agg #[.int .i64 0, .slice none 0 0, .int .i64 0, .int .i64 0, .int .i64 0, .int .i64 0, .int .i64 0, .slice none 0 0, .int .i64 0, .int .i64 0, .slice none 0 0], .int .i64 13]) ?_ rfl ?_
        · simp [results, Try.results30, go_sem, z0, z1, z2, z3, z4, z5, z6, z7, z8, z9, z10]
        · exact ⟨_, _, getE3, Lib.hid (by (with_reducible (repeat (refine row_set ?_ hzr _))); exact HO9.out), by (with_reducible (repeat (refine set_bel ?_ (Nat.le_refl _)))); exact HB9.out⟩
      · skip
        go_wp2_with fail
        refine bodyPost_ret (v := .tuple #[.agg #[.int .i64 2, .slice none 0 0, .int .i64 0, .int .i64 0, .int .i64 0, .int .i64 0, .int .i64 0, .slice A L.length c, .int .i64 0, .int .i64 0, .slice none 0 0], .int .i64 0]) ?_ rfl ?_
        · simp [results, Try.results30, go_sem, z0, z1, z2, z3, z4, z5, z6, z7, z8, z9, z10, x0, x1, x2, x3, x4, x5, x6, x7, x8, x9, x10]
        · exact ⟨_, _, getE4 hb he, Lib.hid (by (with_reducible (repeat (refine row_set ?_ hzr _))); exact HO9.out), by (with_reducible (repeat (refine set_bel ?_ (Nat.le_refl _)))); exact HB9.out⟩
    · have hne2 := tx_cons he
      go_wp2_with fail
      refine bodyPost_ret (v := .tuple #[.agg #[.int .i64 0, .slice none 0 0, .int .i64 0, .int .i64 0, .int .i64 0, .int .i64 0, .int .i64 0, .slice none 0 0, .int .i64 0, .int .i64 0, .slice none 0 0], .int .i64 13]) ?_ rfl ?_
      · simp [results, Try.results30, go_sem, z0, z1, z2, z3, z4, z5, z6, z7, z8, z9, z10]
      · exact ⟨_, _, getE2 he, Lib.hid (by (with_reducible (repeat (refine row_set ?_ hzr _))); exact HO.out), by (with_reducible (repeat (refine set_bel ?_ (Nat.le_refl _)))); exact HB.out⟩
set_option maxHeartbeats 8000000 in
set_option maxRecDepth 100000 in
theorem get3_any (a0 : ByteArray) (w : World) (hl : a0.data.toList.length ≤ 100000) (hkk : (numF (a0.data.toList, false)).1 = 3) (s0 : Rst) (hs0 : s0 = (numF (a0.data.toList, false)).2)
    (fr tt : Nat) (hfr : fr = (timeF 6 0 s0).1) (htt : tt = (timeF 6 0 (timeF 6 0 s0).2).1) (L : List Mat) (s : Rst) (hL : (L, s) = matsF (numF (timeF 6 0 (timeF 6 0 s0).2).2).1 [] (numF (timeF 6 0 (timeF 6 0 s0).2).2).2) (rb : Bool)
    (HR : ∀ W A c, W.ownsRow w.heap.size 35 3 (.slice A L.length c) L.length (matsC L) → Calls Try.prog 26 #[.agg (recC 3 (.slice none 0 0) 0 0 0 0 0 (.slice none 0 0) fr tt (.slice A L.length c))] W fun e w' => e = .returned (.bool rb) ∧ Below W.heap.size W w') :
    Calls Try.prog 30 #[.string a0] w fun e w' => ∃ A c, e = getE s rb (.agg (recC 0 (.slice none 0 0) 0 0 0 0 0 (.slice none 0 0) 0 0 (.slice none 0 0))) (.agg (recC 3 (.slice none 0 0) 0 0 0 0 0 (.slice none 0 0) fr tt (.slice A L.length c))) ∧ Hid (w'.ownsRow w.heap.size 35 3 (.slice A L.length c) L.length (matsC L)) ∧ Below w.heap.size w w' := by
  have hl0 : (numF (a0.data.toList, false)).2.1.length ≤ a0.data.toList.length := numF_rest (a0.data.toList, false)
  have HN := Lib.hid fun W (h : FA (w.heap.size + 1) (a0.data.toList, false) W) => number_any (w.heap.size + 1) (a0.data.toList, false) W h hl
  rw [hkk] at HN
  rw [← hs0] at HN hl0
  have HL := Lib.hid fun W (h : FA (w.heap.size + 1) s0 W) => fhush_any (w.heap.size + 1) s0 W h (by omega)
  rw [← hL, ← hfr, ← htt] at HL
  have HR := Lib.hid HR
  clear hkk hL hfr htt
  unfold recC at *
  clear hs0
  go_enter Try.func30, Try.ntmps30
  go_wp2_with fail
  refine (HN.out _ ?_).mono ?_
  case refine_1 =>
    have := blk_new (w.alloc (.cells (recC 0 (.slice none 0 0) 0 0 0 0 0 (.slice none 0 0) 0 0 (.slice none 0 0)) 50)) (.cells #[.string a0, .bool false] 81)
    rw [size_alloc] at this
    unfold FA
    rw [tx_of]
    exact this
  rintro e w1 ⟨rfl, hp⟩
  have hZ := hp.stay (blk_new1 w (.cells (recC 0 (.slice none 0 0) 0 0 0 0 0 (.slice none 0 0) 0 0 (.slice none 0 0)) 50) (.cells #[.string a0, .bool false] 81)) (by omega)
  have hsz1 := hp.2.size
  simp only [size_alloc] at hsz1
  have HP1 := Lib.hid hp
  have HZ := Lib.hid hZ
  clear hp hZ HN
  have hbw : Below w.heap.size w w1 := ⟨HP1.out.2.os, HP1.out.2.tape, HP1.out.2.output, by omega, fun i hi => (HP1.out.2.block i (by simp only [size_alloc]; omega) (by simp; omega)).trans ((Lib.alloc_old _ _ _ (by rw [size_alloc]; omega)).trans (Lib.alloc_old _ _ _ hi))⟩
  have HX := Lib.hid (blk_new w1 (.cells (recC 3 (.slice none 0 0) 0 0 0 0 0 (.slice none 0 0) 0 0 (.slice none 0 0)) 50))
  have hZ := (Lib.alloc_old w1 (.cells (recC 3 (.slice none 0 0) 0 0 0 0 0 (.slice none 0 0) 0 0 (.slice none 0 0)) 50) _ (blk_lt HZ.out)).trans HZ.out
  have HF := Lib.hid (HP1.out.1.far (World.grownBy_alloc w1 (.cells (recC 3 (.slice none 0 0) 0 0 0 0 0 (.slice none 0 0) 0 0 (.slice none 0 0)) 50) none) (by simp))
  have HB := Lib.hid (hbw.alloc (by omega) (.cells (recC 3 (.slice none 0 0) 0 0 0 0 0 (.slice none 0 0) 0 0 (.slice none 0 0)) 50))
  clear HZ hbw
  have HZ := Lib.hid hZ
  unfold recC at *
  clear hZ HP1
  go_upto_region 4 with fail
  refine name_world (fun W hW => ?_)
  rw [← hW] at HX HZ HF HB
  clear hW
  obtain ⟨r, hr⟩ : ∃ r, r = w1.heap.size := ⟨_, rfl⟩
  simp only [← hr]
  rw [← hr] at HX hsz1
  clear hr
  go_wp2_with fail
  refine (HL.out W HF.out).mono ?_
  rintro e W1 ⟨v, rfl, HO, hp⟩
  have HO := Lib.hid (row_mono HO.out HB.out.size)
  have hZ := hp.stay HZ.out (by omega)
  have hX := hp.stay HX.out (by omega)
  have hzr := row_type HO.out hZ (by decide)
  have hxr := row_type HO.out hX (by decide)
  have hB := HB.out.grown hp.2 HB.out.size (fun k e => by obtain rfl := Option.some.inj e; omega)
  have xf := fun j => Lib.frozen_of_heap hX j
  have x8 := blk_cell hX (j := 8) rfl
  have x9 := blk_cell hX (j := 9) rfl
  have x10 := blk_cell hX (j := 10) rfl
  obtain ⟨A, c, rfl⟩ := row_form HO.out
  have HX1 := Lib.hid hX
  have HZ1 := Lib.hid hZ
  have HB1 := Lib.hid hB
  have HP1 := Lib.hid hp
  clear hX hZ hB hp HX HZ HB HF
  go_upto_region 17 with fail
  have HX := Lib.hid (set_heap (j := 10) (set_heap (j := 9) (set_heap (j := 8) HX1.out (.int .i64 fr)) (.int .i64 tt)) (.slice A L.length c))
  obtain ⟨W2, hW⟩ : ∃ q, q = ((W1.setCell ⟨r, 8, none⟩ (.int .i64 fr)).setCell ⟨r, 9, none⟩ (.int .i64 tt)).setCell ⟨r, 10, none⟩ (.slice A L.length c) := ⟨_, rfl⟩
  have hfar : ∀ b, b ≠ r → W2.heap[b]? = W1.heap[b]? := fun b hb => by
    rw [hW]
    exact (Below.heap_setCell _ ⟨r, 10, none⟩ _ b hb).trans ((Below.heap_setCell _ ⟨r, 9, none⟩ _ b hb).trans (Below.heap_setCell _ ⟨r, 8, none⟩ _ b hb))
  have HZ := Lib.hid ((hfar w.heap.size (by omega)).trans HZ1.out)
  have HF := Lib.hid (show FA (w.heap.size + 1) s W2 from (hfar (w.heap.size + 1) (by omega)).trans HP1.out.1)
  have HB := Lib.hid (set_bel (j := 10) (u := .slice A L.length c) (set_bel (j := 9) (u := .int .i64 tt) (set_bel (j := 8) (u := .int .i64 fr) HB1.out (show w.heap.size ≤ r by omega)) (show w.heap.size ≤ r by omega)) (show w.heap.size ≤ r by omega))
  have HO := Lib.hid (row_set (j := 10) (row_set (j := 9) (row_set (j := 8) HO.out hxr (.int .i64 fr)) hxr (.int .i64 tt)) hxr (.slice A L.length c))
  clear HX1 HZ1 HB1 HP1 hxr hfar
  simp only [← hW] at HX HB HO
  simp only [← hW]
  clear hW
  have cg0 : W2.cell? ⟨w.heap.size + 1, 0, none⟩ = some (.string (tx s.1)) := blk_cell HF.out rfl
  have cg1 : W2.cell? ⟨w.heap.size + 1, 1, none⟩ = some (.bool s.2) := blk_cell HF.out rfl
  have hgW := blk_lt HF.out
  have zf := fun j => Lib.frozen_of_heap HZ.out j
  have z0 : W2.cell? ⟨w.heap.size, 0, none⟩ = some (.int .i64 0) := blk_cell HZ.out rfl
  have z1 : W2.cell? ⟨w.heap.size, 1, none⟩ = some (.slice none 0 0) := blk_cell HZ.out rfl
  have z2 : W2.cell? ⟨w.heap.size, 2, none⟩ = some (.int .i64 0) := blk_cell HZ.out rfl
  have z3 : W2.cell? ⟨w.heap.size, 3, none⟩ = some (.int .i64 0) := blk_cell HZ.out rfl
  have z4 : W2.cell? ⟨w.heap.size, 4, none⟩ = some (.int .i64 0) := blk_cell HZ.out rfl
  have z5 : W2.cell? ⟨w.heap.size, 5, none⟩ = some (.int .i64 0) := blk_cell HZ.out rfl
  have z6 : W2.cell? ⟨w.heap.size, 6, none⟩ = some (.int .i64 0) := blk_cell HZ.out rfl
  have z7 : W2.cell? ⟨w.heap.size, 7, none⟩ = some (.slice none 0 0) := blk_cell HZ.out rfl
  have z8 : W2.cell? ⟨w.heap.size, 8, none⟩ = some (.int .i64 0) := blk_cell HZ.out rfl
  have z9 : W2.cell? ⟨w.heap.size, 9, none⟩ = some (.int .i64 0) := blk_cell HZ.out rfl
  have z10 : W2.cell? ⟨w.heap.size, 10, none⟩ = some (.slice none 0 0) := blk_cell HZ.out rfl
  have x0 : W2.cell? ⟨r, 0, none⟩ = some (.int .i64 3) := blk_cell HX.out rfl
  have x1 : W2.cell? ⟨r, 1, none⟩ = some (.slice none 0 0) := blk_cell HX.out rfl
  have x2 : W2.cell? ⟨r, 2, none⟩ = some (.int .i64 0) := blk_cell HX.out rfl
  have x3 : W2.cell? ⟨r, 3, none⟩ = some (.int .i64 0) := blk_cell HX.out rfl
  have x4 : W2.cell? ⟨r, 4, none⟩ = some (.int .i64 0) := blk_cell HX.out rfl
  have x5 : W2.cell? ⟨r, 5, none⟩ = some (.int .i64 0) := blk_cell HX.out rfl
  have x6 : W2.cell? ⟨r, 6, none⟩ = some (.int .i64 0) := blk_cell HX.out rfl
  have x7 : W2.cell? ⟨r, 7, none⟩ = some (.slice none 0 0) := blk_cell HX.out rfl
  have x8 : W2.cell? ⟨r, 8, none⟩ = some (.int .i64 fr) := blk_cell HX.out rfl
  have x9 : W2.cell? ⟨r, 9, none⟩ = some (.int .i64 tt) := blk_cell HX.out rfl
  have x10 : W2.cell? ⟨r, 10, none⟩ = some (.slice A L.length c) := blk_cell HX.out rfl
  rcases Bool.eq_false_or_eq_true s.2 with hb | hb
  · rw [hb] at cg1
    go_wp2_with fail
    refine bodyPost_ret (v := .tuple #[.agg #[.int .i64 0, .slice none 0 0, .int .i64 0, .int .i64 0, .int .i64 0, .int .i64 0, .int .i64 0, .slice none 0 0, .int .i64 0, .int .i64 0, .slice none 0 0], .int .i64 13]) ?_ rfl ?_
    · simp [results, Try.results30, go_sem, z0, z1, z2, z3, z4, z5, z6, z7, z8, z9, z10]
    · exact ⟨_, _, getE1 hb, Lib.hid (by (with_reducible (repeat (refine row_set ?_ hzr _))); exact HO.out), by (with_reducible (repeat (refine set_bel ?_ (Nat.le_refl _)))); exact HB.out⟩
  · rw [hb] at cg1
    rcases Bool.eq_false_or_eq_true s.1.isEmpty with he | he
    · have hne2 := tx_nil he
      go_wp2_with fail
      refine (HR.out W2 A c HO.out).mono ?_
      rintro e w9 ⟨rfl, hbR⟩
      have HZ9 := Lib.hid ((hbR.block _ (blk_lt HZ.out)).trans HZ.out)
      have HX9 := Lib.hid ((hbR.block _ (blk_lt HX.out)).trans HX.out)
      have hsz9 := hbR.size
      have HO9 := Lib.hid (row_bel HO.out hbR)
      have HB9 := Lib.hid (HB.out.trans (hbR.mono HB.out.size))
      clear z0 z1 z2 z3 z4 z5 z6 z7 z8 z9 z10 x0 x1 x2 x3 x4 x5 x6 x7 x8 x9 x10
      clear hbR zf
      have zf := fun j => Lib.frozen_of_heap HZ9.out j
      have z0 : w9.cell? ⟨w.heap.size, 0, none⟩ = some (.int .i64 0) := blk_cell HZ9.out rfl
      have z1 : w9.cell? ⟨w.heap.size, 1, none⟩ = some (.slice none 0 0) := blk_cell HZ9.out rfl
      have z2 : w9.cell? ⟨w.heap.size, 2, none⟩ = some (.int .i64 0) := blk_cell HZ9.out rfl
      have z3 : w9.cell? ⟨w.heap.size, 3, none⟩ = some (.int .i64 0) := blk_cell HZ9.out rfl
      have z4 : w9.cell? ⟨w.heap.size, 4, none⟩ = some (.int .i64 0) := blk_cell HZ9.out rfl
      have z5 : w9.cell? ⟨w.heap.size, 5, none⟩ = some (.int .i64 0) := blk_cell HZ9.out rfl
      have z6 : w9.cell? ⟨w.heap.size, 6, none⟩ = some (.int .i64 0) := blk_cell HZ9.out rfl
      have z7 : w9.cell? ⟨w.heap.size, 7, none⟩ = some (.slice none 0 0) := blk_cell HZ9.out rfl
      have z8 : w9.cell? ⟨w.heap.size, 8, none⟩ = some (.int .i64 0) := blk_cell HZ9.out rfl
      have z9 : w9.cell? ⟨w.heap.size, 9, none⟩ = some (.int .i64 0) := blk_cell HZ9.out rfl
      have z10 : w9.cell? ⟨w.heap.size, 10, none⟩ = some (.slice none 0 0) := blk_cell HZ9.out rfl
      have x0 : w9.cell? ⟨r, 0, none⟩ = some (.int .i64 3) := blk_cell HX9.out rfl
      have x1 : w9.cell? ⟨r, 1, none⟩ = some (.slice none 0 0) := blk_cell HX9.out rfl
      have x2 : w9.cell? ⟨r, 2, none⟩ = some (.int .i64 0) := blk_cell HX9.out rfl
      have x3 : w9.cell? ⟨r, 3, none⟩ = some (.int .i64 0) := blk_cell HX9.out rfl
      have x4 : w9.cell? ⟨r, 4, none⟩ = some (.int .i64 0) := blk_cell HX9.out rfl
      have x5 : w9.cell? ⟨r, 5, none⟩ = some (.int .i64 0) := blk_cell HX9.out rfl
      have x6 : w9.cell? ⟨r, 6, none⟩ = some (.int .i64 0) := blk_cell HX9.out rfl
      have x7 : w9.cell? ⟨r, 7, none⟩ = some (.slice none 0 0) := blk_cell HX9.out rfl
      have x8 : w9.cell? ⟨r, 8, none⟩ = some (.int .i64 fr) := blk_cell HX9.out rfl
      have x9 : w9.cell? ⟨r, 9, none⟩ = some (.int .i64 tt) := blk_cell HX9.out rfl
      have x10 : w9.cell? ⟨r, 10, none⟩ = some (.slice A L.length c) := blk_cell HX9.out rfl
      cases rb
      · skip
        go_wp2_with fail
        refine bodyPost_ret (v := .tuple #[.agg #[.int .i64 0, .slice none 0 0, .int .i64 0, .int .i64 0, .int .i64 0, .int .i64 0, .int .i64 0, .slice none 0 0, .int .i64 0, .int .i64 0, .slice none 0 0], .int .i64 13]) ?_ rfl ?_
        · simp [results, Try.results30, go_sem, z0, z1, z2, z3, z4, z5, z6, z7, z8, z9, z10]
        · exact ⟨_, _, getE3, Lib.hid (by (with_reducible (repeat (refine row_set ?_ hzr _))); exact HO9.out), by (with_reducible (repeat (refine set_bel ?_ (Nat.le_refl _)))); exact HB9.out⟩
      · skip
        go_wp2_with fail
        refine bodyPost_ret (v := .tuple #[.agg #[.int .i64 3, .slice none 0 0, .int .i64 0, .int .i64 0, .int .i64 0, .int .i64 0, .int .i64 0, .slice none 0 0, .int .i64 fr, .int .i64 tt, .slice A L.length c], .int .i64 0]) ?_ rfl ?_
        · simp [results, Try.results30, go_sem, z0, z1, z2, z3, z4, z5, z6, z7, z8, z9, z10, x0, x1, x2, x3, x4, x5, x6, x7, x8, x9, x10]
        · exact ⟨_, _, getE4 hb he, Lib.hid (by (with_reducible (repeat (refine row_set ?_ hzr _))); exact HO9.out), by (with_reducible (repeat (refine set_bel ?_ (Nat.le_refl _)))); exact HB9.out⟩
    · have hne2 := tx_cons he
      go_wp2_with fail
      refine bodyPost_ret (v := .tuple #[.agg #[.int .i64 0, .slice none 0 0, .int .i64 0, .int .i64 0, .int .i64 0, .int .i64 0, .int .i64 0, .slice none 0 0, .int .i64 0, .int .i64 0, .slice none 0 0], .int .i64 13]) ?_ rfl ?_
      · simp [results, Try.results30, go_sem, z0, z1, z2, z3, z4, z5, z6, z7, z8, z9, z10]
      · exact ⟨_, _, getE2 he, Lib.hid (by (with_reducible (repeat (refine row_set ?_ hzr _))); exact HO.out), by (with_reducible (repeat (refine set_bel ?_ (Nat.le_refl _)))); exact HB.out⟩
def numK : Nat → Rst → Rst
  | 0, r => r
  | k + 1, r => (numF (numK k r)).2
def rk (q : Nat → Nat) (k : Nat) : Array Value := #[.int .i64 1, .slice none 0 0, .int .i64 (if 0 < k then q 0 else 0 : Nat), .int .i64 (if 1 < k then q 1 else 0 : Nat), .int .i64 (if 2 < k then q 2 else 0 : Nat), .int .i64 0, .int .i64 (if 3 < k then q 3 else 0 : Nat), .slice none 0 0, .int .i64 0, .int .i64 0, .slice none 0 0]
theorem numK_rest (k : Nat) (r : Rst) : (numK k r).1.length ≤ r.1.length := by
  induction k with
  | zero => exact Nat.le_refl _
  | succ k ih => exact Nat.le_trans (numF_rest _) ih
set_option maxHeartbeats 8000000 in
set_option maxRecDepth 100000 in
theorem get1_any (a0 : ByteArray) (w : World) (hl : a0.data.toList.length ≤ 100000) (hkk : (numF (a0.data.toList, false)).1 = 1) (s0 : Rst) (hs0 : s0 = (numF (a0.data.toList, false)).2)
    (q : Nat → Nat) (hq : ∀ k, q k = (numF (numK k s0)).1) (due : Nat) (hdue : due = (timeF 6 0 (numK 4 s0)).1) (L : List Lab) (s : Rst) (hL : (L, s) = labsF (numF (timeF 6 0 (numK 4 s0)).2).1 [] (numF (timeF 6 0 (numK 4 s0)).2).2) (rb : Bool)
    (HR : ∀ W A c, W.ownsRow w.heap.size 41 2 (.slice A L.length c) L.length (labsC L) → Calls Try.prog 26 #[.agg (recC 1 (.slice A L.length c) (q 0) (q 1) (q 2) due (q 3) (.slice none 0 0) 0 0 (.slice none 0 0))] W fun e w' => e = .returned (.bool rb) ∧ Below W.heap.size W w') :
    Calls Try.prog 30 #[.string a0] w fun e w' => ∃ A c, e = getE s rb (.agg (recC 0 (.slice none 0 0) 0 0 0 0 0 (.slice none 0 0) 0 0 (.slice none 0 0))) (.agg (recC 1 (.slice A L.length c) (q 0) (q 1) (q 2) due (q 3) (.slice none 0 0) 0 0 (.slice none 0 0))) ∧ Hid (w'.ownsRow w.heap.size 41 2 (.slice A L.length c) L.length (labsC L)) ∧ Below w.heap.size w w' := by
  have hl0 : (numF (a0.data.toList, false)).2.1.length ≤ a0.data.toList.length := numF_rest (a0.data.toList, false)
  have HN := Lib.hid fun W (h : FA (w.heap.size + 1) (a0.data.toList, false) W) => number_any (w.heap.size + 1) (a0.data.toList, false) W h hl
  rw [hkk] at HN
  rw [← hs0] at HN hl0
  have HQ := Lib.hid fun (k : Nat) (W : World) (h : FA (w.heap.size + 1) (numK k s0) W) => number_any (w.heap.size + 1) (numK k s0) W h (by have := numK_rest k s0; omega)
  simp only [← hq] at HQ
  have h4 := numK_rest 4 s0
  have HT := Lib.hid fun (W : World) (h : FA (w.heap.size + 1) (numK 4 s0) W) => ftime_any (w.heap.size + 1) (numK 4 s0) W h (by omega)
  rw [← hdue] at HT
  have h5 := timeF_rest 6 0 (numK 4 s0)
  have HL := Lib.hid fun W (h : FA (w.heap.size + 1) (timeF 6 0 (numK 4 s0)).2 W) => flabels_any (w.heap.size + 1) (timeF 6 0 (numK 4 s0)).2 W h (by omega)
  rw [← hL] at HL
  obtain ⟨s5, hs5⟩ : ∃ q, q = (timeF 6 0 (numK 4 s0)).2 := ⟨_, rfl⟩
  rw [← hs5] at HT HL
  have HR := Lib.hid HR
  clear hkk hL hdue hq h4 h5 hs5
  unfold recC at *
  clear hs0
  go_enter Try.func30, Try.ntmps30
  go_wp2_with fail
  refine (HN.out _ ?_).mono ?_
  case refine_1 =>
    have := blk_new (w.alloc (.cells (recC 0 (.slice none 0 0) 0 0 0 0 0 (.slice none 0 0) 0 0 (.slice none 0 0)) 50)) (.cells #[.string a0, .bool false] 81)
    rw [size_alloc] at this
    unfold FA
    rw [tx_of]
    exact this
  rintro e w1 ⟨rfl, hp⟩
  have hZ := hp.stay (blk_new1 w (.cells (recC 0 (.slice none 0 0) 0 0 0 0 0 (.slice none 0 0) 0 0 (.slice none 0 0)) 50) (.cells #[.string a0, .bool false] 81)) (by omega)
  have hsz1 := hp.2.size
  simp only [size_alloc] at hsz1
  have HP1 := Lib.hid hp
  have HZ := Lib.hid hZ
  clear hp hZ HN
  have hbw : Below w.heap.size w w1 := ⟨HP1.out.2.os, HP1.out.2.tape, HP1.out.2.output, by omega, fun i hi => (HP1.out.2.block i (by simp only [size_alloc]; omega) (by simp; omega)).trans ((Lib.alloc_old _ _ _ (by rw [size_alloc]; omega)).trans (Lib.alloc_old _ _ _ hi))⟩
  have HX := Lib.hid (blk_new w1 (.cells (recC 1 (.slice none 0 0) 0 0 0 0 0 (.slice none 0 0) 0 0 (.slice none 0 0)) 50))
  have hZ := (Lib.alloc_old w1 (.cells (recC 1 (.slice none 0 0) 0 0 0 0 0 (.slice none 0 0) 0 0 (.slice none 0 0)) 50) _ (blk_lt HZ.out)).trans HZ.out
  have HF := Lib.hid (HP1.out.1.far (World.grownBy_alloc w1 (.cells (recC 1 (.slice none 0 0) 0 0 0 0 0 (.slice none 0 0) 0 0 (.slice none 0 0)) 50) none) (by simp))
  have HB := Lib.hid (hbw.alloc (by omega) (.cells (recC 1 (.slice none 0 0) 0 0 0 0 0 (.slice none 0 0) 0 0 (.slice none 0 0)) 50))
  clear HZ hbw
  have HZ := Lib.hid hZ
  unfold recC at *
  clear hZ HP1
  go_upto_region 4 with fail
  refine name_world (fun W hW => ?_)
  rw [← hW] at HX HZ HF HB
  clear hW
  obtain ⟨r, hr⟩ : ∃ r, r = w1.heap.size := ⟨_, rfl⟩
  simp only [← hr]
  rw [← hr] at HX hsz1
  clear hr
  go_wp2_with fail
  go_region_law (fail)
  go_simp
  go_wp2_with fail
  have hPP := blk_new W (.cells #[.pointer (some ⟨r, 2, none⟩), .pointer (some ⟨r, 3, none⟩), .pointer (some ⟨r, 4, none⟩), .pointer (some ⟨r, 6, none⟩)] 84)
  have hX := (Lib.alloc_old W (.cells #[.pointer (some ⟨r, 2, none⟩), .pointer (some ⟨r, 3, none⟩), .pointer (some ⟨r, 4, none⟩), .pointer (some ⟨r, 6, none⟩)] 84) r (blk_lt HX.out)).trans HX.out
  have hZ := (Lib.alloc_old W (.cells #[.pointer (some ⟨r, 2, none⟩), .pointer (some ⟨r, 3, none⟩), .pointer (some ⟨r, 4, none⟩), .pointer (some ⟨r, 6, none⟩)] 84) w.heap.size (blk_lt HZ.out)).trans HZ.out
  have hF := HF.out.far (World.grownBy_alloc W (.cells #[.pointer (some ⟨r, 2, none⟩), .pointer (some ⟨r, 3, none⟩), .pointer (some ⟨r, 4, none⟩), .pointer (some ⟨r, 6, none⟩)] 84) none) (fun _ e => nomatch e)
  have hB := (HB.out.alloc HB.out.size (.cells #[.pointer (some ⟨r, 2, none⟩), .pointer (some ⟨r, 3, none⟩), .pointer (some ⟨r, 4, none⟩), .pointer (some ⟨r, 6, none⟩)] 84)).drew
  have hgp := blk_lt HF.out
  have hrp := blk_lt HX.out
  refine name_world (fun W3 hW3 => ?_)
  have HPP := Lib.hid (show W3.heap[W.heap.size]? = some (.cells #[.pointer (some ⟨r, 2, none⟩), .pointer (some ⟨r, 3, none⟩), .pointer (some ⟨r, 4, none⟩), .pointer (some ⟨r, 6, none⟩)] 84 (0, 0)) by rw [hW3]; exact hPP)
  have HX3 := Lib.hid (show W3.heap[r]? = some (.cells (rk q 0) 50 (0, 0)) by rw [hW3]; exact hX)
  have HZ3 := Lib.hid (show W3.heap[w.heap.size]? = some (.cells (#[.int .i64 0, .slice none 0 0, .int .i64 0, .int .i64 0, .int .i64 0, .int .i64 0, .int .i64 0, .slice none 0 0, .int .i64 0, .int .i64 0, .slice none 0 0]) 50 (0, 0)) by rw [hW3]; exact hZ)
  have HF3 := Lib.hid (show FA (w.heap.size + 1) (numK 0 s0) W3 by rw [hW3]; exact hF)
  have HB3 := Lib.hid (show Below w.heap.size w W3 by rw [hW3]; exact hB)
  obtain ⟨p, hp⟩ : ∃ p, p = W.heap.size := ⟨_, rfl⟩
  rw [← hp] at HPP hgp hrp
  simp only [← hp]
  clear hp hW3 hPP hX hZ hF hB HX HZ HF HB
  go_loopw [35] (fun i wr => ∃ k : Nat, k ≤ 4 ∧ i = .int .i64 k ∧ Hid (wr.heap[p]? = some (.cells #[.pointer (some ⟨r, 2, none⟩), .pointer (some ⟨r, 3, none⟩), .pointer (some ⟨r, 4, none⟩), .pointer (some ⟨r, 6, none⟩)] 84 (0, 0))) ∧ Hid (wr.heap[r]? = some (.cells (rk q k) 50 (0, 0))) ∧ Hid (wr.heap[w.heap.size]? = some (.cells (#[.int .i64 0, .slice none 0 0, .int .i64 0, .int .i64 0, .int .i64 0, .int .i64 0, .int .i64 0, .slice none 0 0, .int .i64 0, .int .i64 0, .slice none 0 0]) 50 (0, 0))) ∧ Hid (FA (w.heap.size + 1) (numK k s0) wr) ∧ Hid (Below w.heap.size w wr)) (fun i _ => 4 - (intOf i).toNat)
  case atStart => exact ⟨0, by omega, rfl, HPP, HX3, HZ3, HF3, HB3⟩
  case round =>
    obtain ⟨k, hk, rfl, HPP, HX, HZ, HF, HB⟩ := hrel
    clear HX3 HZ3 HF3 HB3
    by_cases hlt : k < 4
    · have hN := HQ.out k wr HF.out
      obtain rfl | rfl | rfl | rfl : k = 0 ∨ k = 1 ∨ k = 2 ∨ k = 3 := by omega
      · have p0 : wr.cell? ⟨p, 0, none⟩ = some (.pointer (some ⟨r, 2, none⟩)) := blk_cell HPP.out rfl
        go_wp2_with fail
        refine hN.mono ?_
        rintro e w2 ⟨rfl, hp⟩
        have hX := hp.stay HX.out (by omega)
        have hP2 := hp.stay HPP.out (by omega)
        have hZ := hp.stay HZ.out (by omega)
        have x0 := blk_cell hX (j := 2) rfl
        have xf := Lib.frozen_of_heap hX 2
        have hB := HB.out.grown hp.2 HB.out.size (fun k e => by obtain rfl := Option.some.inj e; omega)
        have HX2 := Lib.hid hX
        have HP2 := Lib.hid hP2
        have HZ2 := Lib.hid hZ
        have HB2 := Lib.hid hB
        have HF2 := Lib.hid hp.1
        clear hX hP2 hZ hB hp HX HPP HZ HF HB hN
        go_wp2_with fail
        have hfar : ∀ b, b ≠ r → (w2.setCell ⟨r, 2, none⟩ (.int .i64 (q 0))).heap[b]? = w2.heap[b]? := fun b hb => Below.heap_setCell _ ⟨r, 2, none⟩ _ b hb
        refine ⟨⟨0 + 1, by omega, by go_num, Lib.hid ((hfar p (by omega)).trans HP2.out), Lib.hid (set_heap (j := 2) HX2.out (.int .i64 (q 0))), Lib.hid ((hfar w.heap.size (by omega)).trans HZ2.out), Lib.hid ((hfar (w.heap.size + 1) (by omega)).trans HF2.out), Lib.hid (set_bel HB2.out (by omega))⟩, by simp [intOf]⟩
      · have p0 : wr.cell? ⟨p, 1, none⟩ = some (.pointer (some ⟨r, 3, none⟩)) := blk_cell HPP.out rfl
        go_wp2_with fail
        refine hN.mono ?_
        rintro e w2 ⟨rfl, hp⟩
        have hX := hp.stay HX.out (by omega)
        have hP2 := hp.stay HPP.out (by omega)
        have hZ := hp.stay HZ.out (by omega)
        have x0 := blk_cell hX (j := 3) rfl
        have xf := Lib.frozen_of_heap hX 3
        have hB := HB.out.grown hp.2 HB.out.size (fun k e => by obtain rfl := Option.some.inj e; omega)
        have HX2 := Lib.hid hX
        have HP2 := Lib.hid hP2
        have HZ2 := Lib.hid hZ
        have HB2 := Lib.hid hB
        have HF2 := Lib.hid hp.1
        clear hX hP2 hZ hB hp HX HPP HZ HF HB hN
        go_wp2_with fail
        have hfar : ∀ b, b ≠ r → (w2.setCell ⟨r, 3, none⟩ (.int .i64 (q 1))).heap[b]? = w2.heap[b]? := fun b hb => Below.heap_setCell _ ⟨r, 3, none⟩ _ b hb
        refine ⟨⟨1 + 1, by omega, by go_num, Lib.hid ((hfar p (by omega)).trans HP2.out), Lib.hid (set_heap (j := 3) HX2.out (.int .i64 (q 1))), Lib.hid ((hfar w.heap.size (by omega)).trans HZ2.out), Lib.hid ((hfar (w.heap.size + 1) (by omega)).trans HF2.out), Lib.hid (set_bel HB2.out (by omega))⟩, by simp [intOf]⟩
      · have p0 : wr.cell? ⟨p, 2, none⟩ = some (.pointer (some ⟨r, 4, none⟩)) := blk_cell HPP.out rfl
        go_wp2_with fail
        refine hN.mono ?_
        rintro e w2 ⟨rfl, hp⟩
        have hX := hp.stay HX.out (by omega)
        have hP2 := hp.stay HPP.out (by omega)
        have hZ := hp.stay HZ.out (by omega)
        have x0 := blk_cell hX (j := 4) rfl
        have xf := Lib.frozen_of_heap hX 4
        have hB := HB.out.grown hp.2 HB.out.size (fun k e => by obtain rfl := Option.some.inj e; omega)
        have HX2 := Lib.hid hX
        have HP2 := Lib.hid hP2
        have HZ2 := Lib.hid hZ
        have HB2 := Lib.hid hB
        have HF2 := Lib.hid hp.1
        clear hX hP2 hZ hB hp HX HPP HZ HF HB hN
        go_wp2_with fail
        have hfar : ∀ b, b ≠ r → (w2.setCell ⟨r, 4, none⟩ (.int .i64 (q 2))).heap[b]? = w2.heap[b]? := fun b hb => Below.heap_setCell _ ⟨r, 4, none⟩ _ b hb
        refine ⟨⟨2 + 1, by omega, by go_num, Lib.hid ((hfar p (by omega)).trans HP2.out), Lib.hid (set_heap (j := 4) HX2.out (.int .i64 (q 2))), Lib.hid ((hfar w.heap.size (by omega)).trans HZ2.out), Lib.hid ((hfar (w.heap.size + 1) (by omega)).trans HF2.out), Lib.hid (set_bel HB2.out (by omega))⟩, by simp [intOf]⟩
      · have p0 : wr.cell? ⟨p, 3, none⟩ = some (.pointer (some ⟨r, 6, none⟩)) := blk_cell HPP.out rfl
        go_wp2_with fail
        refine hN.mono ?_
        rintro e w2 ⟨rfl, hp⟩
        have hX := hp.stay HX.out (by omega)
        have hP2 := hp.stay HPP.out (by omega)
        have hZ := hp.stay HZ.out (by omega)
        have x0 := blk_cell hX (j := 6) rfl
        have xf := Lib.frozen_of_heap hX 6
        have hB := HB.out.grown hp.2 HB.out.size (fun k e => by obtain rfl := Option.some.inj e; omega)
        have HX2 := Lib.hid hX
        have HP2 := Lib.hid hP2
        have HZ2 := Lib.hid hZ
        have HB2 := Lib.hid hB
        have HF2 := Lib.hid hp.1
        clear hX hP2 hZ hB hp HX HPP HZ HF HB hN
        go_wp2_with fail
        have hfar : ∀ b, b ≠ r → (w2.setCell ⟨r, 6, none⟩ (.int .i64 (q 3))).heap[b]? = w2.heap[b]? := fun b hb => Below.heap_setCell _ ⟨r, 6, none⟩ _ b hb
        refine ⟨⟨3 + 1, by omega, by go_num, Lib.hid ((hfar p (by omega)).trans HP2.out), Lib.hid (set_heap (j := 6) HX2.out (.int .i64 (q 3))), Lib.hid ((hfar w.heap.size (by omega)).trans HZ2.out), Lib.hid ((hfar (w.heap.size + 1) (by omega)).trans HF2.out), Lib.hid (set_bel HB2.out (by omega))⟩, by simp [intOf]⟩
    · obtain rfl : k = 4 := by omega
      clear HQ hlt hk HPP hgp hrp
      have HX0 := Lib.hid (show wr.heap[r]? = some (.cells #[.int .i64 1, .slice none 0 0, .int .i64 (q 0), .int .i64 (q 1), .int .i64 (q 2), .int .i64 0, .int .i64 (q 3), .slice none 0 0, .int .i64 0, .int .i64 0, .slice none 0 0] 50 (0, 0)) from HX.out)
      clear HX
      go_wp2_with fail
      refine (HT.out wr HF.out).mono ?_
      rintro e w4 ⟨rfl, hp⟩
      have hX := hp.stay HX0.out (by omega)
      have hZ := hp.stay HZ.out (by omega)
      have x5 := blk_cell hX (j := 5) rfl
      have xf := Lib.frozen_of_heap hX 5
      have hB := HB.out.grown hp.2 HB.out.size (fun k e => by obtain rfl := Option.some.inj e; omega)
      have HX1 := Lib.hid (set_heap (j := 5) hX (.int .i64 due))
      obtain ⟨W5, hW5⟩ : ∃ z, z = w4.setCell ⟨r, 5, none⟩ (.int .i64 due) := ⟨_, rfl⟩
      have hfar : ∀ b, b ≠ r → W5.heap[b]? = w4.heap[b]? := fun b hb => by rw [hW5]; exact Below.heap_setCell _ ⟨r, 5, none⟩ _ b hb
      have HZ1 := Lib.hid ((hfar w.heap.size (by omega)).trans hZ)
      have HF1 := Lib.hid (show FA (w.heap.size + 1) s5 W5 from (hfar (w.heap.size + 1) (by omega)).trans hp.1)
      have HB1 := Lib.hid (set_bel (j := 5) (u := .int .i64 due) hB (show w.heap.size ≤ r by omega))
      rw [← hW5] at HX1 HB1
      have HH5 := Lib.hid hW5
      clear hX hZ hB hp HX0 HZ HF HB HT hfar hW5
      go_wp2_with fail
      rw [← HH5.out]
      clear HH5
      refine (HL.out W5 HF1.out).mono ?_
      rintro e W1 ⟨v, rfl, HO, hp⟩
      have HO := Lib.hid (row_mono HO.out HB1.out.size)
      have hZ := hp.stay HZ1.out (by omega)
      have hX := hp.stay HX1.out (by omega)
      have hzr := row_type HO.out hZ (by decide)
      have hxr := row_type HO.out hX (by decide)
      have hB := HB1.out.grown hp.2 HB1.out.size (fun k e => by obtain rfl := Option.some.inj e; omega)
      have xf := Lib.frozen_of_heap hX 1
      have x1 := blk_cell hX (j := 1) rfl
      obtain ⟨A, c, rfl⟩ := row_form HO.out
      have HX6 := Lib.hid hX
      have HZ6 := Lib.hid hZ
      have HB6 := Lib.hid hB
      have HP6 := Lib.hid hp
      clear hX hZ hB hp HX1 HZ1 HB1 HF1
      clear x5
      go_upto_region 17 with fail
      have HX := Lib.hid (show (W1.setCell ⟨r, 1, none⟩ (.slice A L.length c)).heap[r]? = some (.cells #[.int .i64 1, .slice A L.length c, .int .i64 (q 0), .int .i64 (q 1), .int .i64 (q 2), .int .i64 due, .int .i64 (q 3), .slice none 0 0, .int .i64 0, .int .i64 0, .slice none 0 0] 50 (0, 0)) from set_heap (j := 1) HX6.out (.slice A L.length c))
      have HZ := Lib.hid ((Below.heap_setCell W1 ⟨r, 1, none⟩ (.slice A L.length c) w.heap.size (fun e => by have : w.heap.size = r := e; omega)).trans HZ6.out)
      have HF := Lib.hid (show FA (w.heap.size + 1) s (W1.setCell ⟨r, 1, none⟩ (.slice A L.length c)) from (Below.heap_setCell W1 ⟨r, 1, none⟩ (.slice A L.length c) (w.heap.size + 1) (fun e => by have : w.heap.size + 1 = r := e; omega)).trans HP6.out.1)
      have HB := Lib.hid (set_bel (j := 1) (u := .slice A L.length c) HB6.out (show w.heap.size ≤ r by omega))
      have HO := Lib.hid (row_set (j := 1) HO.out hxr (.slice A L.length c))
      clear HX6 HZ6 HB6 HP6 hxr
      refine name_world (fun W2 hW => ?_)
      rw [← hW] at HX HZ HF HB HO
      clear hW
      have cg0 : W2.cell? ⟨w.heap.size + 1, 0, none⟩ = some (.string (tx s.1)) := blk_cell HF.out rfl
      have cg1 : W2.cell? ⟨w.heap.size + 1, 1, none⟩ = some (.bool s.2) := blk_cell HF.out rfl
      have hgW := blk_lt HF.out
      have zf := fun j => Lib.frozen_of_heap HZ.out j
      have z0 : W2.cell? ⟨w.heap.size, 0, none⟩ = some (.int .i64 0) := blk_cell HZ.out rfl
      have z1 : W2.cell? ⟨w.heap.size, 1, none⟩ = some (.slice none 0 0) := blk_cell HZ.out rfl
      have z2 : W2.cell? ⟨w.heap.size, 2, none⟩ = some (.int .i64 0) := blk_cell HZ.out rfl
      have z3 : W2.cell? ⟨w.heap.size, 3, none⟩ = some (.int .i64 0) := blk_cell HZ.out rfl
      have z4 : W2.cell? ⟨w.heap.size, 4, none⟩ = some (.int .i64 0) := blk_cell HZ.out rfl
      have z5 : W2.cell? ⟨w.heap.size, 5, none⟩ = some (.int .i64 0) := blk_cell HZ.out rfl
      have z6 : W2.cell? ⟨w.heap.size, 6, none⟩ = some (.int .i64 0) := blk_cell HZ.out rfl
      have z7 : W2.cell? ⟨w.heap.size, 7, none⟩ = some (.slice none 0 0) := blk_cell HZ.out rfl
      have z8 : W2.cell? ⟨w.heap.size, 8, none⟩ = some (.int .i64 0) := blk_cell HZ.out rfl
      have z9 : W2.cell? ⟨w.heap.size, 9, none⟩ = some (.int .i64 0) := blk_cell HZ.out rfl
      have z10 : W2.cell? ⟨w.heap.size, 10, none⟩ = some (.slice none 0 0) := blk_cell HZ.out rfl
      have x0 : W2.cell? ⟨r, 0, none⟩ = some (.int .i64 1) := blk_cell HX.out rfl
      have x1 : W2.cell? ⟨r, 1, none⟩ = some (.slice A L.length c) := blk_cell HX.out rfl
      have x2 : W2.cell? ⟨r, 2, none⟩ = some (.int .i64 (q 0)) := blk_cell HX.out rfl
      have x3 : W2.cell? ⟨r, 3, none⟩ = some (.int .i64 (q 1)) := blk_cell HX.out rfl
      have x4 : W2.cell? ⟨r, 4, none⟩ = some (.int .i64 (q 2)) := blk_cell HX.out rfl
      have x5 : W2.cell? ⟨r, 5, none⟩ = some (.int .i64 due) := blk_cell HX.out rfl
      have x6 : W2.cell? ⟨r, 6, none⟩ = some (.int .i64 (q 3)) := blk_cell HX.out rfl
      have x7 : W2.cell? ⟨r, 7, none⟩ = some (.slice none 0 0) := blk_cell HX.out rfl
      have x8 : W2.cell? ⟨r, 8, none⟩ = some (.int .i64 0) := blk_cell HX.out rfl
      have x9 : W2.cell? ⟨r, 9, none⟩ = some (.int .i64 0) := blk_cell HX.out rfl
      have x10 : W2.cell? ⟨r, 10, none⟩ = some (.slice none 0 0) := blk_cell HX.out rfl
      rcases Bool.eq_false_or_eq_true s.2 with hb | hb
      · rw [hb] at cg1
        go_wp2_with fail
        refine bodyPost_ret (v := .tuple #[.agg #[.int .i64 0, .slice none 0 0, .int .i64 0, .int .i64 0, .int .i64 0, .int .i64 0, .int .i64 0, .slice none 0 0, .int .i64 0, .int .i64 0, .slice none 0 0], .int .i64 13]) ?_ rfl ?_
        · simp [results, Try.results30, go_sem, z0, z1, z2, z3, z4, z5, z6, z7, z8, z9, z10]
        · exact ⟨_, _, getE1 hb, Lib.hid (by (with_reducible (repeat (refine row_set ?_ hzr _))); exact HO.out), by (with_reducible (repeat (refine set_bel ?_ (Nat.le_refl _)))); exact HB.out⟩
      · rw [hb] at cg1
        rcases Bool.eq_false_or_eq_true s.1.isEmpty with he | he
        · have hne2 := tx_nil he
          go_wp2_with fail
          refine (HR.out W2 A c HO.out).mono ?_
          rintro e w9 ⟨rfl, hbR⟩
          have HZ9 := Lib.hid ((hbR.block _ (blk_lt HZ.out)).trans HZ.out)
          have HX9 := Lib.hid ((hbR.block _ (blk_lt HX.out)).trans HX.out)
          have hsz9 := hbR.size
          have HO9 := Lib.hid (row_bel HO.out hbR)
          have HB9 := Lib.hid (HB.out.trans (hbR.mono HB.out.size))
          clear z0 z1 z2 z3 z4 z5 z6 z7 z8 z9 z10 x0 x1 x2 x3 x4 x5 x6 x7 x8 x9 x10
          clear hbR zf
          have zf := fun j => Lib.frozen_of_heap HZ9.out j
          have z0 : w9.cell? ⟨w.heap.size, 0, none⟩ = some (.int .i64 0) := blk_cell HZ9.out rfl
          have z1 : w9.cell? ⟨w.heap.size, 1, none⟩ = some (.slice none 0 0) := blk_cell HZ9.out rfl
          have z2 : w9.cell? ⟨w.heap.size, 2, none⟩ = some (.int .i64 0) := blk_cell HZ9.out rfl
          have z3 : w9.cell? ⟨w.heap.size, 3, none⟩ = some (.int .i64 0) := blk_cell HZ9.out rfl
          have z4 : w9.cell? ⟨w.heap.size, 4, none⟩ = some (.int .i64 0) := blk_cell HZ9.out rfl
          have z5 : w9.cell? ⟨w.heap.size, 5, none⟩ = some (.int .i64 0) := blk_cell HZ9.out rfl
          have z6 : w9.cell? ⟨w.heap.size, 6, none⟩ = some (.int .i64 0) := blk_cell HZ9.out rfl
          have z7 : w9.cell? ⟨w.heap.size, 7, none⟩ = some (.slice none 0 0) := blk_cell HZ9.out rfl
          have z8 : w9.cell? ⟨w.heap.size, 8, none⟩ = some (.int .i64 0) := blk_cell HZ9.out rfl
          have z9 : w9.cell? ⟨w.heap.size, 9, none⟩ = some (.int .i64 0) := blk_cell HZ9.out rfl
          have z10 : w9.cell? ⟨w.heap.size, 10, none⟩ = some (.slice none 0 0) := blk_cell HZ9.out rfl
          have x0 : w9.cell? ⟨r, 0, none⟩ = some (.int .i64 1) := blk_cell HX9.out rfl
          have x1 : w9.cell? ⟨r, 1, none⟩ = some (.slice A L.length c) := blk_cell HX9.out rfl
          have x2 : w9.cell? ⟨r, 2, none⟩ = some (.int .i64 (q 0)) := blk_cell HX9.out rfl
          have x3 : w9.cell? ⟨r, 3, none⟩ = some (.int .i64 (q 1)) := blk_cell HX9.out rfl
          have x4 : w9.cell? ⟨r, 4, none⟩ = some (.int .i64 (q 2)) := blk_cell HX9.out rfl
          have x5 : w9.cell? ⟨r, 5, none⟩ = some (.int .i64 due) := blk_cell HX9.out rfl
          have x6 : w9.cell? ⟨r, 6, none⟩ = some (.int .i64 (q 3)) := blk_cell HX9.out rfl
          have x7 : w9.cell? ⟨r, 7, none⟩ = some (.slice none 0 0) := blk_cell HX9.out rfl
          have x8 : w9.cell? ⟨r, 8, none⟩ = some (.int .i64 0) := blk_cell HX9.out rfl
          have x9 : w9.cell? ⟨r, 9, none⟩ = some (.int .i64 0) := blk_cell HX9.out rfl
          have x10 : w9.cell? ⟨r, 10, none⟩ = some (.slice none 0 0) := blk_cell HX9.out rfl
          cases rb
          · skip
            go_wp2_with fail
            refine bodyPost_ret (v := .tuple #[.agg #[.int .i64 0, .slice none 0 0, .int .i64 0, .int .i64 0, .int .i64 0, .int .i64 0, .int .i64 0, .slice none 0 0, .int .i64 0, .int .i64 0, .slice none 0 0], .int .i64 13]) ?_ rfl ?_
            · simp [results, Try.results30, go_sem, z0, z1, z2, z3, z4, z5, z6, z7, z8, z9, z10]
            · exact ⟨_, _, getE3, Lib.hid (by (with_reducible (repeat (refine row_set ?_ hzr _))); exact HO9.out), by (with_reducible (repeat (refine set_bel ?_ (Nat.le_refl _)))); exact HB9.out⟩
          · skip
            go_wp2_with fail
            refine bodyPost_ret (v := .tuple #[.agg #[.int .i64 1, .slice A L.length c, .int .i64 (q 0), .int .i64 (q 1), .int .i64 (q 2), .int .i64 due, .int .i64 (q 3), .slice none 0 0, .int .i64 0, .int .i64 0, .slice none 0 0], .int .i64 0]) ?_ rfl ?_
            · simp [results, Try.results30, go_sem, z0, z1, z2, z3, z4, z5, z6, z7, z8, z9, z10, x0, x1, x2, x3, x4, x5, x6, x7, x8, x9, x10]
            · exact ⟨_, _, getE4 hb he, Lib.hid (by (with_reducible (repeat (refine row_set ?_ hzr _))); exact HO9.out), by (with_reducible (repeat (refine set_bel ?_ (Nat.le_refl _)))); exact HB9.out⟩
        · have hne2 := tx_cons he
          go_wp2_with fail
          refine bodyPost_ret (v := .tuple #[.agg #[.int .i64 0, .slice none 0 0, .int .i64 0, .int .i64 0, .int .i64 0, .int .i64 0, .int .i64 0, .slice none 0 0, .int .i64 0, .int .i64 0, .slice none 0 0], .int .i64 13]) ?_ rfl ?_
          · simp [results, Try.results30, go_sem, z0, z1, z2, z3, z4, z5, z6, z7, z8, z9, z10]
          · exact ⟨_, _, getE2 he, Lib.hid (by (with_reducible (repeat (refine row_set ?_ hzr _))); exact HO.out), by (with_reducible (repeat (refine set_bel ?_ (Nat.le_refl _)))); exact HB.out⟩
end
end Go.Proofs.Ytndgollcganhmaa
namespace Go.Proofs.YtndgollcganhmaaQ.P
open Go.RowKit Go.Proofs.YtndgollcganhmaaW.PrintWords Go.Proofs.Ytndgollcganhmaa
structure Rc where
  k : Int
  l1 : List Lab
  rt : Int
  pl : Int
  tr : Int
  due : Int
  st : Int
  l7 : List Lab
  fr : Int
  tt : Int
  l10 : List Mat
def Rc.zero : Rc := ⟨0, [], 0, 0, 0, 0, 0, [], 0, 0, []⟩
def getP (l : List UInt8) : Rc × Rst :=
  let r0 : Rst := (l, false)
  let k := (numF r0).1
  let s := (numF r0).2
  if k = 1 then
    let t := timeF 6 0 (numK 4 s)
    let g := labsF (numF t.2).1 [] (numF t.2).2
    (⟨1, g.1, (numF (numK 0 s)).1, (numF (numK 1 s)).1, (numF (numK 2 s)).1, t.1, (numF (numK 3 s)).1, [], 0, 0, []⟩, g.2)
  else if k = 2 then
    let g := labsF (numF s).1 [] (numF s).2
    (⟨2, [], 0, 0, 0, 0, 0, g.1, 0, 0, []⟩, g.2)
  else if k = 3 then
    let t := timeF 6 0 s
    let u := timeF 6 0 t.2
    let g := matsF (numF u.2).1 [] (numF u.2).2
    (⟨3, [], 0, 0, 0, 0, 0, [], t.1, u.1, g.1⟩, g.2)
  else (⟨k, [], 0, 0, 0, 0, 0, [], 0, 0, []⟩, s)
def Rc.right (r : Rc) : Option Bool := code_Right.f r.k (r.l1.map ofLab) r.rt r.pl r.tr r.due r.st (r.l7.map ofLab) r.fr r.tt (r.l10.map ofMat)
def code_Get.f (a0 : ByteArray) : Option (Int × (List (S41)) × Int × Int × Int × Int × Int × (List (S41)) × Int × Int × (List (S35)) × Int) :=
  if a0.size ≤ 100000 then
    match (getP a0.data.toList).1.right with
    | some b =>
      if ((getP a0.data.toList).2.2 || !(getP a0.data.toList).2.1.isEmpty || !b) = true then some (0, [], 0, 0, 0, 0, 0, [], 0, 0, [], 13)
      else
        let r := (getP a0.data.toList).1
        some (r.k, r.l1.map ofLab, r.rt, r.pl, r.tr, r.due, r.st, r.l7.map ofLab, r.fr, r.tt, r.l10.map ofMat, 0)
    | none => none
  else none
theorem mats_r {w : World} {B : Nat} {v : Value} {xs : List Mat} (h : w.ownsRow B 35 3 v xs.length (matsC xs)) : Kd.R k35 35 w B (fun _ => True) v (xs.map ofMat) :=
  R_of_own (g := ofMat) (en := matC) (fun w b ok y => k35_mkM w b ok (ofMat y)) (fun _ => rfl) h
theorem R_nilC {α : Type} {d : Kd α} {w : World} : d.C w none 0 [] := by
  obtain ⟨A, c, h1, _, h2⟩ := Kd.R_reads (Kd.R_nil d 0 w 0 (fun _ => True))
  simp at h1
  obtain ⟨rfl, _⟩ := h1
  exact h2
theorem labs_own {w : World} {B c : Nat} {A : Option Addr} {xs : List Lab} (h : w.ownsRow B 41 2 (.slice A xs.length c) xs.length (labsC xs)) : Kd.C k41 w A (xs.map ofLab).length (xs.map ofLab) ∧ (xs.map ofLab).length ≤ c := by
  obtain ⟨h1, h2, h3⟩ := Kd.R_reads' (labs_r h)
  exact ⟨h3, by rw [← h1]; exact h2⟩
theorem mats_own {w : World} {B c : Nat} {A : Option Addr} {xs : List Mat} (h : w.ownsRow B 35 3 (.slice A xs.length c) xs.length (matsC xs)) : Kd.C k35 w A (xs.map ofMat).length (xs.map ofMat) ∧ (xs.map ofMat).length ≤ c := by
  obtain ⟨h1, h2, h3⟩ := Kd.R_reads' (mats_r h)
  exact ⟨h3, by rw [← h1]; exact h2⟩
def Rc.val (r : Rc) (v1 v7 v10 : Value) : Value := .agg (recC r.k v1 r.rt r.pl r.tr r.due r.st v7 r.fr r.tt v10)
def Rc.own (r : Rc) (w : World) (B : Nat) (v1 v7 v10 : Value) : Prop :=
  Kd.R k41 41 w B (fun k_ => some k_ ≠ (v7 : Value).ownBlock) v1 (r.l1.map ofLab) ∧ Kd.R k41 41 w B (fun k_ => some k_ ≠ (v1 : Value).ownBlock) v7 (r.l7.map ofLab) ∧ Kd.R k35 35 w B (fun _ => True) v10 (r.l10.map ofMat)
theorem nil_block {k : Nat} : some k ≠ (Value.slice none 0 0).ownBlock := by simp [Value.ownBlock]
set_option maxHeartbeats 1000000 in
theorem get_core (a0 : ByteArray) (b : Bool) (w : World) (hl : a0.size ≤ 100000) (hb : (getP a0.data.toList).1.right = some b) :
    Calls Try.prog 30 #[.string a0] w fun e w' => ∃ v1 v7 v10 : Value, e = getE (getP a0.data.toList).2 b (Rc.zero.val (.slice none 0 0) (.slice none 0 0) (.slice none 0 0)) ((getP a0.data.toList).1.val v1 v7 v10) ∧ (getP a0.data.toList).1.own w' w.heap.size v1 v7 v10 ∧ Below w.heap.size w w' := by
  have hl' : a0.data.toList.length ≤ 100000 := by rw [len_data]; exact hl
  unfold getP at hb ⊢
  by_cases h1 : (numF (a0.data.toList, false)).1 = 1
  · simp only [h1, if_true] at hb ⊢
    have H := get1_any a0 w hl' h1 _ rfl (fun k => (numF (numK k (numF (a0.data.toList, false)).2)).1) (fun _ => rfl) _ rfl _ _ rfl b (fun W A c ho => by
      have hc := labs_own ho
      have := code_Right.calls 1 A c _ _ _ _ _ _ none 0 [] 0 0 none 0 [] b W hc.1 hc.2 R_nilC (Nat.le_refl _) R_nilC (Nat.le_refl _) hb
      rw [List.length_map] at this
      exact this)
    refine H.mono ?_
    rintro e w' ⟨A, c, he, ho, hbw⟩
    exact ⟨_, _, _, he, ⟨Kd.R_mono (labs_r ho.out) (fun _ _ => nil_block), Kd.R_nil _ _ _ _ _, Kd.R_nil _ _ _ _ _⟩, hbw⟩
  · by_cases h2 : (numF (a0.data.toList, false)).1 = 2
    · rw [if_neg h1, if_pos h2] at hb ⊢
      have H := get2_any a0 w hl' h2 b (fun W A c ho => by
        have hc := labs_own ho
        have := code_Right.calls 2 none 0 [] _ _ _ _ _ A c _ _ _ none 0 [] b W R_nilC (Nat.le_refl _) hc.1 hc.2 R_nilC (Nat.le_refl _) hb
        rw [List.length_map] at this
        exact this)
      refine H.mono ?_
      rintro e w' ⟨A, c, he, ho, hbw⟩
      exact ⟨_, _, _, he, ⟨Kd.R_nil _ _ _ _ _, Kd.R_mono (labs_r ho.out) (fun _ _ => nil_block), Kd.R_nil _ _ _ _ _⟩, hbw⟩
    · by_cases h3 : (numF (a0.data.toList, false)).1 = 3
      · rw [if_neg h1, if_neg h2, if_pos h3] at hb ⊢
        have H := get3_any a0 w hl' h3 _ rfl _ _ rfl rfl _ _ rfl b (fun W A c ho => by
          have hc := mats_own ho
          have := code_Right.calls 3 none 0 [] _ _ _ _ _ none 0 [] _ _ A c _ b W R_nilC (Nat.le_refl _) R_nilC (Nat.le_refl _) hc.1 hc.2 hb
          rw [List.length_map] at this
          exact this)
        refine H.mono ?_
        rintro e w' ⟨A, c, he, ho, hbw⟩
        exact ⟨_, _, _, he, ⟨Kd.R_nil _ _ _ _ _, Kd.R_nil _ _ _ _ _, mats_r ho.out⟩, hbw⟩
      · rw [if_neg h1, if_neg h2, if_neg h3] at hb ⊢
        have H := get0_any a0 w hl' ⟨h1, h2, h3⟩ b (fun W => code_Right.calls (numF (a0.data.toList, false)).1 none 0 [] 0 0 0 0 0 none 0 [] 0 0 none 0 [] b W R_nilC (Nat.le_refl _) R_nilC (Nat.le_refl _) R_nilC (Nat.le_refl _) hb)
        refine H.mono ?_
        rintro e w' ⟨he, hbw⟩
        exact ⟨_, _, _, he, ⟨Kd.R_nil _ _ _ _ _, Kd.R_nil _ _ _ _ _, Kd.R_nil _ _ _ _ _⟩, hbw⟩
set_option maxHeartbeats 1000000 in
theorem code_Get.calls (a0 : ByteArray) (r1 : Int) (r2 : List (S41)) (r3 : Int) (r4 : Int) (r5 : Int) (r6 : Int) (r7 : Int) (r8 : List (S41)) (r9 : Int) (r10 : Int) (r11 : List (S35)) (r12 : Int) (w : World) (h : code_Get.f a0 = some (r1, r2, r3, r4, r5, r6, r7, r8, r9, r10, r11, r12)) :
    Calls Try.prog 30 #[.string a0] w fun e w' => ∃ v1_ v7_ v10_ : Value, e = .returned (.tuple #[.agg #[.int .i64 r1, v1_, .int .i64 r3, .int .i64 r4, .int .i64 r5, .int .i64 r6, .int .i64 r7, v7_, .int .i64 r9, .int .i64 r10, v10_], .int .i64 r12]) ∧ Kd.R k41 41 w' w.heap.size (fun k_ => some k_ ≠ (v7_ : Value).ownBlock) v1_ r2 ∧ Kd.R k41 41 w' w.heap.size (fun k_ => some k_ ≠ (v1_ : Value).ownBlock) v7_ r8 ∧ Kd.R k35 35 w' w.heap.size (fun _ => True) v10_ r11 ∧ Below w.heap.size w w' := by
  unfold code_Get.f at h
  split at h
  · rename_i hl
    split at h
    · rename_i b hb
      have H := get_core a0 b w hl hb
      split at h
      · rename_i hc
        simp only [Option.some.injEq, Prod.mk.injEq] at h
        obtain ⟨rfl, rfl, rfl, rfl, rfl, rfl, rfl, rfl, rfl, rfl, rfl, rfl⟩ := h
        refine H.mono ?_
        rintro e w' ⟨v1, v7, v10, he, ho, hbw⟩
        refine ⟨_, _, _, ?_, Kd.R_nil _ _ _ _ _, Kd.R_nil _ _ _ _ _, Kd.R_nil _ _ _ _ _, hbw⟩
        unfold getE at he
        rw [if_pos hc] at he
        exact he
      · rename_i hc
        simp only [Option.some.injEq, Prod.mk.injEq] at h
        obtain ⟨rfl, rfl, rfl, rfl, rfl, rfl, rfl, rfl, rfl, rfl, rfl, rfl⟩ := h
        refine H.mono ?_
        rintro e w' ⟨v1, v7, v10, he, ho, hbw⟩
        refine ⟨v1, v7, v10, ?_, ho.1, ho.2.1, ho.2.2, hbw⟩
        unfold getE at he
        rw [if_neg hc] at he
        exact he
    · cases h
  · cases h
end Go.Proofs.YtndgollcganhmaaQ.P
namespace Go.Proofs.YtndgollcganhmaaQ.P
open Go.RowKit Go.Proofs.YtndgollcganhmaaW.PrintWords Go.Proofs.YtndgollcganhmaaW.PrintLast Go.Proofs.YtndgollcganhmaaW.PrintMore
attribute [local go_sem] max2_int min2_int max_two min_two max_three min_three max_four min_four
def foghornlaw17_alive.f  : Option (Bool) := (code_Put.f 2 ([] : List (S41)) 0 0 0 0 0 (([(⟨(⟨#[97]⟩ : ByteArray), (⟨#[120]⟩ : ByteArray)⟩ : S41)] : List (S41))) 0 0 ([] : List (S35))).bind fun bt271 => ((code_Get.f bt271.1).bind fun bt273 => (if bt271.2 = 0 then (if bt273.2.2.2.2.2.2.2.2.2.2.2 = 0 then (if bt271.1.toList = ([2, 1, 1, 97, 1, 120] : List UInt8) then (some ((bt273.2.2.2.2.2.2.2.1.length : Int) == 1)) else (some false)) else (some false)) else (some false)))
set_option maxHeartbeats 8000000 in
set_option maxRecDepth 100000 in
theorem foghornlaw17_alive.calls  (r : Bool) (w : World) (h : foghornlaw17_alive.f  = some r) :
  Calls Try.prog 28 #[] w fun e w' => e = .returned (.bool r) ∧ Below w.heap.size w w' := by
 have hu41 := Try.underlying41
 have hu50 := Try.underlying50
 have HB := aA (Below.refl w.heap.size w)
 have H : ((code_Put.f 2 ([] : List (S41)) 0 0 0 0 0 (([(⟨(⟨#[97]⟩ : ByteArray), (⟨#[120]⟩ : ByteArray)⟩ : S41)] : List (S41))) 0 0 ([] : List (S35))).bind fun bt271 => ((code_Get.f bt271.1).bind fun bt273 => (if bt271.2 = 0 then (if bt273.2.2.2.2.2.2.2.2.2.2.2 = 0 then (if bt271.1.toList = ([2, 1, 1, 97, 1, 120] : List UInt8) then (some ((bt273.2.2.2.2.2.2.2.1.length : Int) == 1)) else (some false)) else (some false)) else (some false)))) = some r := h
 clear h
 obtain ⟨y268, hy268⟩ : ∃ y_ : List (S41), y_ = (([(⟨(⟨#[97]⟩ : ByteArray), (⟨#[120]⟩ : ByteArray)⟩ : S41)] : List (S41))) := ⟨_, rfl⟩
 replace H : ((code_Put.f 2 ([] : List (S41)) 0 0 0 0 0 y268 0 0 ([] : List (S35))).bind fun bt271 => ((code_Get.f bt271.1).bind fun bt273 => (if bt271.2 = 0 then (if bt273.2.2.2.2.2.2.2.2.2.2.2 = 0 then (if bt271.1.toList = ([2, 1, 1, 97, 1, 120] : List UInt8) then (some ((bt273.2.2.2.2.2.2.2.1.length : Int) == 1)) else (some false)) else (some false)) else (some false)))) = some r := by first | (rw [hy268]; with_reducible exact H) | (have H2_ := (Option.bind_some _ _).symm.trans H; rw [hy268]; with_reducible exact H2_) | (have H2_ := (Option.bind_some _ _).symm.trans H; with_reducible exact H2_) | with_reducible exact H | (rw [hy268]; exact H) | exact H
 have Ny268 := aA hy268
 clear hy268
 replace H := Option.bind_eq_some_iff.mp H
 obtain ⟨⟨t271, t272⟩, A10, H⟩ := H
 have A1 := aA A10
 clear A10
 replace H := Option.bind_eq_some_iff.mp H
 obtain ⟨⟨t273, t274, t277, t278, t279, t280, t281, t282, t285, t286, t287, t290⟩, A20, H⟩ := H
 have A2 := aA A20
 clear A20
 by_cases c3 : t272 = 0
 ·rw [if_pos c3] at H
  have c3b0 : (t272 == 0) = true := beq_iff_eq.mpr c3
  have c3b1 : (t272 != 0) = false := bne_eq_false_iff_eq.mpr c3
  clear c3
  by_cases c4 : t290 = 0
  ·rw [if_pos c4] at H
   have c4b0 : (t290 == 0) = true := beq_iff_eq.mpr c4
   have c4b1 : (t290 != 0) = false := bne_eq_false_iff_eq.mpr c4
   clear c4
   by_cases c5 : t271.toList = ([2, 1, 1, 97, 1, 120] : List UInt8)
   ·rw [if_pos c5] at H
    have c5b0 : (t271.toList == ([2, 1, 1, 97, 1, 120] : List UInt8)) = true := beq_iff_eq.mpr c5
    have c5b1 : (t271.toList != ([2, 1, 1, 97, 1, 120] : List UInt8)) = false := bne_eq_false_iff_eq.mpr c5
    clear c5
    obtain rfl := Option.some.inj H
    go_enter Try.func28, Try.ntmps28
    go_wp2_with (first | ((with_reducible refine gate_dst (N := 7) rfl ?_); (try (refine gate_guard (by rfl) ?_; dsimp only)); refine Kd.R_lit k41 _ 41 ?hg (N := 7) ?hd (xs := ([(⟨(⟨#[97]⟩ : ByteArray), (⟨#[120]⟩ : ByteArray)⟩ : S41)] : List (S41))) (inner := [.string (⟨#[97]⟩ : ByteArray), .string (⟨#[120]⟩ : ByteArray)]) (ok := fun _ => True) (okp := fun _ => True) ?hr ?hp (fun _ hk => hk) trivial (Below.refl _ _) (Nat.le_refl _) (by simp) ?_; (case hd => rfl); (case hg => rfl); (case hr => first | (go_simp; done) | (go_simp; rfl)); (case hp => exact (Reps.c2 (show Kd.M k41 _ _ _ (⟨(⟨#[97]⟩ : ByteArray), (⟨#[120]⟩ : ByteArray)⟩ : S41) [.string (⟨#[97]⟩ : ByteArray), .string (⟨#[120]⟩ : ByteArray)] from (k41_mkM _ _ _ (⟨(⟨#[97]⟩ : ByteArray), (⟨#[120]⟩ : ByteArray)⟩ : S41) )) (Reps.none _ _))); intro v269 w6 ho7 hb hg_ hnew_; clear hg_ hnew_; (first | rw [← Ny268.out] at ho7 | (simp only [Int.reduceToNat] at ho7; rw [← Ny268.out] at ho7)); have n0_ := aA (Kd.R_lower ho7 (below_size mB)); have n1_ := aA (below_step mB hb); clear HB; have HO270 := n0_; have HB := n1_; clear n0_ n1_ hb ho7; obtain ⟨Ao8, co8, eo8⟩ := Kd.R_slice HO270.out; subst eo8) | ((with_reducible refine gate_callee (f := 25) rfl ?_); refine goesL_ (some 9) rfl rfl Try.func25 (by kernel_rfl) rfl #[.agg #[.int .i64 2, .slice none 0 0, .int .i64 0, .int .i64 0, .int .i64 0, .int .i64 0, .int .i64 0, .slice Ao8 y268.length co8, .int .i64 0, .int .i64 0, .slice none 0 0]] rfl mS ?_; (refine (code_Put.calls 2 _ _ ([] : List (S41)) 0 0 0 0 0 _ _ y268 0 0 _ _ ([] : List (S35)) t271 t272 _ ?side1 ?side2 ?side3 ?side4 ?side5 ?side6 A1.out).mono ?_); (case side1 => exact Kd.C_nil _ _); (case side2 => exact Nat.le_refl _); (case side3 => exact mC ((Kd.R_reads' HO270.out).2.2)); (case side4 => exact (Kd.R_reads' HO270.out).2.1); (case side5 => exact Kd.C_nil _ _); (case side6 => exact Nat.le_refl _); rintro e w9 ⟨rfl, hb⟩; refine ⟨_, rfl, ?_⟩; have n0_ := aA (Kd.R_below (mR HO270.out) hb); have n1_ := aA (below_step mB hb); clear HO270 HB; have HO270 := n0_; have HB := n1_; clear n0_ n1_; (try clear hb); (try clear hb2); (try clear hk); (try clear hi)) | ((with_reducible refine gate_callee (f := 30) rfl ?_); refine goesL_ (some 14) rfl rfl Try.func30 (by kernel_rfl) rfl #[.string t271] rfl mS ?_; (with_reducible refine (code_Get.calls t271 t273 t274 t277 t278 t279 t280 t281 t282 t285 t286 t287 t290 _ A2.out).mono ?_); rintro e w10 ⟨v275, v283, v288, rfl, ho0, ho1, ho2, hb⟩; refine ⟨_, rfl, ?_⟩; have n0_ := aA (Kd.R_mono (Kd.R_told (Kd.R_told (Kd.R_old (mR HO270.out) hb) (Kd.R_base ho0)) (Kd.R_base ho1)) (fun _ h_ => h_.1)); have n1_ := aA (Kd.R_lower (Kd.R_new' ho0 (Kd.R_lt (mR HO270.out))) (below_size mB)); have n2_ := aA (Kd.R_lower (Kd.R_new' ho1 (Kd.R_lt (mR HO270.out))) (below_size mB)); have n3_ := aA (Kd.R_lower ho2 (below_size mB)); have n4_ := aA (below_step mB hb); clear HO270 HB; have HO270 := n0_; have HO276 := n1_; have HO284 := n2_; have HO289 := n3_; have HB := n4_; clear n0_ n1_ n2_ n3_ n4_; (try clear hb); (try clear hb2); (try clear hk); (try clear hi); (try clear ho0); (try clear ho1); (try clear ho2)) | ((with_reducible refine gate_dst (N := 3) rfl ?_); (try (refine gate_guard (by rfl) ?_; dsimp only)); refine box_event ?hg (N := 3) ?hd (cs := #[.int .i64 0, .slice none 0 0, .int .i64 0, .int .i64 0, .int .i64 0, .int .i64 0, .int .i64 0, .slice none 0 0, .int .i64 0, .int .i64 0, .slice none 0 0]) (t := 50) ?hr ?_; (case hd => rfl); (case hg => rfl); (case hr => first | (go_simp; done) | (go_simp; rfl)); intro gb291 hg w11 hbox hb; have n0_ := aA (Kd.R_below (mR HO270.out) hb); have n1_ := aA (Kd.R_below (mR HO276.out) hb); have n2_ := aA (Kd.R_below (mR HO284.out) hb); have n3_ := aA (Kd.R_below (mR HO289.out) hb); have n4_ := aA (below_step mB hb); have n5_ := aA (hbox); have n6_ := aA ((bZ hg mB)); have n7_ := aA ((bZ hg mB)); clear HO270 HO276 HO284 HO289 HB; have HO270 := n0_; have HO276 := n1_; have HO284 := n2_; have HO289 := n3_; have HB := n4_; have BK291 := n5_; have GW291 := n6_; have GE291 := n7_; clear n0_ n1_ n2_ n3_ n4_ n5_ n6_ n7_ hb hbox hg; obtain ⟨hcz12_0, hcz12_1, hcz12_2, hcz12_3, hcz12_4, hcz12_5, hcz12_6, hcz12_7, hcz12_8, hcz12_9, hcz12_10⟩ := bC11 BK291.out; obtain ⟨hfz12_0, hfz12_1, hfz12_2, hfz12_3, hfz12_4, hfz12_5, hfz12_6, hfz12_7, hfz12_8, hfz12_9, hfz12_10⟩ := bF11 BK291.out; obtain ⟨Ao13, co13, eo13⟩ := Kd.R_slice HO276.out; subst eo13; obtain ⟨Ao14, co14, eo14⟩ := Kd.R_slice HO284.out; subst eo14; obtain ⟨Ao15, co15, eo15⟩ := Kd.R_slice HO289.out; subst eo15))
    go_ret
    exact ⟨by first | rfl | (simp [errW_none, errW_some] <;> rfl) | (simp [*, errW_none, errW_some] <;> rfl), by repeat (first | (with_reducible first | exact HB.out | apply below_alloc | apply pw_below_drewN | apply below_drew1 | refine below_set ?_ GE291.out) | exact HB.out)⟩
   ·rw [if_neg c5] at H
    have c5b0 : (t271.toList == ([2, 1, 1, 97, 1, 120] : List UInt8)) = false := beq_eq_false_iff_ne.mpr c5
    have c5b1 : (t271.toList != ([2, 1, 1, 97, 1, 120] : List UInt8)) = true := bne_iff_ne.mpr c5
    obtain rfl := Option.some.inj H
    go_enter Try.func28, Try.ntmps28
    go_wp2_with (first | ((with_reducible refine gate_dst (N := 7) rfl ?_); (try (refine gate_guard (by rfl) ?_; dsimp only)); refine Kd.R_lit k41 _ 41 ?hg (N := 7) ?hd (xs := ([(⟨(⟨#[97]⟩ : ByteArray), (⟨#[120]⟩ : ByteArray)⟩ : S41)] : List (S41))) (inner := [.string (⟨#[97]⟩ : ByteArray), .string (⟨#[120]⟩ : ByteArray)]) (ok := fun _ => True) (okp := fun _ => True) ?hr ?hp (fun _ hk => hk) trivial (Below.refl _ _) (Nat.le_refl _) (by simp) ?_; (case hd => rfl); (case hg => rfl); (case hr => first | (go_simp; done) | (go_simp; rfl)); (case hp => exact (Reps.c2 (show Kd.M k41 _ _ _ (⟨(⟨#[97]⟩ : ByteArray), (⟨#[120]⟩ : ByteArray)⟩ : S41) [.string (⟨#[97]⟩ : ByteArray), .string (⟨#[120]⟩ : ByteArray)] from (k41_mkM _ _ _ (⟨(⟨#[97]⟩ : ByteArray), (⟨#[120]⟩ : ByteArray)⟩ : S41) )) (Reps.none _ _))); intro v269 w16 ho17 hb hg_ hnew_; clear hg_ hnew_; (first | rw [← Ny268.out] at ho17 | (simp only [Int.reduceToNat] at ho17; rw [← Ny268.out] at ho17)); have n0_ := aA (Kd.R_lower ho17 (below_size mB)); have n1_ := aA (below_step mB hb); clear HB; have HO270 := n0_; have HB := n1_; clear n0_ n1_ hb ho17; obtain ⟨Ao18, co18, eo18⟩ := Kd.R_slice HO270.out; subst eo18) | ((with_reducible refine gate_callee (f := 25) rfl ?_); refine goesL_ (some 9) rfl rfl Try.func25 (by kernel_rfl) rfl #[.agg #[.int .i64 2, .slice none 0 0, .int .i64 0, .int .i64 0, .int .i64 0, .int .i64 0, .int .i64 0, .slice Ao18 y268.length co18, .int .i64 0, .int .i64 0, .slice none 0 0]] rfl mS ?_; (refine (code_Put.calls 2 _ _ ([] : List (S41)) 0 0 0 0 0 _ _ y268 0 0 _ _ ([] : List (S35)) t271 t272 _ ?side1 ?side2 ?side3 ?side4 ?side5 ?side6 A1.out).mono ?_); (case side1 => exact Kd.C_nil _ _); (case side2 => exact Nat.le_refl _); (case side3 => exact mC ((Kd.R_reads' HO270.out).2.2)); (case side4 => exact (Kd.R_reads' HO270.out).2.1); (case side5 => exact Kd.C_nil _ _); (case side6 => exact Nat.le_refl _); rintro e w19 ⟨rfl, hb⟩; refine ⟨_, rfl, ?_⟩; have n0_ := aA (Kd.R_below (mR HO270.out) hb); have n1_ := aA (below_step mB hb); clear HO270 HB; have HO270 := n0_; have HB := n1_; clear n0_ n1_; (try clear hb); (try clear hb2); (try clear hk); (try clear hi)) | ((with_reducible refine gate_callee (f := 30) rfl ?_); refine goesL_ (some 14) rfl rfl Try.func30 (by kernel_rfl) rfl #[.string t271] rfl mS ?_; (with_reducible refine (code_Get.calls t271 t273 t274 t277 t278 t279 t280 t281 t282 t285 t286 t287 t290 _ A2.out).mono ?_); rintro e w20 ⟨v275, v283, v288, rfl, ho0, ho1, ho2, hb⟩; refine ⟨_, rfl, ?_⟩; have n0_ := aA (Kd.R_mono (Kd.R_told (Kd.R_told (Kd.R_old (mR HO270.out) hb) (Kd.R_base ho0)) (Kd.R_base ho1)) (fun _ h_ => h_.1)); have n1_ := aA (Kd.R_lower (Kd.R_new' ho0 (Kd.R_lt (mR HO270.out))) (below_size mB)); have n2_ := aA (Kd.R_lower (Kd.R_new' ho1 (Kd.R_lt (mR HO270.out))) (below_size mB)); have n3_ := aA (Kd.R_lower ho2 (below_size mB)); have n4_ := aA (below_step mB hb); clear HO270 HB; have HO270 := n0_; have HO276 := n1_; have HO284 := n2_; have HO289 := n3_; have HB := n4_; clear n0_ n1_ n2_ n3_ n4_; (try clear hb); (try clear hb2); (try clear hk); (try clear hi); (try clear ho0); (try clear ho1); (try clear ho2)) | ((with_reducible refine gate_dst (N := 3) rfl ?_); (try (refine gate_guard (by rfl) ?_; dsimp only)); refine box_event ?hg (N := 3) ?hd (cs := #[.int .i64 0, .slice none 0 0, .int .i64 0, .int .i64 0, .int .i64 0, .int .i64 0, .int .i64 0, .slice none 0 0, .int .i64 0, .int .i64 0, .slice none 0 0]) (t := 50) ?hr ?_; (case hd => rfl); (case hg => rfl); (case hr => first | (go_simp; done) | (go_simp; rfl)); intro gb291 hg w21 hbox hb; have n0_ := aA (Kd.R_below (mR HO270.out) hb); have n1_ := aA (Kd.R_below (mR HO276.out) hb); have n2_ := aA (Kd.R_below (mR HO284.out) hb); have n3_ := aA (Kd.R_below (mR HO289.out) hb); have n4_ := aA (below_step mB hb); have n5_ := aA (hbox); have n6_ := aA ((bZ hg mB)); have n7_ := aA ((bZ hg mB)); clear HO270 HO276 HO284 HO289 HB; have HO270 := n0_; have HO276 := n1_; have HO284 := n2_; have HO289 := n3_; have HB := n4_; have BK291 := n5_; have GW291 := n6_; have GE291 := n7_; clear n0_ n1_ n2_ n3_ n4_ n5_ n6_ n7_ hb hbox hg; obtain ⟨hcz22_0, hcz22_1, hcz22_2, hcz22_3, hcz22_4, hcz22_5, hcz22_6, hcz22_7, hcz22_8, hcz22_9, hcz22_10⟩ := bC11 BK291.out; obtain ⟨hfz22_0, hfz22_1, hfz22_2, hfz22_3, hfz22_4, hfz22_5, hfz22_6, hfz22_7, hfz22_8, hfz22_9, hfz22_10⟩ := bF11 BK291.out; obtain ⟨Ao23, co23, eo23⟩ := Kd.R_slice HO276.out; subst eo23; obtain ⟨Ao24, co24, eo24⟩ := Kd.R_slice HO284.out; subst eo24; obtain ⟨Ao25, co25, eo25⟩ := Kd.R_slice HO289.out; subst eo25))
    go_ret
    exact ⟨by first | rfl | (simp [errW_none, errW_some] <;> rfl) | (simp [*, errW_none, errW_some] <;> rfl), by repeat (first | (with_reducible first | exact HB.out | apply below_alloc | apply pw_below_drewN | apply below_drew1 | refine below_set ?_ GE291.out) | exact HB.out)⟩
  ·rw [if_neg c4] at H
   have c4b0 : (t290 == 0) = false := beq_eq_false_iff_ne.mpr c4
   have c4b1 : (t290 != 0) = true := bne_iff_ne.mpr c4
   obtain rfl := Option.some.inj H
   go_enter Try.func28, Try.ntmps28
   go_wp2_with (first | ((with_reducible refine gate_dst (N := 7) rfl ?_); (try (refine gate_guard (by rfl) ?_; dsimp only)); refine Kd.R_lit k41 _ 41 ?hg (N := 7) ?hd (xs := ([(⟨(⟨#[97]⟩ : ByteArray), (⟨#[120]⟩ : ByteArray)⟩ : S41)] : List (S41))) (inner := [.string (⟨#[97]⟩ : ByteArray), .string (⟨#[120]⟩ : ByteArray)]) (ok := fun _ => True) (okp := fun _ => True) ?hr ?hp (fun _ hk => hk) trivial (Below.refl _ _) (Nat.le_refl _) (by simp) ?_; (case hd => rfl); (case hg => rfl); (case hr => first | (go_simp; done) | (go_simp; rfl)); (case hp => exact (Reps.c2 (show Kd.M k41 _ _ _ (⟨(⟨#[97]⟩ : ByteArray), (⟨#[120]⟩ : ByteArray)⟩ : S41) [.string (⟨#[97]⟩ : ByteArray), .string (⟨#[120]⟩ : ByteArray)] from (k41_mkM _ _ _ (⟨(⟨#[97]⟩ : ByteArray), (⟨#[120]⟩ : ByteArray)⟩ : S41) )) (Reps.none _ _))); intro v269 w26 ho27 hb hg_ hnew_; clear hg_ hnew_; (first | rw [← Ny268.out] at ho27 | (simp only [Int.reduceToNat] at ho27; rw [← Ny268.out] at ho27)); have n0_ := aA (Kd.R_lower ho27 (below_size mB)); have n1_ := aA (below_step mB hb); clear HB; have HO270 := n0_; have HB := n1_; clear n0_ n1_ hb ho27; obtain ⟨Ao28, co28, eo28⟩ := Kd.R_slice HO270.out; subst eo28) | ((with_reducible refine gate_callee (f := 25) rfl ?_); refine goesL_ (some 9) rfl rfl Try.func25 (by kernel_rfl) rfl #[.agg #[.int .i64 2, .slice none 0 0, .int .i64 0, .int .i64 0, .int .i64 0, .int .i64 0, .int .i64 0, .slice Ao28 y268.length co28, .int .i64 0, .int .i64 0, .slice none 0 0]] rfl mS ?_; (refine (code_Put.calls 2 _ _ ([] : List (S41)) 0 0 0 0 0 _ _ y268 0 0 _ _ ([] : List (S35)) t271 t272 _ ?side1 ?side2 ?side3 ?side4 ?side5 ?side6 A1.out).mono ?_); (case side1 => exact Kd.C_nil _ _); (case side2 => exact Nat.le_refl _); (case side3 => exact mC ((Kd.R_reads' HO270.out).2.2)); (case side4 => exact (Kd.R_reads' HO270.out).2.1); (case side5 => exact Kd.C_nil _ _); (case side6 => exact Nat.le_refl _); rintro e w29 ⟨rfl, hb⟩; refine ⟨_, rfl, ?_⟩; have n0_ := aA (Kd.R_below (mR HO270.out) hb); have n1_ := aA (below_step mB hb); clear HO270 HB; have HO270 := n0_; have HB := n1_; clear n0_ n1_; (try clear hb); (try clear hb2); (try clear hk); (try clear hi)) | ((with_reducible refine gate_callee (f := 30) rfl ?_); refine goesL_ (some 14) rfl rfl Try.func30 (by kernel_rfl) rfl #[.string t271] rfl mS ?_; (with_reducible refine (code_Get.calls t271 t273 t274 t277 t278 t279 t280 t281 t282 t285 t286 t287 t290 _ A2.out).mono ?_); rintro e w30 ⟨v275, v283, v288, rfl, ho0, ho1, ho2, hb⟩; refine ⟨_, rfl, ?_⟩; have n0_ := aA (Kd.R_mono (Kd.R_told (Kd.R_told (Kd.R_old (mR HO270.out) hb) (Kd.R_base ho0)) (Kd.R_base ho1)) (fun _ h_ => h_.1)); have n1_ := aA (Kd.R_lower (Kd.R_new' ho0 (Kd.R_lt (mR HO270.out))) (below_size mB)); have n2_ := aA (Kd.R_lower (Kd.R_new' ho1 (Kd.R_lt (mR HO270.out))) (below_size mB)); have n3_ := aA (Kd.R_lower ho2 (below_size mB)); have n4_ := aA (below_step mB hb); clear HO270 HB; have HO270 := n0_; have HO276 := n1_; have HO284 := n2_; have HO289 := n3_; have HB := n4_; clear n0_ n1_ n2_ n3_ n4_; (try clear hb); (try clear hb2); (try clear hk); (try clear hi); (try clear ho0); (try clear ho1); (try clear ho2)) | ((with_reducible refine gate_dst (N := 3) rfl ?_); (try (refine gate_guard (by rfl) ?_; dsimp only)); refine box_event ?hg (N := 3) ?hd (cs := #[.int .i64 0, .slice none 0 0, .int .i64 0, .int .i64 0, .int .i64 0, .int .i64 0, .int .i64 0, .slice none 0 0, .int .i64 0, .int .i64 0, .slice none 0 0]) (t := 50) ?hr ?_; (case hd => rfl); (case hg => rfl); (case hr => first | (go_simp; done) | (go_simp; rfl)); intro gb291 hg w31 hbox hb; have n0_ := aA (Kd.R_below (mR HO270.out) hb); have n1_ := aA (Kd.R_below (mR HO276.out) hb); have n2_ := aA (Kd.R_below (mR HO284.out) hb); have n3_ := aA (Kd.R_below (mR HO289.out) hb); have n4_ := aA (below_step mB hb); have n5_ := aA (hbox); have n6_ := aA ((bZ hg mB)); have n7_ := aA ((bZ hg mB)); clear HO270 HO276 HO284 HO289 HB; have HO270 := n0_; have HO276 := n1_; have HO284 := n2_; have HO289 := n3_; have HB := n4_; have BK291 := n5_; have GW291 := n6_; have GE291 := n7_; clear n0_ n1_ n2_ n3_ n4_ n5_ n6_ n7_ hb hbox hg; obtain ⟨hcz32_0, hcz32_1, hcz32_2, hcz32_3, hcz32_4, hcz32_5, hcz32_6, hcz32_7, hcz32_8, hcz32_9, hcz32_10⟩ := bC11 BK291.out; obtain ⟨hfz32_0, hfz32_1, hfz32_2, hfz32_3, hfz32_4, hfz32_5, hfz32_6, hfz32_7, hfz32_8, hfz32_9, hfz32_10⟩ := bF11 BK291.out; obtain ⟨Ao33, co33, eo33⟩ := Kd.R_slice HO276.out; subst eo33; obtain ⟨Ao34, co34, eo34⟩ := Kd.R_slice HO284.out; subst eo34; obtain ⟨Ao35, co35, eo35⟩ := Kd.R_slice HO289.out; subst eo35))
   go_ret
   exact ⟨by first | rfl | (simp [errW_none, errW_some] <;> rfl) | (simp [*, errW_none, errW_some] <;> rfl), by repeat (first | (with_reducible first | exact HB.out | apply below_alloc | apply pw_below_drewN | apply below_drew1 | refine below_set ?_ GE291.out) | exact HB.out)⟩
 ·rw [if_neg c3] at H
  have c3b0 : (t272 == 0) = false := beq_eq_false_iff_ne.mpr c3
  have c3b1 : (t272 != 0) = true := bne_iff_ne.mpr c3
  obtain rfl := Option.some.inj H
  go_enter Try.func28, Try.ntmps28
  go_wp2_with (first | ((with_reducible refine gate_dst (N := 7) rfl ?_); (try (refine gate_guard (by rfl) ?_; dsimp only)); refine Kd.R_lit k41 _ 41 ?hg (N := 7) ?hd (xs := ([(⟨(⟨#[97]⟩ : ByteArray), (⟨#[120]⟩ : ByteArray)⟩ : S41)] : List (S41))) (inner := [.string (⟨#[97]⟩ : ByteArray), .string (⟨#[120]⟩ : ByteArray)]) (ok := fun _ => True) (okp := fun _ => True) ?hr ?hp (fun _ hk => hk) trivial (Below.refl _ _) (Nat.le_refl _) (by simp) ?_; (case hd => rfl); (case hg => rfl); (case hr => first | (go_simp; done) | (go_simp; rfl)); (case hp => exact (Reps.c2 (show Kd.M k41 _ _ _ (⟨(⟨#[97]⟩ : ByteArray), (⟨#[120]⟩ : ByteArray)⟩ : S41) [.string (⟨#[97]⟩ : ByteArray), .string (⟨#[120]⟩ : ByteArray)] from (k41_mkM _ _ _ (⟨(⟨#[97]⟩ : ByteArray), (⟨#[120]⟩ : ByteArray)⟩ : S41) )) (Reps.none _ _))); intro v269 w36 ho37 hb hg_ hnew_; clear hg_ hnew_; (first | rw [← Ny268.out] at ho37 | (simp only [Int.reduceToNat] at ho37; rw [← Ny268.out] at ho37)); have n0_ := aA (Kd.R_lower ho37 (below_size mB)); have n1_ := aA (below_step mB hb); clear HB; have HO270 := n0_; have HB := n1_; clear n0_ n1_ hb ho37; obtain ⟨Ao38, co38, eo38⟩ := Kd.R_slice HO270.out; subst eo38) | ((with_reducible refine gate_callee (f := 25) rfl ?_); refine goesL_ (some 9) rfl rfl Try.func25 (by kernel_rfl) rfl #[.agg #[.int .i64 2, .slice none 0 0, .int .i64 0, .int .i64 0, .int .i64 0, .int .i64 0, .int .i64 0, .slice Ao38 y268.length co38, .int .i64 0, .int .i64 0, .slice none 0 0]] rfl mS ?_; (refine (code_Put.calls 2 _ _ ([] : List (S41)) 0 0 0 0 0 _ _ y268 0 0 _ _ ([] : List (S35)) t271 t272 _ ?side1 ?side2 ?side3 ?side4 ?side5 ?side6 A1.out).mono ?_); (case side1 => exact Kd.C_nil _ _); (case side2 => exact Nat.le_refl _); (case side3 => exact mC ((Kd.R_reads' HO270.out).2.2)); (case side4 => exact (Kd.R_reads' HO270.out).2.1); (case side5 => exact Kd.C_nil _ _); (case side6 => exact Nat.le_refl _); rintro e w39 ⟨rfl, hb⟩; refine ⟨_, rfl, ?_⟩; have n0_ := aA (Kd.R_below (mR HO270.out) hb); have n1_ := aA (below_step mB hb); clear HO270 HB; have HO270 := n0_; have HB := n1_; clear n0_ n1_; (try clear hb); (try clear hb2); (try clear hk); (try clear hi)) | ((with_reducible refine gate_callee (f := 30) rfl ?_); refine goesL_ (some 14) rfl rfl Try.func30 (by kernel_rfl) rfl #[.string t271] rfl mS ?_; (with_reducible refine (code_Get.calls t271 t273 t274 t277 t278 t279 t280 t281 t282 t285 t286 t287 t290 _ A2.out).mono ?_); rintro e w40 ⟨v275, v283, v288, rfl, ho0, ho1, ho2, hb⟩; refine ⟨_, rfl, ?_⟩; have n0_ := aA (Kd.R_mono (Kd.R_told (Kd.R_told (Kd.R_old (mR HO270.out) hb) (Kd.R_base ho0)) (Kd.R_base ho1)) (fun _ h_ => h_.1)); have n1_ := aA (Kd.R_lower (Kd.R_new' ho0 (Kd.R_lt (mR HO270.out))) (below_size mB)); have n2_ := aA (Kd.R_lower (Kd.R_new' ho1 (Kd.R_lt (mR HO270.out))) (below_size mB)); have n3_ := aA (Kd.R_lower ho2 (below_size mB)); have n4_ := aA (below_step mB hb); clear HO270 HB; have HO270 := n0_; have HO276 := n1_; have HO284 := n2_; have HO289 := n3_; have HB := n4_; clear n0_ n1_ n2_ n3_ n4_; (try clear hb); (try clear hb2); (try clear hk); (try clear hi); (try clear ho0); (try clear ho1); (try clear ho2)) | ((with_reducible refine gate_dst (N := 3) rfl ?_); (try (refine gate_guard (by rfl) ?_; dsimp only)); refine box_event ?hg (N := 3) ?hd (cs := #[.int .i64 0, .slice none 0 0, .int .i64 0, .int .i64 0, .int .i64 0, .int .i64 0, .int .i64 0, .slice none 0 0, .int .i64 0, .int .i64 0, .slice none 0 0]) (t := 50) ?hr ?_; (case hd => rfl); (case hg => rfl); (case hr => first | (go_simp; done) | (go_simp; rfl)); intro gb291 hg w41 hbox hb; have n0_ := aA (Kd.R_below (mR HO270.out) hb); have n1_ := aA (Kd.R_below (mR HO276.out) hb); have n2_ := aA (Kd.R_below (mR HO284.out) hb); have n3_ := aA (Kd.R_below (mR HO289.out) hb); have n4_ := aA (below_step mB hb); have n5_ := aA (hbox); have n6_ := aA ((bZ hg mB)); have n7_ := aA ((bZ hg mB)); clear HO270 HO276 HO284 HO289 HB; have HO270 := n0_; have HO276 := n1_; have HO284 := n2_; have HO289 := n3_; have HB := n4_; have BK291 := n5_; have GW291 := n6_; have GE291 := n7_; clear n0_ n1_ n2_ n3_ n4_ n5_ n6_ n7_ hb hbox hg; obtain ⟨hcz42_0, hcz42_1, hcz42_2, hcz42_3, hcz42_4, hcz42_5, hcz42_6, hcz42_7, hcz42_8, hcz42_9, hcz42_10⟩ := bC11 BK291.out; obtain ⟨hfz42_0, hfz42_1, hfz42_2, hfz42_3, hfz42_4, hfz42_5, hfz42_6, hfz42_7, hfz42_8, hfz42_9, hfz42_10⟩ := bF11 BK291.out; obtain ⟨Ao43, co43, eo43⟩ := Kd.R_slice HO276.out; subst eo43; obtain ⟨Ao44, co44, eo44⟩ := Kd.R_slice HO284.out; subst eo44; obtain ⟨Ao45, co45, eo45⟩ := Kd.R_slice HO289.out; subst eo45))
  go_ret
  exact ⟨by first | rfl | (simp [errW_none, errW_some] <;> rfl) | (simp [*, errW_none, errW_some] <;> rfl), by repeat (first | (with_reducible first | exact HB.out | apply below_alloc | apply pw_below_drewN | apply below_drew1 | refine below_set ?_ GE291.out) | exact HB.out)⟩
end Go.Proofs.YtndgollcganhmaaQ.P
namespace Go.Proofs.YtndgollcganhmaaQ.P
open Go.RowKit Go.Proofs.YtndgollcganhmaaW.PrintWords Go.Proofs.YtndgollcganhmaaW.PrintLast Go.Proofs.YtndgollcganhmaaW.PrintMore
attribute [local go_sem] max2_int min2_int max_two min_two max_three min_three max_four min_four
def foghornref17_one.f (a0 : Int) : Option (ByteArray) := some (strOfNums (([(a0) % 256] : List Int)))
set_option maxHeartbeats 8000000 in
set_option maxRecDepth 100000 in
theorem foghornref17_one.calls (a0 : Int) (r : ByteArray) (w : World) (h : foghornref17_one.f a0 = some r) :
  Calls Try.prog 57 #[.int .i64 a0] w fun e w' => e = .returned (.string r) ∧ Below w.heap.size w w' := by
 have HB := aA (Below.refl w.heap.size w)
 have H : (some (strOfNums (([(a0) % 256] : List Int)))) = some r := h
 clear h
 obtain ⟨y292, hy292⟩ : ∃ y_ : List Int, y_ = (([(a0) % 256] : List Int)) := ⟨_, rfl⟩
 replace H : (some (strOfNums y292)) = some r := by first | (rw [hy292]; with_reducible exact H) | (have H2_ := (Option.bind_some _ _).symm.trans H; rw [hy292]; with_reducible exact H2_) | (have H2_ := (Option.bind_some _ _).symm.trans H; with_reducible exact H2_) | with_reducible exact H | (rw [hy292]; exact H) | exact H
 have Ny292 := aA hy292
 clear hy292
 obtain rfl := Option.some.inj H
 go_enter Try.func57, Try.ntmps57
 go_wp2_with (first | ((with_reducible refine gate_dst (N := 5) rfl ?_); refine Kd.R_lit (Kd.int .u8) _ 5 ?hg (N := 5) ?hd (xs := ([(a0) % 256] : List Int)) (inner := [.int .u8 ((a0) % 256)]) (ok := fun _ => True) (okp := fun _ => True) ?hr ?hp (fun _ hk => hk) trivial (Below.refl _ _) (Nat.le_refl _) (by simp) ?_; (case hd => rfl); (case hg => rfl); (case hr => first | (go_simp; done) | (go_simp; rfl)); (case hp => exact (Reps.one (show Kd.M (Kd.int .u8) _ _ _ ((a0) % 256) [.int .u8 ((a0) % 256)] from rfl) (Reps.none _ _))); intro v293 w2 ho3 hb hg_ hnew_; clear hg_ hnew_; (first | rw [← Ny292.out] at ho3 | (simp only [Int.reduceToNat] at ho3; rw [← Ny292.out] at ho3)); have n0_ := aA (Kd.R_lower ho3 (below_size mB)); have n1_ := aA (below_step mB hb); clear HB; have HO294 := n0_; have HB := n1_; clear n0_ n1_ hb ho3; have hcv4 := own_string (P := Try.prog) Try.underlying106 Try.underlying5 Try.underlying9 (Kd.own_of_R HO294.out)))
 go_ret
 exact ⟨by first | rfl | (simp [errW_none, errW_some] <;> rfl) | (simp [*, errW_none, errW_some] <;> rfl), by repeat (first | (with_reducible first | exact HB.out | apply below_alloc | apply pw_below_drewN | apply below_drew1) | exact HB.out)⟩
end Go.Proofs.YtndgollcganhmaaQ.P
namespace Go.Proofs.YtndgollcganhmaaQ.P
open Go.RowKit Go.Proofs.YtndgollcganhmaaW.PrintWords Go.Proofs.YtndgollcganhmaaW.PrintLast Go.Proofs.YtndgollcganhmaaW.PrintMore
attribute [local go_sem] max2_int min2_int max_two min_two max_three min_three max_four min_four
def foghornref17_text.f (a0 : ByteArray) : Option (ByteArray) := (foghornref17_one.f (a0.size : Int)).bind fun t295 => (if t295.size + a0.size ≤ 9223372036854775807 then (some (t295 ++ a0)) else (none))
set_option maxHeartbeats 8000000 in
set_option maxRecDepth 100000 in
theorem foghornref17_text.calls (a0 : ByteArray) (r : ByteArray) (w : World) (h : foghornref17_text.f a0 = some r) :
  Calls Try.prog 60 #[.string a0] w fun e w' => e = .returned (.string r) ∧ Below w.heap.size w w' := by
 have HB := aA (Below.refl w.heap.size w)
 have H : ((foghornref17_one.f (a0.size : Int)).bind fun t295 => (if t295.size + a0.size ≤ 9223372036854775807 then (some (t295 ++ a0)) else (none))) = some r := h
 clear h
 replace H := Option.bind_eq_some_iff.mp H
 obtain ⟨t295, A20, H⟩ := H
 have A2 := aA A20
 clear A20
 by_cases c3 : t295.size + a0.size ≤ 9223372036854775807
 ·rw [if_pos c3] at H
  have c3b0 := eq_true c3
  have c3b1 := decide_eq_true c3
  try have c3b2 : (9223372036854775807 < t295.size + a0.size) = False := eq_false (Nat.not_lt.2 c3)
  obtain rfl := Option.some.inj H
  go_enter Try.func60, Try.ntmps60
  go_wp2_with (first | ((with_reducible refine gate_callee (f := 57) rfl ?_); refine goesL_ (some 5) rfl rfl Try.func57 (by kernel_rfl) rfl #[.int .i64 (a0.size : Int)] rfl mS ?_; (with_reducible refine (foghornref17_one.calls (a0.size : Int) t295 _ A2.out).mono ?_); rintro e w4 ⟨rfl, hb⟩; refine ⟨_, rfl, ?_⟩; have n0_ := aA (below_step mB hb); clear HB; have HB := n0_; clear n0_; (try clear hb); (try clear hb2); (try clear hk); (try clear hi)))
  go_ret
  exact ⟨by first | rfl | (simp [errW_none, errW_some] <;> rfl) | (simp [*, errW_none, errW_some] <;> rfl), by repeat (first | (with_reducible first | exact HB.out | apply below_alloc | apply pw_below_drewN | apply below_drew1) | exact HB.out)⟩
 ·rw [if_neg c3] at H
  exact absurd H (by simp)
end Go.Proofs.YtndgollcganhmaaQ.P
namespace Go.Proofs.YtndgollcganhmaaQ.P
open Go.RowKit Go.Proofs.YtndgollcganhmaaW.PrintWords Go.Proofs.YtndgollcganhmaaW.PrintLast Go.Proofs.YtndgollcganhmaaW.PrintMore
attribute [local go_sem] max2_int min2_int max_two min_two max_three min_three max_four min_four
def foghornref17_labels.l0 : Nat → ByteArray → List (S41) → Int → Int → Option (ByteArray)
 | 0, _, _, _, _ => none
 | k + 1, x3, x9, x10, x11 => if x11 < x10 then (if 0 ≤ x11 then (if x11 < (x9.length : Int) then ((foghornref17_text.f ((rd_T41 x9 x11).f0)).bind fun t299 => (if x3.size + t299.size ≤ 9223372036854775807 then ((foghornref17_text.f ((rd_T41 x9 x11).f1)).bind fun t300 => (if (x3 ++ t299).size + t300.size ≤ 9223372036854775807 then (foghornref17_labels.l0 k ((x3 ++ t299) ++ t300) x9 x10 (wrap64 (x11 + 1))) else (none))) else (none))) else (none)) else (none)) else (some x3)
def foghornref17_labels.f (k : Nat) (l0 : List (S41)) : Option (ByteArray) := (foghornref17_one.f (l0.length : Int)).bind fun t296 => (foghornref17_labels.l0 k t296 l0 (l0.length : Int) 0)
def foghornref17_labels.T5 : Bool × List (List Nat × List Nat) := (true, [([], []), ([], []), ([1], [1]), ([2], [2]), ([0, 3], [0, 3]), ([], []), ([5], [5]), ([6, 3], [6]), ([4, 7], [4, 7]), ([8, 7, 0, 1, 2, 3, 4, 5, 6, 7, 8], [0, 8])])
def foghornref17_labels.B5 : List Nat := [0, 0, 2, 6, 15, 0, 32, 110, 255, 511]
theorem foghornref17_labels.tab5 : rtab .any (opsOf Try.f58 5) = foghornref17_labels.T5 := by kernel_rfl
theorem foghornref17_labels.bits5 : waitsOk foghornref17_labels.T5.2 foghornref17_labels.B5 = true := by kernel_rfl
set_option maxHeartbeats 8000000 in
set_option maxRecDepth 100000 in
theorem foghornref17_labels.calls (k : Nat) (A0 : Option Addr) (c0 : Nat) (l0 : List (S41)) (r : ByteArray) (w : World) (hr0 : Kd.C k41 w A0 l0.length l0) (hc0 : l0.length ≤ c0) (h : foghornref17_labels.f k l0 = some r) :
  Calls Try.prog 58 #[.slice A0 l0.length c0] w fun e w' => e = .returned (.string r) ∧ Below w.heap.size w w' := by
 have hu41 := Try.underlying41
 have HR0 := aA hr0
 have HC0 := aA hc0
 clear hr0 hc0
 have HB := aA (Below.refl w.heap.size w)
 have H : ((foghornref17_one.f (l0.length : Int)).bind fun t296 => (foghornref17_labels.l0 k t296 l0 (l0.length : Int) 0)) = some r := h
 clear h
 replace H := Option.bind_eq_some_iff.mp H
 obtain ⟨t296, A20, H⟩ := H
 have A2 := aA A20
 clear A20
 have H' := aA H
 clear H
 go_enter Try.func58, Try.ntmps58
 go_wp2_with (first | ((with_reducible refine gate_callee (f := 57) rfl ?_); refine goesL_ (some 8) rfl rfl Try.func57 (by kernel_rfl) rfl #[.int .i64 (l0.length : Int)] rfl mS ?_; (with_reducible refine (foghornref17_one.calls (l0.length : Int) t296 _ A2.out).mono ?_); rintro e w3 ⟨rfl, hb⟩; refine ⟨_, rfl, ?_⟩; have n0_ := aA (below_step mB hb); clear HB; have HB := n0_; clear n0_; (try clear hb); (try clear hb2); (try clear hk); (try clear hi)))
 go_loopg [3, 11] k (fun kq v3 v11 w' => ∃ (x3_1 : ByteArray) (x11_1 : Int), v3 = .string x3_1 ∧ v11 = .int .i64 x11_1 ∧ Aside0 (foghornref17_labels.l0 kq x3_1 l0 (l0.length : Int) x11_1 = some r) ∧ Aside0 (kq ≤ k) ∧ Aside0 (Below w.heap.size w w'))
 case atStart => exact ⟨(t296), (0), (by first | rfl | (simp; done) | (simp [*]; done)), (by first | rfl | (simp; done) | (simp [*]; done)), H', ⟨Nat.le_refl _⟩, ⟨by repeat (first | (with_reducible first | exact HB.out | apply below_alloc | apply pw_below_drewN | apply below_drew1) | exact HB.out)⟩⟩
 case round =>
  clear H'
  try clear p2
  obtain ⟨x3_1, x11_1, rfl, rfl, HA, HK1, HB⟩ := hrel
  cases gk with
  | zero => exact absurd HA.out (by simp [foghornref17_labels.l0])
  | succ k1 =>
   have H := HA.out
   clear HA
   simp only [foghornref17_labels.l0] at H
   by_cases c4 : x11_1 < (l0.length : Int)
   ·rw [if_pos c4] at H
    have c4b0 : decide (x11_1 < (l0.length : Int)) = true := decide_eq_true c4
    clear c4
    by_cases c5 : 0 ≤ x11_1
    ·rw [if_pos c5] at H
     have c5b0 : decide (0 ≤ x11_1) = true := decide_eq_true c5
     clear c5
     by_cases c6 : x11_1 < (l0.length : Int)
     ·rw [if_pos c6] at H
      have c6b0 : decide (x11_1 < (l0.length : Int)) = true := decide_eq_true c6
      clear c6
      replace H := Option.bind_eq_some_iff.mp H
      obtain ⟨t299, A70, H⟩ := H
      have A7 := aA A70
      clear A70
      by_cases c8 : x3_1.size + t299.size ≤ 9223372036854775807
      ·rw [if_pos c8] at H
       have c8b0 := eq_true c8
       have c8b1 := decide_eq_true c8
       try have c8b2 : (9223372036854775807 < x3_1.size + t299.size) = False := eq_false (Nat.not_lt.2 c8)
       replace H := Option.bind_eq_some_iff.mp H
       obtain ⟨t300, A90, H⟩ := H
       have A9 := aA A90
       clear A90
       by_cases c10 : (x3_1 ++ t299).size + t300.size ≤ 9223372036854775807
       ·rw [if_pos c10] at H
        have c10b0 := eq_true c10
        have c10b1 := decide_eq_true c10
        try have c10b2 : (9223372036854775807 < (x3_1 ++ t299).size + t300.size) = False := eq_false (Nat.not_lt.2 c10)
        try have c10b3 : (9223372036854775807 < (x3_1).size + (t299).size + (t300).size) = False := eq_false (by have h_ := c10; simp only [ByteArray.size_append] at h_; omega)
        have H' := aA H
        clear H
        have p297 : 0 ≤ (x11_1 : Int) := of_decide_eq_true (by first | (with_reducible assumption) | assumption)
        have q297 : x11_1 < (l0.length : Int) := of_decide_eq_true (by first | (with_reducible assumption) | assumption)
        obtain ⟨ad297, e297, hx297_0, hx297_1⟩ := at_T41 HR0.out x11_1 p297 q297
        cases e297
        replace hx297_0 := (HB.out.cell (World.block_lt_of_cell? w _ hx297_0)).trans hx297_0
        replace hx297_1 := (HB.out.cell (World.block_lt_of_cell? w _ hx297_1)).trans hx297_1
        replace p297 := eq_true p297
        replace q297 := eq_true q297
        try go_wp2_with (first | ((with_reducible refine gate_dst (N := 5) rfl ?_); refine box_event ?hg (N := 5) ?hd (cs := #[.string (⟨#[]⟩ : ByteArray), .string (⟨#[]⟩ : ByteArray)]) (t := 41) ?hr ?_; (case hd => rfl); (case hg => rfl); (case hr => first | (go_simp; done) | (go_simp; rfl)); intro gb298 hg w11 hbox hb; have n0_ := aA (below_step mB hb); have n1_ := aA (hbox); have n2_ := aA ((bZ hg mB)); have n3_ := aA ((bZ hg mB)); clear HB; have HB := n0_; have BK298 := n1_; have GW298 := n2_; have GE298 := n3_; clear n0_ n1_ n2_ n3_ hb hbox hg; obtain ⟨hcz12_0, hcz12_1⟩ := bC2 BK298.out; obtain ⟨hfz12_0, hfz12_1⟩ := bF2 BK298.out))
        have n0_ : Aside0 (((w11.setCell ⟨gb298, 0, none⟩ (.string ((rd_T41 l0 x11_1).f0))).setCell ⟨gb298, 1, none⟩ (.string ((rd_T41 l0 x11_1).f1))).heap[gb298]? = some (.cells #[.string ((rd_T41 l0 x11_1).f0), .string ((rd_T41 l0 x11_1).f1)] 41 (0, 0))) := ⟨by (with_reducible repeat (first | refine blk_drewN ?_ _ | refine blk_drew ?_ | refine blk_alloc ?_ _)); refine blk_put (cs := #[.string ((rd_T41 l0 x11_1).f0), .string (⟨#[]⟩ : ByteArray)]) ?_ 1 _ rfl; (with_reducible repeat (first | refine blk_drewN ?_ _ | refine blk_drew ?_ | refine blk_alloc ?_ _)); refine blk_put (cs := #[.string (⟨#[]⟩ : ByteArray), .string (⟨#[]⟩ : ByteArray)]) ?_ 0 _ rfl; (with_reducible repeat (first | refine blk_drewN ?_ _ | refine blk_drew ?_ | refine blk_alloc ?_ _)); exact BK298.out⟩
        have n1_ : Aside0 (Below w.heap.size w ((w11.setCell ⟨gb298, 0, none⟩ (.string ((rd_T41 l0 x11_1).f0))).setCell ⟨gb298, 1, none⟩ (.string ((rd_T41 l0 x11_1).f1)))) := ⟨by repeat (first | (with_reducible first | exact HB.out | apply below_alloc | apply pw_below_drewN | apply below_drew1 | refine below_set ?_ GE298.out) | exact HB.out)⟩
        (try clear BK298)
        (try clear HB)
        generalize ((w11.setCell ⟨gb298, 0, none⟩ (.string ((rd_T41 l0 x11_1).f0))).setCell ⟨gb298, 1, none⟩ (.string ((rd_T41 l0 x11_1).f1))) = w13 at n0_ n1_ ⊢
        have BK298 := n0_
        have HB := n1_
        clear n0_ n1_
        have n0_ := aA (blk_drew BK298.out)
        have n1_ := aA (below_drew1 HB.out)
        clear BK298
        clear HB
        have BK298 := n0_
        have HB := n1_
        clear n0_ n1_
        refine start_ (n := 10) (S := fun w' => w'.cell? ⟨gb298, 0, none⟩ = some (.string ((rd_T41 l0 x11_1).f0)) ∧ w'.cell? ⟨gb298, 1, none⟩ = some (.string ((rd_T41 l0 x11_1).f1))) (ds := []) #[false, false, false, false, false, false, false, false, false, false] (by kernel_rfl) rfl rfl (bC2 BK298.out) (fun hHeld => ?_); refine with_tabW foghornref17_labels.tab5 foghornref17_labels.bits5 (fun HT_ HW_ => ?_)
        generalize w13.drew = w14 at BK298 HB hHeld ⊢
        refine pure_ (i := 0) (N := some 15) (v := ?_) (a' := ?_) #[true, false, false, false, false, false, false, false, false, false] rfl rfl (any_of HT_.out (by kernel_rfl)) (fun _ _ _ h => h) (Or.inl ⟨by rfl, ?_⟩) ?_ ?_
        rotate_left
        ·intro w'
         go_simp
         with_reducible rfl
        rotate_left
        ·exact mP
        refine pure_ (i := 1) (N := some 16) (v := ?_) (a' := ?_) #[true, true, false, false, false, false, false, false, false, false] rfl rfl (any_of HT_.out (by kernel_rfl)) (fun _ _ _ h => h) (Or.inl ⟨by rfl, ?_⟩) ?_ ?_
        rotate_left
        ·intro w'
         go_simp
         with_reducible rfl
        rotate_left
        ·exact mP
        refine pure_ (i := 5) (N := some 20) (v := ?_) (a' := ?_) #[true, true, false, false, false, true, false, false, false, false] rfl rfl (any_of HT_.out (by kernel_rfl)) (fun _ _ _ h => h) (Or.inl ⟨by rfl, ?_⟩) ?_ ?_
        rotate_left
        ·intro w'
         go_simp
         with_reducible rfl
        rotate_left
        ·exact mP
        refine take_ (i := 2) (N := some 17) (v := ?_) (a' := ?_) #[true, true, true, false, false, true, false, false, false, false] rfl rfl (take_ofW HT_.out HW_.out (by kernel_rfl)) (fun _ _ _ h => h) (Or.inl ⟨by rfl, ?_⟩) hHeld ?_ ?_
        rotate_left
        ·rintro w' ⟨s0, s1⟩
         go_simp
         with_reducible rfl
        rotate_left
        ·exact mP
        refine take_ (i := 6) (N := some 21) (v := ?_) (a' := ?_) #[true, true, true, false, false, true, true, false, false, false] rfl rfl (take_ofW HT_.out HW_.out (by kernel_rfl)) (fun _ _ _ h => h) (Or.inl ⟨by rfl, ?_⟩) hHeld ?_ ?_
        rotate_left
        ·rintro w' ⟨s0, s1⟩
         go_simp
         with_reducible rfl
        rotate_left
        ·exact mP
        refine one_ (i := 3) (N := some 18) #[true, true, true, true, false, true, true, false, false, false] rfl rfl (one_of HT_.out (by kernel_rfl)) (by decide) (fun K hK => ?_)
        refine goes_ Try.func60 (by kernel_rfl) rfl #[.string ((rd_T41 l0 x11_1).f0)] (by rfl) rfl rfl mS ?_
        with_reducible refine (foghornref17_text.calls ((rd_T41 l0 x11_1).f0) t299 _ A7.out).mono ?_
        rintro e w15 ⟨rfl, hb⟩
        refine ⟨_, rfl, ?_⟩
        have n0_ := aA (bB BK298.out hb)
        have n1_ := aA (below_step (mD1 GE298.out) hb)
        clear BK298
        clear HB
        have BK298 := n0_
        have HB := n1_
        clear n0_ n1_
        (try clear hb)
        (try clear hb2)
        (try clear hk)
        (try clear hi)
        refine hK.out _ _ (bC2 BK298.out) (fun hHeld => ?_)
        clear hK K
        refine norm_ (a' := ?_) ?_ ?_
        rotate_left
        ·show Act.put _ (some 18) _ = _
         simp only [Act.put, List.setIfInBounds_toArray, List.set_cons_zero, List.set_cons_succ, i64_w, i32_w]
         rfl
        refine pure_ (i := 4) (N := some 19) (v := ?_) (a' := ?_) #[true, true, true, true, true, true, true, false, false, false] rfl rfl (any_of HT_.out (by kernel_rfl)) (fun _ _ _ h => h) (Or.inl ⟨by rfl, ?_⟩) ?_ ?_
        rotate_left
        ·intro w'
         go_simp
         with_reducible rfl
        rotate_left
        ·exact mP
        refine one_ (i := 7) (N := some 22) #[true, true, true, true, true, true, true, true, false, false] rfl rfl (one_of HT_.out (by kernel_rfl)) (by decide) (fun K hK => ?_)
        refine goes_ Try.func60 (by kernel_rfl) rfl #[.string ((rd_T41 l0 x11_1).f1)] (by rfl) rfl rfl mS ?_
        with_reducible refine (foghornref17_text.calls ((rd_T41 l0 x11_1).f1) t300 _ A9.out).mono ?_
        rintro e w16 ⟨rfl, hb⟩
        refine ⟨_, rfl, ?_⟩
        have n0_ := aA (bB BK298.out hb)
        have n1_ := aA (below_step (mD1 GE298.out) hb)
        clear BK298
        clear HB
        have BK298 := n0_
        have HB := n1_
        clear n0_ n1_
        (try clear hb)
        (try clear hb2)
        (try clear hk)
        (try clear hi)
        refine hK.out _ _ (bC2 BK298.out) (fun hHeld => ?_)
        clear hK K
        refine norm_ (a' := ?_) ?_ ?_
        rotate_left
        ·show Act.put _ (some 22) _ = _
         simp only [Act.put, List.setIfInBounds_toArray, List.set_cons_zero, List.set_cons_succ, i64_w, i32_w]
         rfl
        refine pure_ (i := 8) (N := some 23) (v := ?_) (a' := ?_) #[true, true, true, true, true, true, true, true, true, false] rfl rfl (any_of HT_.out (by kernel_rfl)) (fun _ _ _ h => h) (Or.inl ⟨by rfl, ?_⟩) ?_ ?_
        rotate_left
        ·intro w'
         go_simp
         with_reducible rfl
        rotate_left
        ·exact mP
        refine pure_ (i := 9) (N := some 3) (v := ?_) (a' := ?_) #[true, true, true, true, true, true, true, true, true, true] rfl rfl (any_of HT_.out (by kernel_rfl)) (fun _ _ _ h => h) (Or.inl ⟨by rfl, ?_⟩) ?_ ?_
        rotate_left
        ·intro w'
         go_simp
         with_reducible rfl
        rotate_left
        ·exact mP
        refine done_ (done_of HT_.out (by kernel_rfl)) ?_
        try go_wp2
        go_roundg k1
        case measure => have := HK1.out; omega
        case rel => exact ⟨((x3_1 ++ t299) ++ t300), (wrap64 (x11_1 + 1)), (by first | rfl | (simp; done) | (simp [*]; done)), (by first | rfl | (simp; done) | (simp [*]; done)), H', ⟨by have := HK1.out; omega⟩, ⟨by repeat (first | (with_reducible first | exact HB.out | apply below_alloc | apply pw_below_drewN | apply below_drew1 | refine below_set ?_ GE298.out) | exact HB.out)⟩⟩
       ·rw [if_neg c10] at H
        exact absurd H (by simp)
      ·rw [if_neg c8] at H
       exact absurd H (by simp)
     ·rw [if_neg c6] at H
      exact absurd H (by simp)
    ·rw [if_neg c5] at H
     exact absurd H (by simp)
   ·rw [if_neg c4] at H
    have c4b0 : decide (x11_1 < (l0.length : Int)) = false := decide_eq_false c4
    clear c4
    obtain rfl := Option.some.inj H
    go_wp2
    go_ret
    exact ⟨by first | rfl | (simp [errW_none, errW_some] <;> rfl) | (simp [*, errW_none, errW_some] <;> rfl), by repeat (first | (with_reducible first | exact HB.out | apply below_alloc | apply pw_below_drewN | apply below_drew1) | exact HB.out)⟩
end Go.Proofs.YtndgollcganhmaaQ.P
namespace Go.Proofs.YtndgollcganhmaaQ.P
open Go.RowKit Go.Proofs.YtndgollcganhmaaW.PrintWords Go.Proofs.YtndgollcganhmaaW.PrintLast Go.Proofs.YtndgollcganhmaaW.PrintMore
attribute [local go_sem] max2_int min2_int max_two min_two max_three min_three max_four min_four
def foghornref17_six.l0 : Nat → Int → ByteArray → Int → Option (ByteArray)
 | 0, _, _, _ => none
 | k + 1, x0, x3, x4 => if x4 < 6 then ((foghornref17_one.f (Int.tmod x0 256)).bind fun t301 => (if t301.size + x3.size ≤ 9223372036854775807 then (foghornref17_six.l0 k (wrap64 (Int.tdiv x0 256)) (t301 ++ x3) (wrap64 (x4 + 1))) else (none))) else (some x3)
def foghornref17_six.f (k : Nat) (a0 : Int) : Option (ByteArray) := foghornref17_six.l0 k a0 (⟨#[]⟩ : ByteArray) 0
set_option maxHeartbeats 8000000 in
set_option maxRecDepth 100000 in
theorem foghornref17_six.calls (k : Nat) (a0 : Int) (r : ByteArray) (w : World) (h : foghornref17_six.f k a0 = some r) :
  Calls Try.prog 59 #[.int .i64 a0] w fun e w' => e = .returned (.string r) ∧ Below w.heap.size w w' := by
 have HB := aA (Below.refl w.heap.size w)
 have H : (foghornref17_six.l0 k a0 (⟨#[]⟩ : ByteArray) 0) = some r := h
 clear h
 have H' := aA H
 clear H
 go_enter Try.func59, Try.ntmps59
 go_wp2
 go_loopg [0, 3, 4] k (fun kq v0 v3 v4 w' => ∃ (x0_1 : Int) (x3_1 : ByteArray) (x4_1 : Int), v0 = .int .i64 x0_1 ∧ v3 = .string x3_1 ∧ v4 = .int .i64 x4_1 ∧ Aside0 (foghornref17_six.l0 kq x0_1 x3_1 x4_1 = some r) ∧ Aside0 (kq ≤ k) ∧ Aside0 (Below w.heap.size w w'))
 case atStart => exact ⟨(a0), ((⟨#[]⟩ : ByteArray)), (0), (by first | rfl | (simp; done) | (simp [*]; done)), (by first | rfl | (simp; done) | (simp [*]; done)), (by first | rfl | (simp; done) | (simp [*]; done)), H', ⟨Nat.le_refl _⟩, ⟨by repeat (first | (with_reducible first | exact HB.out | apply below_alloc | apply pw_below_drewN | apply below_drew1) | exact HB.out)⟩⟩
 case round =>
  clear H'
  obtain ⟨x0_1, x3_1, x4_1, rfl, rfl, rfl, HA, HK1, HB⟩ := hrel
  cases gk with
  | zero => exact absurd HA.out (by simp [foghornref17_six.l0])
  | succ k1 =>
   have H := HA.out
   clear HA
   simp only [foghornref17_six.l0] at H
   by_cases c2 : x4_1 < 6
   ·rw [if_pos c2] at H
    have c2b0 : decide (x4_1 < 6) = true := decide_eq_true c2
    clear c2
    replace H := Option.bind_eq_some_iff.mp H
    obtain ⟨t301, A30, H⟩ := H
    have A3 := aA A30
    clear A30
    by_cases c4 : t301.size + x3_1.size ≤ 9223372036854775807
    ·rw [if_pos c4] at H
     have c4b0 := eq_true c4
     have c4b1 := decide_eq_true c4
     try have c4b2 : (9223372036854775807 < t301.size + x3_1.size) = False := eq_false (Nat.not_lt.2 c4)
     have H' := aA H
     clear H
     go_wp2_with (first | ((with_reducible refine gate_callee (f := 57) rfl ?_); refine goesL_ (some 11) rfl rfl Try.func57 (by kernel_rfl) rfl #[.int .i64 (Int.tmod x0_1 256)] rfl mS ?_; (with_reducible refine (foghornref17_one.calls (Int.tmod x0_1 256) t301 _ A3.out).mono ?_); rintro e w5 ⟨rfl, hb⟩; refine ⟨_, rfl, ?_⟩; have n0_ := aA (below_step mB hb); clear HB; have HB := n0_; clear n0_; (try clear hb); (try clear hb2); (try clear hk); (try clear hi)))
     go_roundg k1
     case measure => have := HK1.out; omega
     case rel => exact ⟨(wrap64 (Int.tdiv x0_1 256)), (t301 ++ x3_1), (wrap64 (x4_1 + 1)), (by first | rfl | (simp; done) | (simp [*]; done)), (by first | rfl | (simp; done) | (simp [*]; done)), (by first | rfl | (simp; done) | (simp [*]; done)), H', ⟨by have := HK1.out; omega⟩, ⟨by repeat (first | (with_reducible first | exact HB.out | apply below_alloc | apply pw_below_drewN | apply below_drew1) | exact HB.out)⟩⟩
    ·rw [if_neg c4] at H
     exact absurd H (by simp)
   ·rw [if_neg c2] at H
    have c2b0 : decide (x4_1 < 6) = false := decide_eq_false c2
    clear c2
    obtain rfl := Option.some.inj H
    go_wp2
    go_ret
    exact ⟨by first | rfl | (simp [errW_none, errW_some] <;> rfl) | (simp [*, errW_none, errW_some] <;> rfl), by repeat (first | (with_reducible first | exact HB.out | apply below_alloc | apply pw_below_drewN | apply below_drew1) | exact HB.out)⟩
end Go.Proofs.YtndgollcganhmaaQ.P
namespace Go.Proofs.YtndgollcganhmaaQ.P
open Go.RowKit Go.Proofs.YtndgollcganhmaaW.PrintWords Go.Proofs.YtndgollcganhmaaW.PrintLast Go.Proofs.YtndgollcganhmaaW.PrintMore
attribute [local go_sem] max2_int min2_int max_two min_two max_three min_three max_four min_four
def foghornref17_Put.l0 : Nat → ByteArray → List (S35) → Int → Int → Option (ByteArray)
 | 0, _, _, _, _ => none
 | k + 1, x4, x64, x65, x66 => if x66 < x65 then (if 0 ≤ x66 then (if x66 < (x64.length : Int) then ((foghornref17_one.f ((rd_T35 x64 x66).f0)).bind fun t319 => (if x4.size + t319.size ≤ 9223372036854775807 then ((foghornref17_text.f ((rd_T35 x64 x66).f1)).bind fun t320 => (if (x4 ++ t319).size + t320.size ≤ 9223372036854775807 then ((foghornref17_text.f ((rd_T35 x64 x66).f2)).bind fun t321 => (if ((x4 ++ t319) ++ t320).size + t321.size ≤ 9223372036854775807 then (foghornref17_Put.l0 k (((x4 ++ t319) ++ t320) ++ t321) x64 x65 (wrap64 (x66 + 1))) else (none))) else (none))) else (none))) else (none)) else (none)) else (some x4)
def foghornref17_Put.f (k : Nat) (a0_0 : Int) (l0_1 : List (S41)) (a0_2 : Int) (a0_3 : Int) (a0_4 : Int) (a0_5 : Int) (a0_6 : Int) (l0_7 : List (S41)) (a0_8 : Int) (a0_9 : Int) (l0_10 : List (S35)) : Option (ByteArray) := if a0_0 = 2 then ((foghornref17_one.f 2).bind fun t303 => ((foghornref17_labels.f k l0_7).bind fun t304 => (if t303.size + t304.size ≤ 9223372036854775807 then (some (t303 ++ t304)) else (none)))) else (if a0_0 = 1 then ((foghornref17_one.f 1).bind fun t306 => ((foghornref17_one.f a0_2).bind fun t307 => (if t306.size + t307.size ≤ 9223372036854775807 then ((foghornref17_one.f a0_3).bind fun t308 => (if (t306 ++ t307).size + t308.size ≤ 9223372036854775807 then ((foghornref17_one.f a0_4).bind fun t309 => (if ((t306 ++ t307) ++ t308).size + t309.size ≤ 9223372036854775807 then ((foghornref17_one.f a0_6).bind fun t310 => (if (((t306 ++ t307) ++ t308) ++ t309).size + t310.size ≤ 9223372036854775807 then ((foghornref17_six.f k a0_5).bind fun t311 => (if ((((t306 ++ t307) ++ t308) ++ t309) ++ t310).size + t311.size ≤ 9223372036854775807 then ((foghornref17_labels.f k l0_1).bind fun t312 => (if (((((t306 ++ t307) ++ t308) ++ t309) ++ t310) ++ t311).size + t312.size ≤ 9223372036854775807 then (some ((((((t306 ++ t307) ++ t308) ++ t309) ++ t310) ++ t311) ++ t312)) else (none))) else (none))) else (none))) else (none))) else (none))) else (none)))) else ((foghornref17_one.f 3).bind fun t313 => ((foghornref17_six.f k a0_8).bind fun t314 => (if t313.size + t314.size ≤ 9223372036854775807 then ((foghornref17_six.f k a0_9).bind fun t315 => (if (t313 ++ t314).size + t315.size ≤ 9223372036854775807 then ((foghornref17_one.f (l0_10.length : Int)).bind fun t316 => (if ((t313 ++ t314) ++ t315).size + t316.size ≤ 9223372036854775807 then (foghornref17_Put.l0 k (((t313 ++ t314) ++ t315) ++ t316) l0_10 (l0_10.length : Int) 0) else (none))) else (none))) else (none)))))
def foghornref17_Put.T5 : Bool × List (List Nat × List Nat) := (true, [([], []), ([], []), ([1], [1]), ([2, 0], [2]), ([0, 3], [0, 3]), ([], []), ([5], [5]), ([6, 3], [6]), ([4, 7], [4, 7]), ([], []), ([9], [9]), ([10, 7], [10]), ([8, 11], [8, 11]), ([], []), ([13], [13]), ([14, 11], [14]), ([12, 15], [12, 15]), ([], []), ([17], [17]), ([18, 15], [18]), ([16, 19], [16, 19]), ([], []), ([21], [21]), ([22, 19], [22]), ([20, 23], [20, 23]), ([24, 23, 0, 1, 2, 3, 4, 5, 6, 7, 8, 9, 10, 11, 12, 13, 14, 15, 16, 17, 18, 19, 20, 21, 22, 23, 24], [24])])
def foghornref17_Put.B5 : List Nat := [0, 0, 2, 7, 15, 0, 32, 111, 255, 0, 512, 1775, 4095, 0, 8192, 28399, 65535, 0, 131072, 454383, 1048575, 0, 2097152, 7270127, 16777215, 33554431]
theorem foghornref17_Put.tab5 : rtab .any (opsOf Try.f29 5) = foghornref17_Put.T5 := by kernel_rfl
theorem foghornref17_Put.bits5 : waitsOk foghornref17_Put.T5.2 foghornref17_Put.B5 = true := by kernel_rfl
def foghornref17_Put.T6 : Bool × List (List Nat × List Nat) := (true, [([], []), ([], []), ([1], [1]), ([2], [2]), ([3, 0], [3]), ([0, 4], [0, 4]), ([], []), ([6], [6]), ([7], [7]), ([8, 4], [8]), ([5, 9], [5, 9]), ([], []), ([11], [11]), ([12], [12]), ([13], [13]), ([14, 9], [14]), ([10, 15], [10, 15]), ([16, 15, 0, 1, 2, 3, 4, 5, 6, 7, 8, 9, 10, 11, 12, 13, 14, 15, 16], [16])])
def foghornref17_Put.B6 : List Nat := [0, 0, 2, 6, 15, 31, 0, 64, 192, 479, 1023, 0, 2048, 6144, 14336, 31711, 65535, 131071]
theorem foghornref17_Put.tab6 : rtab .any (opsOf Try.f29 6) = foghornref17_Put.T6 := by kernel_rfl
theorem foghornref17_Put.bits6 : waitsOk foghornref17_Put.T6.2 foghornref17_Put.B6 = true := by kernel_rfl
def foghornref17_Put.T10 : Bool × List (List Nat × List Nat) := (true, [([], []), ([], []), ([1], [1]), ([2], [2]), ([0, 3], [0, 3]), ([], []), ([5], [5]), ([6, 3], [6]), ([4, 7], [4, 7]), ([], []), ([9], [9]), ([10, 7], [10]), ([8, 11], [8, 11]), ([12, 11, 0, 1, 2, 3, 4, 5, 6, 7, 8, 9, 10, 11, 12], [0, 12])])
def foghornref17_Put.B10 : List Nat := [0, 0, 2, 6, 15, 0, 32, 110, 255, 0, 512, 1774, 4095, 8191]
theorem foghornref17_Put.tab10 : rtab .any (opsOf Try.f29 10) = foghornref17_Put.T10 := by kernel_rfl
theorem foghornref17_Put.bits10 : waitsOk foghornref17_Put.T10.2 foghornref17_Put.B10 = true := by kernel_rfl
set_option maxHeartbeats 8000000 in
set_option maxRecDepth 100000 in
theorem foghornref17_Put.calls (k : Nat) (a0_0 : Int) (A0_1 : Option Addr) (c0_1 : Nat) (l0_1 : List (S41)) (a0_2 : Int) (a0_3 : Int) (a0_4 : Int) (a0_5 : Int) (a0_6 : Int) (A0_7 : Option Addr) (c0_7 : Nat) (l0_7 : List (S41)) (a0_8 : Int) (a0_9 : Int) (A0_10 : Option Addr) (c0_10 : Nat) (l0_10 : List (S35)) (r : ByteArray) (w : World) (hr0_1 : Kd.C k41 w A0_1 l0_1.length l0_1) (hc0_1 : l0_1.length ≤ c0_1) (hr0_7 : Kd.C k41 w A0_7 l0_7.length l0_7) (hc0_7 : l0_7.length ≤ c0_7) (hr0_10 : Kd.C k35 w A0_10 l0_10.length l0_10) (hc0_10 : l0_10.length ≤ c0_10) (h : foghornref17_Put.f k a0_0 l0_1 a0_2 a0_3 a0_4 a0_5 a0_6 l0_7 a0_8 a0_9 l0_10 = some r) :
  Calls Try.prog 29 #[.agg #[.int .i64 a0_0, .slice A0_1 l0_1.length c0_1, .int .i64 a0_2, .int .i64 a0_3, .int .i64 a0_4, .int .i64 a0_5, .int .i64 a0_6, .slice A0_7 l0_7.length c0_7, .int .i64 a0_8, .int .i64 a0_9, .slice A0_10 l0_10.length c0_10]] w fun e w' => e = .returned (.string r) ∧ Below w.heap.size w w' := by
 have hu50 := Try.underlying50
 have hu46 := Try.underlying46
 have hu35 := Try.underlying35
 have HR0_1 := aA hr0_1
 have HC0_1 := aA hc0_1
 clear hr0_1 hc0_1
 have HR0_7 := aA hr0_7
 have HC0_7 := aA hc0_7
 clear hr0_7 hc0_7
 have HR0_10 := aA hr0_10
 have HC0_10 := aA hc0_10
 clear hr0_10 hc0_10
 have HB := aA (Below.refl w.heap.size w)
 have H : (if a0_0 = 2 then ((foghornref17_one.f 2).bind fun t303 => ((foghornref17_labels.f k l0_7).bind fun t304 => (if t303.size + t304.size ≤ 9223372036854775807 then (some (t303 ++ t304)) else (none)))) else (if a0_0 = 1 then ((foghornref17_one.f 1).bind fun t306 => ((foghornref17_one.f a0_2).bind fun t307 => (if t306.size + t307.size ≤ 9223372036854775807 then ((foghornref17_one.f a0_3).bind fun t308 => (if (t306 ++ t307).size + t308.size ≤ 9223372036854775807 then ((foghornref17_one.f a0_4).bind fun t309 => (if ((t306 ++ t307) ++ t308).size + t309.size ≤ 9223372036854775807 then ((foghornref17_one.f a0_6).bind fun t310 => (if (((t306 ++ t307) ++ t308) ++ t309).size + t310.size ≤ 9223372036854775807 then ((foghornref17_six.f k a0_5).bind fun t311 => (if ((((t306 ++ t307) ++ t308) ++ t309) ++ t310).size + t311.size ≤ 9223372036854775807 then ((foghornref17_labels.f k l0_1).bind fun t312 => (if (((((t306 ++ t307) ++ t308) ++ t309) ++ t310) ++ t311).size + t312.size ≤ 9223372036854775807 then (some ((((((t306 ++ t307) ++ t308) ++ t309) ++ t310) ++ t311) ++ t312)) else (none))) else (none))) else (none))) else (none))) else (none))) else (none)))) else ((foghornref17_one.f 3).bind fun t313 => ((foghornref17_six.f k a0_8).bind fun t314 => (if t313.size + t314.size ≤ 9223372036854775807 then ((foghornref17_six.f k a0_9).bind fun t315 => (if (t313 ++ t314).size + t315.size ≤ 9223372036854775807 then ((foghornref17_one.f (l0_10.length : Int)).bind fun t316 => (if ((t313 ++ t314) ++ t315).size + t316.size ≤ 9223372036854775807 then (foghornref17_Put.l0 k (((t313 ++ t314) ++ t315) ++ t316) l0_10 (l0_10.length : Int) 0) else (none))) else (none))) else (none)))))) = some r := h
 clear h
 by_cases c2 : a0_0 = 2
 ·rw [if_pos c2] at H
  have c2b0 : (a0_0 == 2) = true := beq_iff_eq.mpr c2
  have c2b1 : (a0_0 != 2) = false := bne_eq_false_iff_eq.mpr c2
  clear c2
  replace H := Option.bind_eq_some_iff.mp H
  obtain ⟨t303, A30, H⟩ := H
  have A3 := aA A30
  clear A30
  replace H := Option.bind_eq_some_iff.mp H
  obtain ⟨t304, A40, H⟩ := H
  have A4 := aA A40
  clear A40
  by_cases c5 : t303.size + t304.size ≤ 9223372036854775807
  ·rw [if_pos c5] at H
   have c5b0 := eq_true c5
   have c5b1 := decide_eq_true c5
   try have c5b2 : (9223372036854775807 < t303.size + t304.size) = False := eq_false (Nat.not_lt.2 c5)
   obtain rfl := Option.some.inj H
   go_enter Try.func29, Try.ntmps29
   try go_wp2_with (first | ((with_reducible refine gate_dst (N := 1) rfl ?_); refine box_event ?hg (N := 1) ?hd (cs := #[.int .i64 a0_0, .slice A0_1 l0_1.length c0_1, .int .i64 a0_2, .int .i64 a0_3, .int .i64 a0_4, .int .i64 a0_5, .int .i64 a0_6, .slice A0_7 l0_7.length c0_7, .int .i64 a0_8, .int .i64 a0_9, .slice A0_10 l0_10.length c0_10]) (t := 50) ?hr ?_; (case hd => rfl); (case hg => rfl); (case hr => first | (go_simp; done) | (go_simp; rfl)); intro gb302 hg w6 hbox hb; have n0_ := aA (below_step mB hb); have n1_ := aA (hbox); have n2_ := aA ((bZ hg mB)); have n3_ := aA ((bZ hg mB)); clear HB; have HB := n0_; have BK302 := n1_; have GW302 := n2_; have GE302 := n3_; clear n0_ n1_ n2_ n3_ hb hbox hg; obtain ⟨hcz7_0, hcz7_1, hcz7_2, hcz7_3, hcz7_4, hcz7_5, hcz7_6, hcz7_7, hcz7_8, hcz7_9, hcz7_10⟩ := bC11 BK302.out; obtain ⟨hfz7_0, hfz7_1, hfz7_2, hfz7_3, hfz7_4, hfz7_5, hfz7_6, hfz7_7, hfz7_8, hfz7_9, hfz7_10⟩ := bF11 BK302.out))
   have n0_ := aA (blk_drew BK302.out)
   have n1_ := aA (below_drew1 HB.out)
   clear BK302
   clear HB
   have BK302 := n0_
   have HB := n1_
   clear n0_ n1_
   refine start_ (n := 6) (S := fun w' => w'.cell? ⟨gb302, 0, none⟩ = some (.int .i64 a0_0) ∧ w'.cell? ⟨gb302, 1, none⟩ = some (.slice A0_1 l0_1.length c0_1) ∧ w'.cell? ⟨gb302, 2, none⟩ = some (.int .i64 a0_2) ∧ w'.cell? ⟨gb302, 3, none⟩ = some (.int .i64 a0_3) ∧ w'.cell? ⟨gb302, 4, none⟩ = some (.int .i64 a0_4) ∧ w'.cell? ⟨gb302, 5, none⟩ = some (.int .i64 a0_5) ∧ w'.cell? ⟨gb302, 6, none⟩ = some (.int .i64 a0_6) ∧ w'.cell? ⟨gb302, 7, none⟩ = some (.slice A0_7 l0_7.length c0_7) ∧ w'.cell? ⟨gb302, 8, none⟩ = some (.int .i64 a0_8) ∧ w'.cell? ⟨gb302, 9, none⟩ = some (.int .i64 a0_9) ∧ w'.cell? ⟨gb302, 10, none⟩ = some (.slice A0_10 l0_10.length c0_10)) (ds := []) #[false, false, false, false, false, false] (by kernel_rfl) rfl rfl (bC11 BK302.out) (fun hHeld => ?_)
   generalize w6.drew = w8 at BK302 HB hHeld ⊢
   refine pure_ (i := 1) (N := some 11) (v := ?_) (a' := ?_) #[false, true, false, false, false, false] rfl rfl (by kernel_rfl) (fun _ _ _ h => h) (Or.inl ⟨by rfl, ?_⟩) ?_ ?_
   rotate_left
   ·intro w'
    go_simp
    with_reducible rfl
   rotate_left
   ·exact mP
   refine take_ (i := 2) (N := some 12) (v := ?_) (a' := ?_) #[false, true, true, false, false, false] rfl rfl (by kernel_rfl) (fun _ _ _ h => h) (Or.inl ⟨by rfl, ?_⟩) hHeld ?_ ?_
   rotate_left
   ·rintro w' ⟨s0, s1, s2, s3, s4, s5, s6, s7, s8, s9, s10⟩
    go_simp
    with_reducible rfl
   rotate_left
   ·exact mP
   refine one_ (i := 0) (N := some 10) #[true, true, true, false, false, false] rfl rfl (by kernel_rfl) (by decide) (fun K hK => ?_)
   refine goes_ Try.func57 (by kernel_rfl) rfl #[.int .i64 2] (by rfl) rfl rfl mS ?_
   with_reducible refine (foghornref17_one.calls 2 t303 _ A3.out).mono ?_
   rintro e w9 ⟨rfl, hb⟩
   refine ⟨_, rfl, ?_⟩
   have n0_ := aA (bB BK302.out hb)
   have n1_ := aA (below_step (mD1 GE302.out) hb)
   clear BK302
   clear HB
   have BK302 := n0_
   have HB := n1_
   clear n0_ n1_
   (try clear hb)
   (try clear hb2)
   (try clear hk)
   (try clear hi)
   refine hK.out _ _ (bC11 BK302.out) (fun hHeld => ?_)
   clear hK K
   refine norm_ (a' := ?_) ?_ ?_
   rotate_left
   ·show Act.put _ (some 10) _ = _
    simp only [Act.put, List.setIfInBounds_toArray, List.set_cons_zero, List.set_cons_succ, i64_w, i32_w]
    rfl
   refine one_ (i := 3) (N := some 13) #[true, true, true, true, false, false] rfl rfl (by kernel_rfl) (by decide) (fun K hK => ?_)
   refine goes_ Try.func58 (by kernel_rfl) rfl #[.slice A0_7 l0_7.length c0_7] (by rfl) rfl rfl mS ?_
   with_reducible refine (foghornref17_labels.calls k _ _ l0_7 t304 _ ?side1 ?side2 A4.out).mono ?_
   (case side1 => exact mC ((Kd.C_below HR0_7.out HB.out)))
   (case side2 => exact HC0_7.out)
   rintro e w10 ⟨rfl, hb⟩
   refine ⟨_, rfl, ?_⟩
   have n0_ := aA (bB BK302.out hb)
   have n1_ := aA (below_step (mD1 GE302.out) hb)
   clear BK302
   clear HB
   have BK302 := n0_
   have HB := n1_
   clear n0_ n1_
   (try clear hb)
   (try clear hb2)
   (try clear hk)
   (try clear hi)
   refine hK.out _ _ (bC11 BK302.out) (fun hHeld => ?_)
   clear hK K
   refine norm_ (a' := ?_) ?_ ?_
   rotate_left
   ·show Act.put _ (some 13) _ = _
    simp only [Act.put, List.setIfInBounds_toArray, List.set_cons_zero, List.set_cons_succ, i64_w, i32_w]
    rfl
   refine pure_ (i := 4) (N := some 14) (v := ?_) (a' := ?_) #[true, true, true, true, true, false] rfl rfl (by kernel_rfl) (fun _ _ _ h => h) (Or.inl ⟨by rfl, ?_⟩) ?_ ?_
   rotate_left
   ·intro w'
    go_simp
    with_reducible rfl
   rotate_left
   ·exact mP
   refine pure_ (i := 5) (N := some 2) (v := ?_) (a' := ?_) #[true, true, true, true, true, true] rfl rfl (by kernel_rfl) (fun _ _ _ h => h) (Or.inl ⟨by rfl, ?_⟩) ?_ ?_
   rotate_left
   ·intro w'
    go_simp
    with_reducible rfl
   rotate_left
   ·exact mP
   refine done_ (by kernel_rfl) ?_
   try go_wp2
   go_ret
   exact ⟨by first | rfl | (simp [errW_none, errW_some] <;> rfl) | (simp [*, errW_none, errW_some] <;> rfl), by repeat (first | (with_reducible first | exact HB.out | apply below_alloc | apply pw_below_drewN | apply below_drew1 | refine below_set ?_ GE302.out) | exact HB.out)⟩
  ·rw [if_neg c5] at H
   exact absurd H (by simp)
 ·rw [if_neg c2] at H
  have c2b0 : (a0_0 == 2) = false := beq_eq_false_iff_ne.mpr c2
  have c2b1 : (a0_0 != 2) = true := bne_iff_ne.mpr c2
  by_cases c11 : a0_0 = 1
  ·rw [if_pos c11] at H
   have c11b0 : (a0_0 == 1) = true := beq_iff_eq.mpr c11
   have c11b1 : (a0_0 != 1) = false := bne_eq_false_iff_eq.mpr c11
   clear c11
   replace H := Option.bind_eq_some_iff.mp H
   obtain ⟨t306, A120, H⟩ := H
   have A12 := aA A120
   clear A120
   replace H := Option.bind_eq_some_iff.mp H
   obtain ⟨t307, A130, H⟩ := H
   have A13 := aA A130
   clear A130
   by_cases c14 : t306.size + t307.size ≤ 9223372036854775807
   ·rw [if_pos c14] at H
    have c14b0 := eq_true c14
    have c14b1 := decide_eq_true c14
    try have c14b2 : (9223372036854775807 < t306.size + t307.size) = False := eq_false (Nat.not_lt.2 c14)
    replace H := Option.bind_eq_some_iff.mp H
    obtain ⟨t308, A150, H⟩ := H
    have A15 := aA A150
    clear A150
    by_cases c16 : (t306 ++ t307).size + t308.size ≤ 9223372036854775807
    ·rw [if_pos c16] at H
     have c16b0 := eq_true c16
     have c16b1 := decide_eq_true c16
     try have c16b2 : (9223372036854775807 < (t306 ++ t307).size + t308.size) = False := eq_false (Nat.not_lt.2 c16)
     try have c16b3 : (9223372036854775807 < (t306).size + (t307).size + (t308).size) = False := eq_false (by have h_ := c16; simp only [ByteArray.size_append] at h_; omega)
     replace H := Option.bind_eq_some_iff.mp H
     obtain ⟨t309, A170, H⟩ := H
     have A17 := aA A170
     clear A170
     by_cases c18 : ((t306 ++ t307) ++ t308).size + t309.size ≤ 9223372036854775807
     ·rw [if_pos c18] at H
      have c18b0 := eq_true c18
      have c18b1 := decide_eq_true c18
      try have c18b2 : (9223372036854775807 < ((t306 ++ t307) ++ t308).size + t309.size) = False := eq_false (Nat.not_lt.2 c18)
      try have c18b3 : (9223372036854775807 < (t306).size + (t307).size + (t308).size + (t309).size) = False := eq_false (by have h_ := c18; simp only [ByteArray.size_append] at h_; omega)
      replace H := Option.bind_eq_some_iff.mp H
      obtain ⟨t310, A190, H⟩ := H
      have A19 := aA A190
      clear A190
      by_cases c20 : (((t306 ++ t307) ++ t308) ++ t309).size + t310.size ≤ 9223372036854775807
      ·rw [if_pos c20] at H
       have c20b0 := eq_true c20
       have c20b1 := decide_eq_true c20
       try have c20b2 : (9223372036854775807 < (((t306 ++ t307) ++ t308) ++ t309).size + t310.size) = False := eq_false (Nat.not_lt.2 c20)
       try have c20b3 : (9223372036854775807 < (t306).size + (t307).size + (t308).size + (t309).size + (t310).size) = False := eq_false (by have h_ := c20; simp only [ByteArray.size_append] at h_; omega)
       replace H := Option.bind_eq_some_iff.mp H
       obtain ⟨t311, A210, H⟩ := H
       have A21 := aA A210
       clear A210
       by_cases c22 : ((((t306 ++ t307) ++ t308) ++ t309) ++ t310).size + t311.size ≤ 9223372036854775807
       ·rw [if_pos c22] at H
        have c22b0 := eq_true c22
        have c22b1 := decide_eq_true c22
        try have c22b2 : (9223372036854775807 < ((((t306 ++ t307) ++ t308) ++ t309) ++ t310).size + t311.size) = False := eq_false (Nat.not_lt.2 c22)
        try have c22b3 : (9223372036854775807 < (t306).size + (t307).size + (t308).size + (t309).size + (t310).size + (t311).size) = False := eq_false (by have h_ := c22; simp only [ByteArray.size_append] at h_; omega)
        replace H := Option.bind_eq_some_iff.mp H
        obtain ⟨t312, A230, H⟩ := H
        have A23 := aA A230
        clear A230
        by_cases c24 : (((((t306 ++ t307) ++ t308) ++ t309) ++ t310) ++ t311).size + t312.size ≤ 9223372036854775807
        ·rw [if_pos c24] at H
         have c24b0 := eq_true c24
         have c24b1 := decide_eq_true c24
         try have c24b2 : (9223372036854775807 < (((((t306 ++ t307) ++ t308) ++ t309) ++ t310) ++ t311).size + t312.size) = False := eq_false (Nat.not_lt.2 c24)
         try have c24b3 : (9223372036854775807 < (t306).size + (t307).size + (t308).size + (t309).size + (t310).size + (t311).size + (t312).size) = False := eq_false (by have h_ := c24; simp only [ByteArray.size_append] at h_; omega)
         obtain rfl := Option.some.inj H
         go_enter Try.func29, Try.ntmps29
         try go_wp2_with (first | ((with_reducible refine gate_dst (N := 1) rfl ?_); refine box_event ?hg (N := 1) ?hd (cs := #[.int .i64 a0_0, .slice A0_1 l0_1.length c0_1, .int .i64 a0_2, .int .i64 a0_3, .int .i64 a0_4, .int .i64 a0_5, .int .i64 a0_6, .slice A0_7 l0_7.length c0_7, .int .i64 a0_8, .int .i64 a0_9, .slice A0_10 l0_10.length c0_10]) (t := 50) ?hr ?_; (case hd => rfl); (case hg => rfl); (case hr => first | (go_simp; done) | (go_simp; rfl)); intro gb302 hg w25 hbox hb; have n0_ := aA (below_step mB hb); have n1_ := aA (hbox); have n2_ := aA ((bZ hg mB)); have n3_ := aA ((bZ hg mB)); clear HB; have HB := n0_; have BK302 := n1_; have GW302 := n2_; have GE302 := n3_; clear n0_ n1_ n2_ n3_ hb hbox hg; obtain ⟨hcz26_0, hcz26_1, hcz26_2, hcz26_3, hcz26_4, hcz26_5, hcz26_6, hcz26_7, hcz26_8, hcz26_9, hcz26_10⟩ := bC11 BK302.out; obtain ⟨hfz26_0, hfz26_1, hfz26_2, hfz26_3, hfz26_4, hfz26_5, hfz26_6, hfz26_7, hfz26_8, hfz26_9, hfz26_10⟩ := bF11 BK302.out) | ((with_reducible refine gate_dst (N := 3) rfl ?_); refine box_event ?hg (N := 3) ?hd (cs := #[.slice none 0 0, .int .i64 0, .int .i64 0, .int .i64 0, .int .i64 0, .int .i64 0]) (t := 46) ?hr ?_; (case hd => rfl); (case hg => rfl); (case hr => first | (go_simp; done) | (go_simp; rfl)); intro gb305 hg w27 hbox hb; have n0_ := aA (bB BK302.out hb); have n1_ := aA (below_step (mD1 GE302.out) hb); have n2_ := aA (hbox); have n3_ := aA ((bZ hg (mD1 GE302.out))); have n4_ := aA ((bZ hg (mD1 GE302.out))); have n5_ := aA ((bL hg BK302.out)); have n6_ := aA ((bG hg BK302.out)); clear BK302 HB; have BK302 := n0_; have HB := n1_; have BK305 := n2_; have GW305 := n3_; have GE305 := n4_; have NB302_305 := n5_; have NB305_302 := n6_; clear n0_ n1_ n2_ n3_ n4_ n5_ n6_ hb hbox hg; have hnb28 := NB305_302.out; have hnc28 := NB302_305.out; obtain ⟨hcz29_0, hcz29_1, hcz29_2, hcz29_3, hcz29_4, hcz29_5⟩ := bC6 BK305.out; obtain ⟨hfz29_0, hfz29_1, hfz29_2, hfz29_3, hfz29_4, hfz29_5⟩ := bF6 BK305.out))
         have n0_ : Aside0 (((((((w27.setCell ⟨gb305, 0, none⟩ (.slice A0_1 l0_1.length c0_1)).setCell ⟨gb305, 1, none⟩ (.int .i64 a0_2)).setCell ⟨gb305, 2, none⟩ (.int .i64 a0_3)).setCell ⟨gb305, 3, none⟩ (.int .i64 a0_4)).setCell ⟨gb305, 4, none⟩ (.int .i64 a0_5)).setCell ⟨gb305, 5, none⟩ (.int .i64 a0_6)).heap[gb302]? = some (.cells #[.int .i64 a0_0, .slice A0_1 l0_1.length c0_1, .int .i64 a0_2, .int .i64 a0_3, .int .i64 a0_4, .int .i64 a0_5, .int .i64 a0_6, .slice A0_7 l0_7.length c0_7, .int .i64 a0_8, .int .i64 a0_9, .slice A0_10 l0_10.length c0_10] 50 (0, 0))) := ⟨by (with_reducible repeat (first | refine blk_drewN ?_ _ | refine blk_drew ?_ | refine blk_alloc ?_ _)); refine blk_far ?_ NB302_305.out _; (with_reducible repeat (first | refine blk_drewN ?_ _ | refine blk_drew ?_ | refine blk_alloc ?_ _)); refine blk_far ?_ NB302_305.out _; (with_reducible repeat (first | refine blk_drewN ?_ _ | refine blk_drew ?_ | refine blk_alloc ?_ _)); refine blk_far ?_ NB302_305.out _; (with_reducible repeat (first | refine blk_drewN ?_ _ | refine blk_drew ?_ | refine blk_alloc ?_ _)); refine blk_far ?_ NB302_305.out _; (with_reducible repeat (first | refine blk_drewN ?_ _ | refine blk_drew ?_ | refine blk_alloc ?_ _)); refine blk_far ?_ NB302_305.out _; (with_reducible repeat (first | refine blk_drewN ?_ _ | refine blk_drew ?_ | refine blk_alloc ?_ _)); refine blk_far ?_ NB302_305.out _; (with_reducible repeat (first | refine blk_drewN ?_ _ | refine blk_drew ?_ | refine blk_alloc ?_ _)); exact BK302.out⟩
         have n1_ : Aside0 (((((((w27.setCell ⟨gb305, 0, none⟩ (.slice A0_1 l0_1.length c0_1)).setCell ⟨gb305, 1, none⟩ (.int .i64 a0_2)).setCell ⟨gb305, 2, none⟩ (.int .i64 a0_3)).setCell ⟨gb305, 3, none⟩ (.int .i64 a0_4)).setCell ⟨gb305, 4, none⟩ (.int .i64 a0_5)).setCell ⟨gb305, 5, none⟩ (.int .i64 a0_6)).heap[gb305]? = some (.cells #[.slice A0_1 l0_1.length c0_1, .int .i64 a0_2, .int .i64 a0_3, .int .i64 a0_4, .int .i64 a0_5, .int .i64 a0_6] 46 (0, 0))) := ⟨by (with_reducible repeat (first | refine blk_drewN ?_ _ | refine blk_drew ?_ | refine blk_alloc ?_ _)); refine blk_put (cs := #[.slice A0_1 l0_1.length c0_1, .int .i64 a0_2, .int .i64 a0_3, .int .i64 a0_4, .int .i64 a0_5, .int .i64 0]) ?_ 5 _ rfl; (with_reducible repeat (first | refine blk_drewN ?_ _ | refine blk_drew ?_ | refine blk_alloc ?_ _)); refine blk_put (cs := #[.slice A0_1 l0_1.length c0_1, .int .i64 a0_2, .int .i64 a0_3, .int .i64 a0_4, .int .i64 0, .int .i64 0]) ?_ 4 _ rfl; (with_reducible repeat (first | refine blk_drewN ?_ _ | refine blk_drew ?_ | refine blk_alloc ?_ _)); refine blk_put (cs := #[.slice A0_1 l0_1.length c0_1, .int .i64 a0_2, .int .i64 a0_3, .int .i64 0, .int .i64 0, .int .i64 0]) ?_ 3 _ rfl; (with_reducible repeat (first | refine blk_drewN ?_ _ | refine blk_drew ?_ | refine blk_alloc ?_ _)); refine blk_put (cs := #[.slice A0_1 l0_1.length c0_1, .int .i64 a0_2, .int .i64 0, .int .i64 0, .int .i64 0, .int .i64 0]) ?_ 2 _ rfl; (with_reducible repeat (first | refine blk_drewN ?_ _ | refine blk_drew ?_ | refine blk_alloc ?_ _)); refine blk_put (cs := #[.slice A0_1 l0_1.length c0_1, .int .i64 0, .int .i64 0, .int .i64 0, .int .i64 0, .int .i64 0]) ?_ 1 _ rfl; (with_reducible repeat (first | refine blk_drewN ?_ _ | refine blk_drew ?_ | refine blk_alloc ?_ _)); refine blk_put (cs := #[.slice none 0 0, .int .i64 0, .int .i64 0, .int .i64 0, .int .i64 0, .int .i64 0]) ?_ 0 _ rfl; (with_reducible repeat (first | refine blk_drewN ?_ _ | refine blk_drew ?_ | refine blk_alloc ?_ _)); exact BK305.out⟩
         have n2_ : Aside0 (Below w.heap.size w ((((((w27.setCell ⟨gb305, 0, none⟩ (.slice A0_1 l0_1.length c0_1)).setCell ⟨gb305, 1, none⟩ (.int .i64 a0_2)).setCell ⟨gb305, 2, none⟩ (.int .i64 a0_3)).setCell ⟨gb305, 3, none⟩ (.int .i64 a0_4)).setCell ⟨gb305, 4, none⟩ (.int .i64 a0_5)).setCell ⟨gb305, 5, none⟩ (.int .i64 a0_6))) := ⟨by repeat (first | (with_reducible first | exact HB.out | apply below_alloc | apply pw_below_drewN | apply below_drew1 | refine below_set ?_ GE302.out | refine below_set ?_ GE305.out) | exact HB.out)⟩
         (try clear BK302)
         (try clear BK305)
         (try clear HB)
         generalize ((((((w27.setCell ⟨gb305, 0, none⟩ (.slice A0_1 l0_1.length c0_1)).setCell ⟨gb305, 1, none⟩ (.int .i64 a0_2)).setCell ⟨gb305, 2, none⟩ (.int .i64 a0_3)).setCell ⟨gb305, 3, none⟩ (.int .i64 a0_4)).setCell ⟨gb305, 4, none⟩ (.int .i64 a0_5)).setCell ⟨gb305, 5, none⟩ (.int .i64 a0_6)) = w30 at n0_ n1_ n2_ ⊢
         have BK302 := n0_
         have BK305 := n1_
         have HB := n2_
         clear n0_ n1_ n2_
         have n0_ := aA (blk_drew BK302.out)
         have n1_ := aA (blk_drew BK305.out)
         have n2_ := aA (below_drew1 HB.out)
         clear BK302
         clear BK305
         clear HB
         have BK302 := n0_
         have BK305 := n1_
         have HB := n2_
         clear n0_ n1_ n2_
         refine start_ (n := 26) (S := fun w' => w'.cell? ⟨gb305, 0, none⟩ = some (.slice A0_1 l0_1.length c0_1) ∧ w'.cell? ⟨gb305, 1, none⟩ = some (.int .i64 a0_2) ∧ w'.cell? ⟨gb305, 2, none⟩ = some (.int .i64 a0_3) ∧ w'.cell? ⟨gb305, 3, none⟩ = some (.int .i64 a0_4) ∧ w'.cell? ⟨gb305, 4, none⟩ = some (.int .i64 a0_5) ∧ w'.cell? ⟨gb305, 5, none⟩ = some (.int .i64 a0_6)) (ds := []) #[false, false, false, false, false, false, false, false, false, false, false, false, false, false, false, false, false, false, false, false, false, false, false, false, false, false] (by kernel_rfl) rfl rfl (bC6 BK305.out) (fun hHeld => ?_); refine with_tabW foghornref17_Put.tab5 foghornref17_Put.bits5 (fun HT_ HW_ => ?_)
         generalize w30.drew = w31 at BK302 BK305 HB hHeld ⊢
         refine pure_ (i := 1) (N := some 21) (v := ?_) (a' := ?_) #[false, true, false, false, false, false, false, false, false, false, false, false, false, false, false, false, false, false, false, false, false, false, false, false, false, false] rfl rfl (any_of HT_.out (by kernel_rfl)) (fun _ _ _ h => h) (Or.inl ⟨by rfl, ?_⟩) ?_ ?_
         rotate_left
         ·intro w'
          go_simp
          with_reducible rfl
         rotate_left
         ·exact mP
         refine pure_ (i := 5) (N := some 25) (v := ?_) (a' := ?_) #[false, true, false, false, false, true, false, false, false, false, false, false, false, false, false, false, false, false, false, false, false, false, false, false, false, false] rfl rfl (any_of HT_.out (by kernel_rfl)) (fun _ _ _ h => h) (Or.inl ⟨by rfl, ?_⟩) ?_ ?_
         rotate_left
         ·intro w'
          go_simp
          with_reducible rfl
         rotate_left
         ·exact mP
         refine pure_ (i := 9) (N := some 29) (v := ?_) (a' := ?_) #[false, true, false, false, false, true, false, false, false, true, false, false, false, false, false, false, false, false, false, false, false, false, false, false, false, false] rfl rfl (any_of HT_.out (by kernel_rfl)) (fun _ _ _ h => h) (Or.inl ⟨by rfl, ?_⟩) ?_ ?_
         rotate_left
         ·intro w'
          go_simp
          with_reducible rfl
         rotate_left
         ·exact mP
         refine pure_ (i := 13) (N := some 33) (v := ?_) (a' := ?_) #[false, true, false, false, false, true, false, false, false, true, false, false, false, true, false, false, false, false, false, false, false, false, false, false, false, false] rfl rfl (any_of HT_.out (by kernel_rfl)) (fun _ _ _ h => h) (Or.inl ⟨by rfl, ?_⟩) ?_ ?_
         rotate_left
         ·intro w'
          go_simp
          with_reducible rfl
         rotate_left
         ·exact mP
         refine pure_ (i := 17) (N := some 37) (v := ?_) (a' := ?_) #[false, true, false, false, false, true, false, false, false, true, false, false, false, true, false, false, false, true, false, false, false, false, false, false, false, false] rfl rfl (any_of HT_.out (by kernel_rfl)) (fun _ _ _ h => h) (Or.inl ⟨by rfl, ?_⟩) ?_ ?_
         rotate_left
         ·intro w'
          go_simp
          with_reducible rfl
         rotate_left
         ·exact mP
         refine pure_ (i := 21) (N := some 41) (v := ?_) (a' := ?_) #[false, true, false, false, false, true, false, false, false, true, false, false, false, true, false, false, false, true, false, false, false, true, false, false, false, false] rfl rfl (any_of HT_.out (by kernel_rfl)) (fun _ _ _ h => h) (Or.inl ⟨by rfl, ?_⟩) ?_ ?_
         rotate_left
         ·intro w'
          go_simp
          with_reducible rfl
         rotate_left
         ·exact mP
         refine take_ (i := 2) (N := some 22) (v := ?_) (a' := ?_) #[false, true, true, false, false, true, false, false, false, true, false, false, false, true, false, false, false, true, false, false, false, true, false, false, false, false] rfl rfl (take_ofW HT_.out HW_.out (by kernel_rfl)) (fun _ _ _ h => h) (Or.inl ⟨by rfl, ?_⟩) hHeld ?_ ?_
         rotate_left
         ·rintro w' ⟨s0, s1, s2, s3, s4, s5⟩
          go_simp
          with_reducible rfl
         rotate_left
         ·exact mP
         refine take_ (i := 6) (N := some 26) (v := ?_) (a' := ?_) #[false, true, true, false, false, true, true, false, false, true, false, false, false, true, false, false, false, true, false, false, false, true, false, false, false, false] rfl rfl (take_ofW HT_.out HW_.out (by kernel_rfl)) (fun _ _ _ h => h) (Or.inl ⟨by rfl, ?_⟩) hHeld ?_ ?_
         rotate_left
         ·rintro w' ⟨s0, s1, s2, s3, s4, s5⟩
          go_simp
          with_reducible rfl
         rotate_left
         ·exact mP
         refine take_ (i := 10) (N := some 30) (v := ?_) (a' := ?_) #[false, true, true, false, false, true, true, false, false, true, true, false, false, true, false, false, false, true, false, false, false, true, false, false, false, false] rfl rfl (take_ofW HT_.out HW_.out (by kernel_rfl)) (fun _ _ _ h => h) (Or.inl ⟨by rfl, ?_⟩) hHeld ?_ ?_
         rotate_left
         ·rintro w' ⟨s0, s1, s2, s3, s4, s5⟩
          go_simp
          with_reducible rfl
         rotate_left
         ·exact mP
         refine take_ (i := 14) (N := some 34) (v := ?_) (a' := ?_) #[false, true, true, false, false, true, true, false, false, true, true, false, false, true, true, false, false, true, false, false, false, true, false, false, false, false] rfl rfl (take_ofW HT_.out HW_.out (by kernel_rfl)) (fun _ _ _ h => h) (Or.inl ⟨by rfl, ?_⟩) hHeld ?_ ?_
         rotate_left
         ·rintro w' ⟨s0, s1, s2, s3, s4, s5⟩
          go_simp
          with_reducible rfl
         rotate_left
         ·exact mP
         refine take_ (i := 18) (N := some 38) (v := ?_) (a' := ?_) #[false, true, true, false, false, true, true, false, false, true, true, false, false, true, true, false, false, true, true, false, false, true, false, false, false, false] rfl rfl (take_ofW HT_.out HW_.out (by kernel_rfl)) (fun _ _ _ h => h) (Or.inl ⟨by rfl, ?_⟩) hHeld ?_ ?_
         rotate_left
         ·rintro w' ⟨s0, s1, s2, s3, s4, s5⟩
          go_simp
          with_reducible rfl
         rotate_left
         ·exact mP
         refine take_ (i := 22) (N := some 42) (v := ?_) (a' := ?_) #[false, true, true, false, false, true, true, false, false, true, true, false, false, true, true, false, false, true, true, false, false, true, true, false, false, false] rfl rfl (take_ofW HT_.out HW_.out (by kernel_rfl)) (fun _ _ _ h => h) (Or.inl ⟨by rfl, ?_⟩) hHeld ?_ ?_
         rotate_left
         ·rintro w' ⟨s0, s1, s2, s3, s4, s5⟩
          go_simp
          with_reducible rfl
         rotate_left
         ·exact mP
         refine one_ (i := 0) (N := some 20) #[true, true, true, false, false, true, true, false, false, true, true, false, false, true, true, false, false, true, true, false, false, true, true, false, false, false] rfl rfl (one_of HT_.out (by kernel_rfl)) (by decide) (fun K hK => ?_)
         refine goes_ Try.func57 (by kernel_rfl) rfl #[.int .i64 1] (by rfl) rfl rfl mS ?_
         with_reducible refine (foghornref17_one.calls 1 t306 _ A12.out).mono ?_
         rintro e w32 ⟨rfl, hb⟩
         refine ⟨_, rfl, ?_⟩
         have n0_ := aA (bB BK302.out hb)
         have n1_ := aA (bB BK305.out hb)
         have n2_ := aA (below_step (mD2 GE302.out GE305.out) hb)
         clear BK302
         clear BK305
         clear HB
         have BK302 := n0_
         have BK305 := n1_
         have HB := n2_
         clear n0_ n1_ n2_
         (try clear hb)
         (try clear hb2)
         (try clear hk)
         (try clear hi)
         refine hK.out _ _ (bC6 BK305.out) (fun hHeld => ?_)
         clear hK K
         refine norm_ (a' := ?_) ?_ ?_
         rotate_left
         ·show Act.put _ (some 20) _ = _
          simp only [Act.put, List.setIfInBounds_toArray, List.set_cons_zero, List.set_cons_succ, i64_w, i32_w]
          rfl
         refine one_ (i := 3) (N := some 23) #[true, true, true, true, false, true, true, false, false, true, true, false, false, true, true, false, false, true, true, false, false, true, true, false, false, false] rfl rfl (one_of HT_.out (by kernel_rfl)) (by decide) (fun K hK => ?_)
         refine goes_ Try.func57 (by kernel_rfl) rfl #[.int .i64 a0_2] (by rfl) rfl rfl mS ?_
         with_reducible refine (foghornref17_one.calls a0_2 t307 _ A13.out).mono ?_
         rintro e w33 ⟨rfl, hb⟩
         refine ⟨_, rfl, ?_⟩
         have n0_ := aA (bB BK302.out hb)
         have n1_ := aA (bB BK305.out hb)
         have n2_ := aA (below_step (mD2 GE302.out GE305.out) hb)
         clear BK302
         clear BK305
         clear HB
         have BK302 := n0_
         have BK305 := n1_
         have HB := n2_
         clear n0_ n1_ n2_
         (try clear hb)
         (try clear hb2)
         (try clear hk)
         (try clear hi)
         refine hK.out _ _ (bC6 BK305.out) (fun hHeld => ?_)
         clear hK K
         refine norm_ (a' := ?_) ?_ ?_
         rotate_left
         ·show Act.put _ (some 23) _ = _
          simp only [Act.put, List.setIfInBounds_toArray, List.set_cons_zero, List.set_cons_succ, i64_w, i32_w]
          rfl
         refine pure_ (i := 4) (N := some 24) (v := ?_) (a' := ?_) #[true, true, true, true, true, true, true, false, false, true, true, false, false, true, true, false, false, true, true, false, false, true, true, false, false, false] rfl rfl (any_of HT_.out (by kernel_rfl)) (fun _ _ _ h => h) (Or.inl ⟨by rfl, ?_⟩) ?_ ?_
         rotate_left
         ·intro w'
          go_simp
          with_reducible rfl
         rotate_left
         ·exact mP
         refine one_ (i := 7) (N := some 27) #[true, true, true, true, true, true, true, true, false, true, true, false, false, true, true, false, false, true, true, false, false, true, true, false, false, false] rfl rfl (one_of HT_.out (by kernel_rfl)) (by decide) (fun K hK => ?_)
         refine goes_ Try.func57 (by kernel_rfl) rfl #[.int .i64 a0_3] (by rfl) rfl rfl mS ?_
         with_reducible refine (foghornref17_one.calls a0_3 t308 _ A15.out).mono ?_
         rintro e w34 ⟨rfl, hb⟩
         refine ⟨_, rfl, ?_⟩
         have n0_ := aA (bB BK302.out hb)
         have n1_ := aA (bB BK305.out hb)
         have n2_ := aA (below_step (mD2 GE302.out GE305.out) hb)
         clear BK302
         clear BK305
         clear HB
         have BK302 := n0_
         have BK305 := n1_
         have HB := n2_
         clear n0_ n1_ n2_
         (try clear hb)
         (try clear hb2)
         (try clear hk)
         (try clear hi)
         refine hK.out _ _ (bC6 BK305.out) (fun hHeld => ?_)
         clear hK K
         refine norm_ (a' := ?_) ?_ ?_
         rotate_left
         ·show Act.put _ (some 27) _ = _
          simp only [Act.put, List.setIfInBounds_toArray, List.set_cons_zero, List.set_cons_succ, i64_w, i32_w]
          rfl
         refine pure_ (i := 8) (N := some 28) (v := ?_) (a' := ?_) #[true, true, true, true, true, true, true, true, true, true, true, false, false, true, true, false, false, true, true, false, false, true, true, false, false, false] rfl rfl (any_of HT_.out (by kernel_rfl)) (fun _ _ _ h => h) (Or.inl ⟨by rfl, ?_⟩) ?_ ?_
         rotate_left
         ·intro w'
          go_simp
          with_reducible rfl
         rotate_left
         ·exact mP
         refine one_ (i := 11) (N := some 31) #[true, true, true, true, true, true, true, true, true, true, true, true, false, true, true, false, false, true, true, false, false, true, true, false, false, false] rfl rfl (one_of HT_.out (by kernel_rfl)) (by decide) (fun K hK => ?_)
         refine goes_ Try.func57 (by kernel_rfl) rfl #[.int .i64 a0_4] (by rfl) rfl rfl mS ?_
         with_reducible refine (foghornref17_one.calls a0_4 t309 _ A17.out).mono ?_
         rintro e w35 ⟨rfl, hb⟩
         refine ⟨_, rfl, ?_⟩
         have n0_ := aA (bB BK302.out hb)
         have n1_ := aA (bB BK305.out hb)
         have n2_ := aA (below_step (mD2 GE302.out GE305.out) hb)
         clear BK302
         clear BK305
         clear HB
         have BK302 := n0_
         have BK305 := n1_
         have HB := n2_
         clear n0_ n1_ n2_
         (try clear hb)
         (try clear hb2)
         (try clear hk)
         (try clear hi)
         refine hK.out _ _ (bC6 BK305.out) (fun hHeld => ?_)
         clear hK K
         refine norm_ (a' := ?_) ?_ ?_
         rotate_left
         ·show Act.put _ (some 31) _ = _
          simp only [Act.put, List.setIfInBounds_toArray, List.set_cons_zero, List.set_cons_succ, i64_w, i32_w]
          rfl
         refine pure_ (i := 12) (N := some 32) (v := ?_) (a' := ?_) #[true, true, true, true, true, true, true, true, true, true, true, true, true, true, true, false, false, true, true, false, false, true, true, false, false, false] rfl rfl (any_of HT_.out (by kernel_rfl)) (fun _ _ _ h => h) (Or.inl ⟨by rfl, ?_⟩) ?_ ?_
         rotate_left
         ·intro w'
          go_simp
          with_reducible rfl
         rotate_left
         ·exact mP
         refine one_ (i := 15) (N := some 35) #[true, true, true, true, true, true, true, true, true, true, true, true, true, true, true, true, false, true, true, false, false, true, true, false, false, false] rfl rfl (one_of HT_.out (by kernel_rfl)) (by decide) (fun K hK => ?_)
         refine goes_ Try.func57 (by kernel_rfl) rfl #[.int .i64 a0_6] (by rfl) rfl rfl mS ?_
         with_reducible refine (foghornref17_one.calls a0_6 t310 _ A19.out).mono ?_
         rintro e w36 ⟨rfl, hb⟩
         refine ⟨_, rfl, ?_⟩
         have n0_ := aA (bB BK302.out hb)
         have n1_ := aA (bB BK305.out hb)
         have n2_ := aA (below_step (mD2 GE302.out GE305.out) hb)
         clear BK302
         clear BK305
         clear HB
         have BK302 := n0_
         have BK305 := n1_
         have HB := n2_
         clear n0_ n1_ n2_
         (try clear hb)
         (try clear hb2)
         (try clear hk)
         (try clear hi)
         refine hK.out _ _ (bC6 BK305.out) (fun hHeld => ?_)
         clear hK K
         refine norm_ (a' := ?_) ?_ ?_
         rotate_left
         ·show Act.put _ (some 35) _ = _
          simp only [Act.put, List.setIfInBounds_toArray, List.set_cons_zero, List.set_cons_succ, i64_w, i32_w]
          rfl
         refine pure_ (i := 16) (N := some 36) (v := ?_) (a' := ?_) #[true, true, true, true, true, true, true, true, true, true, true, true, true, true, true, true, true, true, true, false, false, true, true, false, false, false] rfl rfl (any_of HT_.out (by kernel_rfl)) (fun _ _ _ h => h) (Or.inl ⟨by rfl, ?_⟩) ?_ ?_
         rotate_left
         ·intro w'
          go_simp
          with_reducible rfl
         rotate_left
         ·exact mP
         refine one_ (i := 19) (N := some 39) #[true, true, true, true, true, true, true, true, true, true, true, true, true, true, true, true, true, true, true, true, false, true, true, false, false, false] rfl rfl (one_of HT_.out (by kernel_rfl)) (by decide) (fun K hK => ?_)
         refine goes_ Try.func59 (by kernel_rfl) rfl #[.int .i64 a0_5] (by rfl) rfl rfl mS ?_
         with_reducible refine (foghornref17_six.calls k a0_5 t311 _ A21.out).mono ?_
         rintro e w37 ⟨rfl, hb⟩
         refine ⟨_, rfl, ?_⟩
         have n0_ := aA (bB BK302.out hb)
         have n1_ := aA (bB BK305.out hb)
         have n2_ := aA (below_step (mD2 GE302.out GE305.out) hb)
         clear BK302
         clear BK305
         clear HB
         have BK302 := n0_
         have BK305 := n1_
         have HB := n2_
         clear n0_ n1_ n2_
         (try clear hb)
         (try clear hb2)
         (try clear hk)
         (try clear hi)
         refine hK.out _ _ (bC6 BK305.out) (fun hHeld => ?_)
         clear hK K
         refine norm_ (a' := ?_) ?_ ?_
         rotate_left
         ·show Act.put _ (some 39) _ = _
          simp only [Act.put, List.setIfInBounds_toArray, List.set_cons_zero, List.set_cons_succ, i64_w, i32_w]
          rfl
         refine pure_ (i := 20) (N := some 40) (v := ?_) (a' := ?_) #[true, true, true, true, true, true, true, true, true, true, true, true, true, true, true, true, true, true, true, true, true, true, true, false, false, false] rfl rfl (any_of HT_.out (by kernel_rfl)) (fun _ _ _ h => h) (Or.inl ⟨by rfl, ?_⟩) ?_ ?_
         rotate_left
         ·intro w'
          go_simp
          with_reducible rfl
         rotate_left
         ·exact mP
         refine one_ (i := 23) (N := some 43) #[true, true, true, true, true, true, true, true, true, true, true, true, true, true, true, true, true, true, true, true, true, true, true, true, false, false] rfl rfl (one_of HT_.out (by kernel_rfl)) (by decide) (fun K hK => ?_)
         refine goes_ Try.func58 (by kernel_rfl) rfl #[.slice A0_1 l0_1.length c0_1] (by rfl) rfl rfl mS ?_
         with_reducible refine (foghornref17_labels.calls k _ _ l0_1 t312 _ ?side1 ?side2 A23.out).mono ?_
         (case side1 => exact mC ((Kd.C_below HR0_1.out HB.out)))
         (case side2 => exact HC0_1.out)
         rintro e w38 ⟨rfl, hb⟩
         refine ⟨_, rfl, ?_⟩
         have n0_ := aA (bB BK302.out hb)
         have n1_ := aA (bB BK305.out hb)
         have n2_ := aA (below_step (mD2 GE302.out GE305.out) hb)
         clear BK302
         clear BK305
         clear HB
         have BK302 := n0_
         have BK305 := n1_
         have HB := n2_
         clear n0_ n1_ n2_
         (try clear hb)
         (try clear hb2)
         (try clear hk)
         (try clear hi)
         refine hK.out _ _ (bC6 BK305.out) (fun hHeld => ?_)
         clear hK K
         refine norm_ (a' := ?_) ?_ ?_
         rotate_left
         ·show Act.put _ (some 43) _ = _
          simp only [Act.put, List.setIfInBounds_toArray, List.set_cons_zero, List.set_cons_succ, i64_w, i32_w]
          rfl
         refine pure_ (i := 24) (N := some 44) (v := ?_) (a' := ?_) #[true, true, true, true, true, true, true, true, true, true, true, true, true, true, true, true, true, true, true, true, true, true, true, true, true, false] rfl rfl (any_of HT_.out (by kernel_rfl)) (fun _ _ _ h => h) (Or.inl ⟨by rfl, ?_⟩) ?_ ?_
         rotate_left
         ·intro w'
          go_simp
          with_reducible rfl
         rotate_left
         ·exact mP
         refine pure_ (i := 25) (N := some 2) (v := ?_) (a' := ?_) #[true, true, true, true, true, true, true, true, true, true, true, true, true, true, true, true, true, true, true, true, true, true, true, true, true, true] rfl rfl (any_of HT_.out (by kernel_rfl)) (fun _ _ _ h => h) (Or.inl ⟨by rfl, ?_⟩) ?_ ?_
         rotate_left
         ·intro w'
          go_simp
          with_reducible rfl
         rotate_left
         ·exact mP
         refine done_ (done_of HT_.out (by kernel_rfl)) ?_
         try go_wp2
         go_ret
         exact ⟨by first | rfl | (simp [errW_none, errW_some] <;> rfl) | (simp [*, errW_none, errW_some] <;> rfl), by repeat (first | (with_reducible first | exact HB.out | apply below_alloc | apply pw_below_drewN | apply below_drew1 | refine below_set ?_ GE302.out | refine below_set ?_ GE305.out) | exact HB.out)⟩
        ·rw [if_neg c24] at H
         exact absurd H (by simp)
       ·rw [if_neg c22] at H
        exact absurd H (by simp)
      ·rw [if_neg c20] at H
       exact absurd H (by simp)
     ·rw [if_neg c18] at H
      exact absurd H (by simp)
    ·rw [if_neg c16] at H
     exact absurd H (by simp)
   ·rw [if_neg c14] at H
    exact absurd H (by simp)
  ·rw [if_neg c11] at H
   have c11b0 : (a0_0 == 1) = false := beq_eq_false_iff_ne.mpr c11
   have c11b1 : (a0_0 != 1) = true := bne_iff_ne.mpr c11
   replace H := Option.bind_eq_some_iff.mp H
   obtain ⟨t313, A390, H⟩ := H
   have A39 := aA A390
   clear A390
   replace H := Option.bind_eq_some_iff.mp H
   obtain ⟨t314, A400, H⟩ := H
   have A40 := aA A400
   clear A400
   by_cases c41 : t313.size + t314.size ≤ 9223372036854775807
   ·rw [if_pos c41] at H
    have c41b0 := eq_true c41
    have c41b1 := decide_eq_true c41
    try have c41b2 : (9223372036854775807 < t313.size + t314.size) = False := eq_false (Nat.not_lt.2 c41)
    replace H := Option.bind_eq_some_iff.mp H
    obtain ⟨t315, A420, H⟩ := H
    have A42 := aA A420
    clear A420
    by_cases c43 : (t313 ++ t314).size + t315.size ≤ 9223372036854775807
    ·rw [if_pos c43] at H
     have c43b0 := eq_true c43
     have c43b1 := decide_eq_true c43
     try have c43b2 : (9223372036854775807 < (t313 ++ t314).size + t315.size) = False := eq_false (Nat.not_lt.2 c43)
     try have c43b3 : (9223372036854775807 < (t313).size + (t314).size + (t315).size) = False := eq_false (by have h_ := c43; simp only [ByteArray.size_append] at h_; omega)
     replace H := Option.bind_eq_some_iff.mp H
     obtain ⟨t316, A440, H⟩ := H
     have A44 := aA A440
     clear A440
     by_cases c45 : ((t313 ++ t314) ++ t315).size + t316.size ≤ 9223372036854775807
     ·rw [if_pos c45] at H
      have c45b0 := eq_true c45
      have c45b1 := decide_eq_true c45
      try have c45b2 : (9223372036854775807 < ((t313 ++ t314) ++ t315).size + t316.size) = False := eq_false (Nat.not_lt.2 c45)
      try have c45b3 : (9223372036854775807 < (t313).size + (t314).size + (t315).size + (t316).size) = False := eq_false (by have h_ := c45; simp only [ByteArray.size_append] at h_; omega)
      have H' := aA H
      clear H
      go_enter Try.func29, Try.ntmps29
      try go_wp2_with (first | ((with_reducible refine gate_dst (N := 1) rfl ?_); refine box_event ?hg (N := 1) ?hd (cs := #[.int .i64 a0_0, .slice A0_1 l0_1.length c0_1, .int .i64 a0_2, .int .i64 a0_3, .int .i64 a0_4, .int .i64 a0_5, .int .i64 a0_6, .slice A0_7 l0_7.length c0_7, .int .i64 a0_8, .int .i64 a0_9, .slice A0_10 l0_10.length c0_10]) (t := 50) ?hr ?_; (case hd => rfl); (case hg => rfl); (case hr => first | (go_simp; done) | (go_simp; rfl)); intro gb302 hg w46 hbox hb; have n0_ := aA (below_step mB hb); have n1_ := aA (hbox); have n2_ := aA ((bZ hg mB)); have n3_ := aA ((bZ hg mB)); clear HB; have HB := n0_; have BK302 := n1_; have GW302 := n2_; have GE302 := n3_; clear n0_ n1_ n2_ n3_ hb hbox hg; obtain ⟨hcz47_0, hcz47_1, hcz47_2, hcz47_3, hcz47_4, hcz47_5, hcz47_6, hcz47_7, hcz47_8, hcz47_9, hcz47_10⟩ := bC11 BK302.out; obtain ⟨hfz47_0, hfz47_1, hfz47_2, hfz47_3, hfz47_4, hfz47_5, hfz47_6, hfz47_7, hfz47_8, hfz47_9, hfz47_10⟩ := bF11 BK302.out))
      have n0_ := aA (blk_drew BK302.out)
      have n1_ := aA (below_drew1 HB.out)
      clear BK302
      clear HB
      have BK302 := n0_
      have HB := n1_
      clear n0_ n1_
      refine start_ (n := 18) (S := fun w' => w'.cell? ⟨gb302, 0, none⟩ = some (.int .i64 a0_0) ∧ w'.cell? ⟨gb302, 1, none⟩ = some (.slice A0_1 l0_1.length c0_1) ∧ w'.cell? ⟨gb302, 2, none⟩ = some (.int .i64 a0_2) ∧ w'.cell? ⟨gb302, 3, none⟩ = some (.int .i64 a0_3) ∧ w'.cell? ⟨gb302, 4, none⟩ = some (.int .i64 a0_4) ∧ w'.cell? ⟨gb302, 5, none⟩ = some (.int .i64 a0_5) ∧ w'.cell? ⟨gb302, 6, none⟩ = some (.int .i64 a0_6) ∧ w'.cell? ⟨gb302, 7, none⟩ = some (.slice A0_7 l0_7.length c0_7) ∧ w'.cell? ⟨gb302, 8, none⟩ = some (.int .i64 a0_8) ∧ w'.cell? ⟨gb302, 9, none⟩ = some (.int .i64 a0_9) ∧ w'.cell? ⟨gb302, 10, none⟩ = some (.slice A0_10 l0_10.length c0_10)) (ds := []) #[false, false, false, false, false, false, false, false, false, false, false, false, false, false, false, false, false, false] (by kernel_rfl) rfl rfl (bC11 BK302.out) (fun hHeld => ?_); refine with_tabW foghornref17_Put.tab6 foghornref17_Put.bits6 (fun HT_ HW_ => ?_)
      generalize w46.drew = w48 at BK302 HB hHeld ⊢
      refine pure_ (i := 1) (N := some 46) (v := ?_) (a' := ?_) #[false, true, false, false, false, false, false, false, false, false, false, false, false, false, false, false, false, false] rfl rfl (any_of HT_.out (by kernel_rfl)) (fun _ _ _ h => h) (Or.inl ⟨by rfl, ?_⟩) ?_ ?_
      rotate_left
      ·intro w'
       go_simp
       with_reducible rfl
      rotate_left
      ·exact mP
      refine pure_ (i := 2) (N := some 47) (v := ?_) (a' := ?_) #[false, true, true, false, false, false, false, false, false, false, false, false, false, false, false, false, false, false] rfl rfl (any_of HT_.out (by kernel_rfl)) (fun _ _ _ h => h) (Or.inl ⟨by rfl, ?_⟩) ?_ ?_
      rotate_left
      ·intro w'
       go_simp
       with_reducible rfl
      rotate_left
      ·exact mP
      refine pure_ (i := 6) (N := some 51) (v := ?_) (a' := ?_) #[false, true, true, false, false, false, true, false, false, false, false, false, false, false, false, false, false, false] rfl rfl (any_of HT_.out (by kernel_rfl)) (fun _ _ _ h => h) (Or.inl ⟨by rfl, ?_⟩) ?_ ?_
      rotate_left
      ·intro w'
       go_simp
       with_reducible rfl
      rotate_left
      ·exact mP
      refine pure_ (i := 7) (N := some 52) (v := ?_) (a' := ?_) #[false, true, true, false, false, false, true, true, false, false, false, false, false, false, false, false, false, false] rfl rfl (any_of HT_.out (by kernel_rfl)) (fun _ _ _ h => h) (Or.inl ⟨by rfl, ?_⟩) ?_ ?_
      rotate_left
      ·intro w'
       go_simp
       with_reducible rfl
      rotate_left
      ·exact mP
      refine pure_ (i := 11) (N := some 56) (v := ?_) (a' := ?_) #[false, true, true, false, false, false, true, true, false, false, false, true, false, false, false, false, false, false] rfl rfl (any_of HT_.out (by kernel_rfl)) (fun _ _ _ h => h) (Or.inl ⟨by rfl, ?_⟩) ?_ ?_
      rotate_left
      ·intro w'
       go_simp
       with_reducible rfl
      rotate_left
      ·exact mP
      refine pure_ (i := 12) (N := some 57) (v := ?_) (a' := ?_) #[false, true, true, false, false, false, true, true, false, false, false, true, true, false, false, false, false, false] rfl rfl (any_of HT_.out (by kernel_rfl)) (fun _ _ _ h => h) (Or.inl ⟨by rfl, ?_⟩) ?_ ?_
      rotate_left
      ·intro w'
       go_simp
       with_reducible rfl
      rotate_left
      ·exact mP
      refine take_ (i := 3) (N := some 48) (v := ?_) (a' := ?_) #[false, true, true, true, false, false, true, true, false, false, false, true, true, false, false, false, false, false] rfl rfl (take_ofW HT_.out HW_.out (by kernel_rfl)) (fun _ _ _ h => h) (Or.inl ⟨by rfl, ?_⟩) hHeld ?_ ?_
      rotate_left
      ·rintro w' ⟨s0, s1, s2, s3, s4, s5, s6, s7, s8, s9, s10⟩
       go_simp
       with_reducible rfl
      rotate_left
      ·exact mP
      refine take_ (i := 8) (N := some 53) (v := ?_) (a' := ?_) #[false, true, true, true, false, false, true, true, true, false, false, true, true, false, false, false, false, false] rfl rfl (take_ofW HT_.out HW_.out (by kernel_rfl)) (fun _ _ _ h => h) (Or.inl ⟨by rfl, ?_⟩) hHeld ?_ ?_
      rotate_left
      ·rintro w' ⟨s0, s1, s2, s3, s4, s5, s6, s7, s8, s9, s10⟩
       go_simp
       with_reducible rfl
      rotate_left
      ·exact mP
      refine take_ (i := 13) (N := some 58) (v := ?_) (a' := ?_) #[false, true, true, true, false, false, true, true, true, false, false, true, true, true, false, false, false, false] rfl rfl (take_ofW HT_.out HW_.out (by kernel_rfl)) (fun _ _ _ h => h) (Or.inl ⟨by rfl, ?_⟩) hHeld ?_ ?_
      rotate_left
      ·rintro w' ⟨s0, s1, s2, s3, s4, s5, s6, s7, s8, s9, s10⟩
       go_simp
       with_reducible rfl
      rotate_left
      ·exact mP
      refine pure_ (i := 14) (N := some 59) (v := ?_) (a' := ?_) #[false, true, true, true, false, false, true, true, true, false, false, true, true, true, true, false, false, false] rfl rfl (any_of HT_.out (by kernel_rfl)) (fun _ _ _ h => h) (Or.inl ⟨by rfl, ?_⟩) ?_ ?_
      rotate_left
      ·intro w'
       go_simp
       with_reducible rfl
      rotate_left
      ·exact mP
      refine one_ (i := 0) (N := some 45) #[true, true, true, true, false, false, true, true, true, false, false, true, true, true, true, false, false, false] rfl rfl (one_of HT_.out (by kernel_rfl)) (by decide) (fun K hK => ?_)
      refine goes_ Try.func57 (by kernel_rfl) rfl #[.int .i64 3] (by rfl) rfl rfl mS ?_
      with_reducible refine (foghornref17_one.calls 3 t313 _ A39.out).mono ?_
      rintro e w49 ⟨rfl, hb⟩
      refine ⟨_, rfl, ?_⟩
      have n0_ := aA (bB BK302.out hb)
      have n1_ := aA (below_step (mD1 GE302.out) hb)
      clear BK302
      clear HB
      have BK302 := n0_
      have HB := n1_
      clear n0_ n1_
      (try clear hb)
      (try clear hb2)
      (try clear hk)
      (try clear hi)
      refine hK.out _ _ (bC11 BK302.out) (fun hHeld => ?_)
      clear hK K
      refine norm_ (a' := ?_) ?_ ?_
      rotate_left
      ·show Act.put _ (some 45) _ = _
       simp only [Act.put, List.setIfInBounds_toArray, List.set_cons_zero, List.set_cons_succ, i64_w, i32_w]
       rfl
      refine one_ (i := 4) (N := some 49) #[true, true, true, true, true, false, true, true, true, false, false, true, true, true, true, false, false, false] rfl rfl (one_of HT_.out (by kernel_rfl)) (by decide) (fun K hK => ?_)
      refine goes_ Try.func59 (by kernel_rfl) rfl #[.int .i64 a0_8] (by rfl) rfl rfl mS ?_
      with_reducible refine (foghornref17_six.calls k a0_8 t314 _ A40.out).mono ?_
      rintro e w50 ⟨rfl, hb⟩
      refine ⟨_, rfl, ?_⟩
      have n0_ := aA (bB BK302.out hb)
      have n1_ := aA (below_step (mD1 GE302.out) hb)
      clear BK302
      clear HB
      have BK302 := n0_
      have HB := n1_
      clear n0_ n1_
      (try clear hb)
      (try clear hb2)
      (try clear hk)
      (try clear hi)
      refine hK.out _ _ (bC11 BK302.out) (fun hHeld => ?_)
      clear hK K
      refine norm_ (a' := ?_) ?_ ?_
      rotate_left
      ·show Act.put _ (some 49) _ = _
       simp only [Act.put, List.setIfInBounds_toArray, List.set_cons_zero, List.set_cons_succ, i64_w, i32_w]
       rfl
      refine pure_ (i := 5) (N := some 50) (v := ?_) (a' := ?_) #[true, true, true, true, true, true, true, true, true, false, false, true, true, true, true, false, false, false] rfl rfl (any_of HT_.out (by kernel_rfl)) (fun _ _ _ h => h) (Or.inl ⟨by rfl, ?_⟩) ?_ ?_
      rotate_left
      ·intro w'
       go_simp
       with_reducible rfl
      rotate_left
      ·exact mP
      refine one_ (i := 9) (N := some 54) #[true, true, true, true, true, true, true, true, true, true, false, true, true, true, true, false, false, false] rfl rfl (one_of HT_.out (by kernel_rfl)) (by decide) (fun K hK => ?_)
      refine goes_ Try.func59 (by kernel_rfl) rfl #[.int .i64 a0_9] (by rfl) rfl rfl mS ?_
      with_reducible refine (foghornref17_six.calls k a0_9 t315 _ A42.out).mono ?_
      rintro e w51 ⟨rfl, hb⟩
      refine ⟨_, rfl, ?_⟩
      have n0_ := aA (bB BK302.out hb)
      have n1_ := aA (below_step (mD1 GE302.out) hb)
      clear BK302
      clear HB
      have BK302 := n0_
      have HB := n1_
      clear n0_ n1_
      (try clear hb)
      (try clear hb2)
      (try clear hk)
      (try clear hi)
      refine hK.out _ _ (bC11 BK302.out) (fun hHeld => ?_)
      clear hK K
      refine norm_ (a' := ?_) ?_ ?_
      rotate_left
      ·show Act.put _ (some 54) _ = _
       simp only [Act.put, List.setIfInBounds_toArray, List.set_cons_zero, List.set_cons_succ, i64_w, i32_w]
       rfl
      refine pure_ (i := 10) (N := some 55) (v := ?_) (a' := ?_) #[true, true, true, true, true, true, true, true, true, true, true, true, true, true, true, false, false, false] rfl rfl (any_of HT_.out (by kernel_rfl)) (fun _ _ _ h => h) (Or.inl ⟨by rfl, ?_⟩) ?_ ?_
      rotate_left
      ·intro w'
       go_simp
       with_reducible rfl
      rotate_left
      ·exact mP
      refine one_ (i := 15) (N := some 60) #[true, true, true, true, true, true, true, true, true, true, true, true, true, true, true, true, false, false] rfl rfl (one_of HT_.out (by kernel_rfl)) (by decide) (fun K hK => ?_)
      refine goes_ Try.func57 (by kernel_rfl) rfl #[.int .i64 (l0_10.length : Int)] (by rfl) rfl rfl mS ?_
      with_reducible refine (foghornref17_one.calls (l0_10.length : Int) t316 _ A44.out).mono ?_
      rintro e w52 ⟨rfl, hb⟩
      refine ⟨_, rfl, ?_⟩
      have n0_ := aA (bB BK302.out hb)
      have n1_ := aA (below_step (mD1 GE302.out) hb)
      clear BK302
      clear HB
      have BK302 := n0_
      have HB := n1_
      clear n0_ n1_
      (try clear hb)
      (try clear hb2)
      (try clear hk)
      (try clear hi)
      refine hK.out _ _ (bC11 BK302.out) (fun hHeld => ?_)
      clear hK K
      refine norm_ (a' := ?_) ?_ ?_
      rotate_left
      ·show Act.put _ (some 60) _ = _
       simp only [Act.put, List.setIfInBounds_toArray, List.set_cons_zero, List.set_cons_succ, i64_w, i32_w]
       rfl
      refine pure_ (i := 16) (N := some 61) (v := ?_) (a' := ?_) #[true, true, true, true, true, true, true, true, true, true, true, true, true, true, true, true, true, false] rfl rfl (any_of HT_.out (by kernel_rfl)) (fun _ _ _ h => h) (Or.inl ⟨by rfl, ?_⟩) ?_ ?_
      rotate_left
      ·intro w'
       go_simp
       with_reducible rfl
      rotate_left
      ·exact mP
      refine pure_ (i := 17) (N := some 4) (v := ?_) (a' := ?_) #[true, true, true, true, true, true, true, true, true, true, true, true, true, true, true, true, true, true] rfl rfl (any_of HT_.out (by kernel_rfl)) (fun _ _ _ h => h) (Or.inl ⟨by rfl, ?_⟩) ?_ ?_
      rotate_left
      ·intro w'
       go_simp
       with_reducible rfl
      rotate_left
      ·exact mP
      refine done_ (done_of HT_.out (by kernel_rfl)) ?_
      obtain ⟨hcz53_0, hcz53_1, hcz53_2, hcz53_3, hcz53_4, hcz53_5, hcz53_6, hcz53_7, hcz53_8, hcz53_9, hcz53_10⟩ := bC11 BK302.out
      obtain ⟨hfz53_0, hfz53_1, hfz53_2, hfz53_3, hfz53_4, hfz53_5, hfz53_6, hfz53_7, hfz53_8, hfz53_9, hfz53_10⟩ := bF11 BK302.out
      try go_wp2
      go_loopg [4, 66] k (fun kq v4 v66 w' => ∃ (x4_1 : ByteArray) (x66_1 : Int), v4 = .string x4_1 ∧ v66 = .int .i64 x66_1 ∧ Aside0 (foghornref17_Put.l0 kq x4_1 l0_10 (l0_10.length : Int) x66_1 = some r) ∧ Aside0 (kq ≤ k) ∧ Aside0 (w'.heap[gb302]? = some (.cells #[.int .i64 a0_0, (.slice A0_1 l0_1.length c0_1), .int .i64 a0_2, .int .i64 a0_3, .int .i64 a0_4, .int .i64 a0_5, .int .i64 a0_6, (.slice A0_7 l0_7.length c0_7), .int .i64 a0_8, .int .i64 a0_9, (.slice A0_10 l0_10.length c0_10)] 50 (0, 0))) ∧ Aside0 (Below w.heap.size w w'))
      case atStart => exact ⟨(((t313 ++ t314) ++ t315) ++ t316), (0), (by first | rfl | (simp; done) | (simp [*]; done)), (by first | rfl | (simp; done) | (simp [*]; done)), H', ⟨Nat.le_refl _⟩, ⟨by (with_reducible repeat (first | refine blk_drewN ?_ _ | refine blk_drew ?_ | refine blk_alloc ?_ _)); exact BK302.out⟩, ⟨by repeat (first | (with_reducible first | exact HB.out | apply below_alloc | apply pw_below_drewN | apply below_drew1 | refine below_set ?_ GE302.out) | exact HB.out)⟩⟩
      case round =>
       clear H'
       try clear c1
       try clear c2
       try clear p2
       try clear c4
       try clear c5
       try clear c11
       try clear c11b0
       try clear c11b1
       try clear c14
       try clear c16
       try clear c18
       try clear c20
       try clear c22
       try clear c24
       try clear c29
       try clear c41
       try clear c41b0
       try clear c41b1
       try clear c41b2
       try clear c43
       try clear c43b0
       try clear c43b1
       try clear c43b2
       try clear c45
       try clear c45b0
       try clear c45b1
       try clear c45b2
       try clear hcz47_0
       try clear hcz47_1
       try clear hcz47_10
       try clear hcz47_2
       try clear hcz47_3
       try clear hcz47_4
       try clear hcz47_5
       try clear hcz47_6
       try clear hcz47_7
       try clear hcz47_8
       try clear hcz47_9
       try clear hcz53_0
       try clear hcz53_1
       try clear hcz53_10
       try clear hcz53_2
       try clear hcz53_3
       try clear hcz53_4
       try clear hcz53_5
       try clear hcz53_6
       try clear hcz53_7
       try clear hcz53_8
       try clear hcz53_9
       try clear hfz47_0
       try clear hfz47_1
       try clear hfz47_10
       try clear hfz47_2
       try clear hfz47_3
       try clear hfz47_4
       try clear hfz47_5
       try clear hfz47_6
       try clear hfz47_7
       try clear hfz47_8
       try clear hfz47_9
       try clear hfz53_0
       try clear hfz53_1
       try clear hfz53_10
       try clear hfz53_2
       try clear hfz53_3
       try clear hfz53_4
       try clear hfz53_5
       try clear hfz53_6
       try clear hfz53_7
       try clear hfz53_8
       try clear hfz53_9
       obtain ⟨x4_1, x66_1, rfl, rfl, HA, HK1, BK302, HB⟩ := hrel
       cases gk with
       | zero => exact absurd HA.out (by simp [foghornref17_Put.l0])
       | succ k1 =>
        have H := HA.out
        clear HA
        simp only [foghornref17_Put.l0] at H
        by_cases c54 : x66_1 < (l0_10.length : Int)
        ·rw [if_pos c54] at H
         have c54b0 : decide (x66_1 < (l0_10.length : Int)) = true := decide_eq_true c54
         clear c54
         by_cases c55 : 0 ≤ x66_1
         ·rw [if_pos c55] at H
          have c55b0 : decide (0 ≤ x66_1) = true := decide_eq_true c55
          clear c55
          by_cases c56 : x66_1 < (l0_10.length : Int)
          ·rw [if_pos c56] at H
           have c56b0 : decide (x66_1 < (l0_10.length : Int)) = true := decide_eq_true c56
           clear c56
           replace H := Option.bind_eq_some_iff.mp H
           obtain ⟨t319, A570, H⟩ := H
           have A57 := aA A570
           clear A570
           by_cases c58 : x4_1.size + t319.size ≤ 9223372036854775807
           ·rw [if_pos c58] at H
            have c58b0 := eq_true c58
            have c58b1 := decide_eq_true c58
            try have c58b2 : (9223372036854775807 < x4_1.size + t319.size) = False := eq_false (Nat.not_lt.2 c58)
            replace H := Option.bind_eq_some_iff.mp H
            obtain ⟨t320, A590, H⟩ := H
            have A59 := aA A590
            clear A590
            by_cases c60 : (x4_1 ++ t319).size + t320.size ≤ 9223372036854775807
            ·rw [if_pos c60] at H
             have c60b0 := eq_true c60
             have c60b1 := decide_eq_true c60
             try have c60b2 : (9223372036854775807 < (x4_1 ++ t319).size + t320.size) = False := eq_false (Nat.not_lt.2 c60)
             try have c60b3 : (9223372036854775807 < (x4_1).size + (t319).size + (t320).size) = False := eq_false (by have h_ := c60; simp only [ByteArray.size_append] at h_; omega)
             replace H := Option.bind_eq_some_iff.mp H
             obtain ⟨t321, A610, H⟩ := H
             have A61 := aA A610
             clear A610
             by_cases c62 : ((x4_1 ++ t319) ++ t320).size + t321.size ≤ 9223372036854775807
             ·rw [if_pos c62] at H
              have c62b0 := eq_true c62
              have c62b1 := decide_eq_true c62
              try have c62b2 : (9223372036854775807 < ((x4_1 ++ t319) ++ t320).size + t321.size) = False := eq_false (Nat.not_lt.2 c62)
              try have c62b3 : (9223372036854775807 < (x4_1).size + (t319).size + (t320).size + (t321).size) = False := eq_false (by have h_ := c62; simp only [ByteArray.size_append] at h_; omega)
              have H' := aA H
              clear H
              have p317 : 0 ≤ (x66_1 : Int) := of_decide_eq_true (by first | (with_reducible assumption) | assumption)
              have q317 : x66_1 < (l0_10.length : Int) := of_decide_eq_true (by first | (with_reducible assumption) | assumption)
              obtain ⟨ad317, e317, hx317_0, hx317_1, hx317_2⟩ := at_T35 HR0_10.out x66_1 p317 q317
              cases e317
              replace hx317_0 := (HB.out.cell (World.block_lt_of_cell? w _ hx317_0)).trans hx317_0
              replace hx317_1 := (HB.out.cell (World.block_lt_of_cell? w _ hx317_1)).trans hx317_1
              replace hx317_2 := (HB.out.cell (World.block_lt_of_cell? w _ hx317_2)).trans hx317_2
              replace p317 := eq_true p317
              replace q317 := eq_true q317
              try go_wp2_with (first | ((with_reducible refine gate_dst (N := 6) rfl ?_); refine box_event ?hg (N := 6) ?hd (cs := #[.int .i64 0, .string (⟨#[]⟩ : ByteArray), .string (⟨#[]⟩ : ByteArray)]) (t := 35) ?hr ?_; (case hd => rfl); (case hg => rfl); (case hr => first | (go_simp; done) | (go_simp; rfl)); intro gb318 hg w63 hbox hb; have n0_ := aA (bB BK302.out hb); have n1_ := aA (below_step (mD1 GE302.out) hb); have n2_ := aA (hbox); have n3_ := aA ((bZ hg (mD1 GE302.out))); have n4_ := aA ((bZ hg (mD1 GE302.out))); have n5_ := aA ((bL hg BK302.out)); have n6_ := aA ((bG hg BK302.out)); clear BK302 HB; have BK302 := n0_; have HB := n1_; have BK318 := n2_; have GW318 := n3_; have GE318 := n4_; have NB302_318 := n5_; have NB318_302 := n6_; clear n0_ n1_ n2_ n3_ n4_ n5_ n6_ hb hbox hg; have hnb64 := NB318_302.out; have hnc64 := NB302_318.out; obtain ⟨hcz65_0, hcz65_1, hcz65_2⟩ := bC3 BK318.out; obtain ⟨hfz65_0, hfz65_1, hfz65_2⟩ := bF3 BK318.out))
              have n0_ : Aside0 ((((w63.setCell ⟨gb318, 0, none⟩ (.int .i64 ((rd_T35 l0_10 x66_1).f0))).setCell ⟨gb318, 1, none⟩ (.string ((rd_T35 l0_10 x66_1).f1))).setCell ⟨gb318, 2, none⟩ (.string ((rd_T35 l0_10 x66_1).f2))).heap[gb302]? = some (.cells #[.int .i64 a0_0, .slice A0_1 l0_1.length c0_1, .int .i64 a0_2, .int .i64 a0_3, .int .i64 a0_4, .int .i64 a0_5, .int .i64 a0_6, .slice A0_7 l0_7.length c0_7, .int .i64 a0_8, .int .i64 a0_9, .slice (some ad317) l0_10.length c0_10] 50 (0, 0))) := ⟨by (with_reducible repeat (first | refine blk_drewN ?_ _ | refine blk_drew ?_ | refine blk_alloc ?_ _)); refine blk_far ?_ NB302_318.out _; (with_reducible repeat (first | refine blk_drewN ?_ _ | refine blk_drew ?_ | refine blk_alloc ?_ _)); refine blk_far ?_ NB302_318.out _; (with_reducible repeat (first | refine blk_drewN ?_ _ | refine blk_drew ?_ | refine blk_alloc ?_ _)); refine blk_far ?_ NB302_318.out _; (with_reducible repeat (first | refine blk_drewN ?_ _ | refine blk_drew ?_ | refine blk_alloc ?_ _)); exact BK302.out⟩
              have n1_ : Aside0 ((((w63.setCell ⟨gb318, 0, none⟩ (.int .i64 ((rd_T35 l0_10 x66_1).f0))).setCell ⟨gb318, 1, none⟩ (.string ((rd_T35 l0_10 x66_1).f1))).setCell ⟨gb318, 2, none⟩ (.string ((rd_T35 l0_10 x66_1).f2))).heap[gb318]? = some (.cells #[.int .i64 ((rd_T35 l0_10 x66_1).f0), .string ((rd_T35 l0_10 x66_1).f1), .string ((rd_T35 l0_10 x66_1).f2)] 35 (0, 0))) := ⟨by (with_reducible repeat (first | refine blk_drewN ?_ _ | refine blk_drew ?_ | refine blk_alloc ?_ _)); refine blk_put (cs := #[.int .i64 ((rd_T35 l0_10 x66_1).f0), .string ((rd_T35 l0_10 x66_1).f1), .string (⟨#[]⟩ : ByteArray)]) ?_ 2 _ rfl; (with_reducible repeat (first | refine blk_drewN ?_ _ | refine blk_drew ?_ | refine blk_alloc ?_ _)); refine blk_put (cs := #[.int .i64 ((rd_T35 l0_10 x66_1).f0), .string (⟨#[]⟩ : ByteArray), .string (⟨#[]⟩ : ByteArray)]) ?_ 1 _ rfl; (with_reducible repeat (first | refine blk_drewN ?_ _ | refine blk_drew ?_ | refine blk_alloc ?_ _)); refine blk_put (cs := #[.int .i64 0, .string (⟨#[]⟩ : ByteArray), .string (⟨#[]⟩ : ByteArray)]) ?_ 0 _ rfl; (with_reducible repeat (first | refine blk_drewN ?_ _ | refine blk_drew ?_ | refine blk_alloc ?_ _)); exact BK318.out⟩
              have n2_ : Aside0 (Below w.heap.size w (((w63.setCell ⟨gb318, 0, none⟩ (.int .i64 ((rd_T35 l0_10 x66_1).f0))).setCell ⟨gb318, 1, none⟩ (.string ((rd_T35 l0_10 x66_1).f1))).setCell ⟨gb318, 2, none⟩ (.string ((rd_T35 l0_10 x66_1).f2)))) := ⟨by repeat (first | (with_reducible first | exact HB.out | apply below_alloc | apply pw_below_drewN | apply below_drew1 | refine below_set ?_ GE302.out | refine below_set ?_ GE318.out) | exact HB.out)⟩
              (try clear BK302)
              (try clear BK318)
              (try clear HB)
              generalize (((w63.setCell ⟨gb318, 0, none⟩ (.int .i64 ((rd_T35 l0_10 x66_1).f0))).setCell ⟨gb318, 1, none⟩ (.string ((rd_T35 l0_10 x66_1).f1))).setCell ⟨gb318, 2, none⟩ (.string ((rd_T35 l0_10 x66_1).f2))) = w66 at n0_ n1_ n2_ ⊢
              have BK302 := n0_
              have BK318 := n1_
              have HB := n2_
              clear n0_ n1_ n2_
              have n0_ := aA (blk_drew BK302.out)
              have n1_ := aA (blk_drew BK318.out)
              have n2_ := aA (below_drew1 HB.out)
              clear BK302
              clear BK318
              clear HB
              have BK302 := n0_
              have BK318 := n1_
              have HB := n2_
              clear n0_ n1_ n2_
              refine start_ (n := 14) (S := fun w' => w'.cell? ⟨gb318, 0, none⟩ = some (.int .i64 ((rd_T35 l0_10 x66_1).f0)) ∧ w'.cell? ⟨gb318, 1, none⟩ = some (.string ((rd_T35 l0_10 x66_1).f1)) ∧ w'.cell? ⟨gb318, 2, none⟩ = some (.string ((rd_T35 l0_10 x66_1).f2))) (ds := []) #[false, false, false, false, false, false, false, false, false, false, false, false, false, false] (by kernel_rfl) rfl rfl (bC3 BK318.out) (fun hHeld => ?_); refine with_tabW foghornref17_Put.tab10 foghornref17_Put.bits10 (fun HT_ HW_ => ?_)
              generalize w66.drew = w67 at BK302 BK318 HB hHeld ⊢
              refine pure_ (i := 0) (N := some 70) (v := ?_) (a' := ?_) #[true, false, false, false, false, false, false, false, false, false, false, false, false, false] rfl rfl (any_of HT_.out (by kernel_rfl)) (fun _ _ _ h => h) (Or.inl ⟨by rfl, ?_⟩) ?_ ?_
              rotate_left
              ·intro w'
               go_simp
               with_reducible rfl
              rotate_left
              ·exact mP
              refine pure_ (i := 1) (N := some 71) (v := ?_) (a' := ?_) #[true, true, false, false, false, false, false, false, false, false, false, false, false, false] rfl rfl (any_of HT_.out (by kernel_rfl)) (fun _ _ _ h => h) (Or.inl ⟨by rfl, ?_⟩) ?_ ?_
              rotate_left
              ·intro w'
               go_simp
               with_reducible rfl
              rotate_left
              ·exact mP
              refine pure_ (i := 5) (N := some 75) (v := ?_) (a' := ?_) #[true, true, false, false, false, true, false, false, false, false, false, false, false, false] rfl rfl (any_of HT_.out (by kernel_rfl)) (fun _ _ _ h => h) (Or.inl ⟨by rfl, ?_⟩) ?_ ?_
              rotate_left
              ·intro w'
               go_simp
               with_reducible rfl
              rotate_left
              ·exact mP
              refine pure_ (i := 9) (N := some 79) (v := ?_) (a' := ?_) #[true, true, false, false, false, true, false, false, false, true, false, false, false, false] rfl rfl (any_of HT_.out (by kernel_rfl)) (fun _ _ _ h => h) (Or.inl ⟨by rfl, ?_⟩) ?_ ?_
              rotate_left
              ·intro w'
               go_simp
               with_reducible rfl
              rotate_left
              ·exact mP
              refine take_ (i := 2) (N := some 72) (v := ?_) (a' := ?_) #[true, true, true, false, false, true, false, false, false, true, false, false, false, false] rfl rfl (take_ofW HT_.out HW_.out (by kernel_rfl)) (fun _ _ _ h => h) (Or.inl ⟨by rfl, ?_⟩) hHeld ?_ ?_
              rotate_left
              ·rintro w' ⟨s0, s1, s2⟩
               go_simp
               with_reducible rfl
              rotate_left
              ·exact mP
              refine take_ (i := 6) (N := some 76) (v := ?_) (a' := ?_) #[true, true, true, false, false, true, true, false, false, true, false, false, false, false] rfl rfl (take_ofW HT_.out HW_.out (by kernel_rfl)) (fun _ _ _ h => h) (Or.inl ⟨by rfl, ?_⟩) hHeld ?_ ?_
              rotate_left
              ·rintro w' ⟨s0, s1, s2⟩
               go_simp
               with_reducible rfl
              rotate_left
              ·exact mP
              refine take_ (i := 10) (N := some 80) (v := ?_) (a' := ?_) #[true, true, true, false, false, true, true, false, false, true, true, false, false, false] rfl rfl (take_ofW HT_.out HW_.out (by kernel_rfl)) (fun _ _ _ h => h) (Or.inl ⟨by rfl, ?_⟩) hHeld ?_ ?_
              rotate_left
              ·rintro w' ⟨s0, s1, s2⟩
               go_simp
               with_reducible rfl
              rotate_left
              ·exact mP
              refine one_ (i := 3) (N := some 73) #[true, true, true, true, false, true, true, false, false, true, true, false, false, false] rfl rfl (one_of HT_.out (by kernel_rfl)) (by decide) (fun K hK => ?_)
              refine goes_ Try.func57 (by kernel_rfl) rfl #[.int .i64 ((rd_T35 l0_10 x66_1).f0)] (by rfl) rfl rfl mS ?_
              with_reducible refine (foghornref17_one.calls ((rd_T35 l0_10 x66_1).f0) t319 _ A57.out).mono ?_
              rintro e w68 ⟨rfl, hb⟩
              refine ⟨_, rfl, ?_⟩
              have n0_ := aA (bB BK302.out hb)
              have n1_ := aA (bB BK318.out hb)
              have n2_ := aA (below_step (mD2 GE302.out GE318.out) hb)
              clear BK302
              clear BK318
              clear HB
              have BK302 := n0_
              have BK318 := n1_
              have HB := n2_
              clear n0_ n1_ n2_
              (try clear hb)
              (try clear hb2)
              (try clear hk)
              (try clear hi)
              refine hK.out _ _ (bC3 BK318.out) (fun hHeld => ?_)
              clear hK K
              refine norm_ (a' := ?_) ?_ ?_
              rotate_left
              ·show Act.put _ (some 73) _ = _
               simp only [Act.put, List.setIfInBounds_toArray, List.set_cons_zero, List.set_cons_succ, i64_w, i32_w]
               rfl
              refine pure_ (i := 4) (N := some 74) (v := ?_) (a' := ?_) #[true, true, true, true, true, true, true, false, false, true, true, false, false, false] rfl rfl (any_of HT_.out (by kernel_rfl)) (fun _ _ _ h => h) (Or.inl ⟨by rfl, ?_⟩) ?_ ?_
              rotate_left
              ·intro w'
               go_simp
               with_reducible rfl
              rotate_left
              ·exact mP
              refine one_ (i := 7) (N := some 77) #[true, true, true, true, true, true, true, true, false, true, true, false, false, false] rfl rfl (one_of HT_.out (by kernel_rfl)) (by decide) (fun K hK => ?_)
              refine goes_ Try.func60 (by kernel_rfl) rfl #[.string ((rd_T35 l0_10 x66_1).f1)] (by rfl) rfl rfl mS ?_
              with_reducible refine (foghornref17_text.calls ((rd_T35 l0_10 x66_1).f1) t320 _ A59.out).mono ?_
              rintro e w69 ⟨rfl, hb⟩
              refine ⟨_, rfl, ?_⟩
              have n0_ := aA (bB BK302.out hb)
              have n1_ := aA (bB BK318.out hb)
              have n2_ := aA (below_step (mD2 GE302.out GE318.out) hb)
              clear BK302
              clear BK318
              clear HB
              have BK302 := n0_
              have BK318 := n1_
              have HB := n2_
              clear n0_ n1_ n2_
              (try clear hb)
              (try clear hb2)
              (try clear hk)
              (try clear hi)
              refine hK.out _ _ (bC3 BK318.out) (fun hHeld => ?_)
              clear hK K
              refine norm_ (a' := ?_) ?_ ?_
              rotate_left
              ·show Act.put _ (some 77) _ = _
               simp only [Act.put, List.setIfInBounds_toArray, List.set_cons_zero, List.set_cons_succ, i64_w, i32_w]
               rfl
              refine pure_ (i := 8) (N := some 78) (v := ?_) (a' := ?_) #[true, true, true, true, true, true, true, true, true, true, true, false, false, false] rfl rfl (any_of HT_.out (by kernel_rfl)) (fun _ _ _ h => h) (Or.inl ⟨by rfl, ?_⟩) ?_ ?_
              rotate_left
              ·intro w'
               go_simp
               with_reducible rfl
              rotate_left
              ·exact mP
              refine one_ (i := 11) (N := some 81) #[true, true, true, true, true, true, true, true, true, true, true, true, false, false] rfl rfl (one_of HT_.out (by kernel_rfl)) (by decide) (fun K hK => ?_)
              refine goes_ Try.func60 (by kernel_rfl) rfl #[.string ((rd_T35 l0_10 x66_1).f2)] (by rfl) rfl rfl mS ?_
              with_reducible refine (foghornref17_text.calls ((rd_T35 l0_10 x66_1).f2) t321 _ A61.out).mono ?_
              rintro e w70 ⟨rfl, hb⟩
              refine ⟨_, rfl, ?_⟩
              have n0_ := aA (bB BK302.out hb)
              have n1_ := aA (bB BK318.out hb)
              have n2_ := aA (below_step (mD2 GE302.out GE318.out) hb)
              clear BK302
              clear BK318
              clear HB
              have BK302 := n0_
              have BK318 := n1_
              have HB := n2_
              clear n0_ n1_ n2_
              (try clear hb)
              (try clear hb2)
              (try clear hk)
              (try clear hi)
              refine hK.out _ _ (bC3 BK318.out) (fun hHeld => ?_)
              clear hK K
              refine norm_ (a' := ?_) ?_ ?_
              rotate_left
              ·show Act.put _ (some 81) _ = _
               simp only [Act.put, List.setIfInBounds_toArray, List.set_cons_zero, List.set_cons_succ, i64_w, i32_w]
               rfl
              refine pure_ (i := 12) (N := some 82) (v := ?_) (a' := ?_) #[true, true, true, true, true, true, true, true, true, true, true, true, true, false] rfl rfl (any_of HT_.out (by kernel_rfl)) (fun _ _ _ h => h) (Or.inl ⟨by rfl, ?_⟩) ?_ ?_
              rotate_left
              ·intro w'
               go_simp
               with_reducible rfl
              rotate_left
              ·exact mP
              refine pure_ (i := 13) (N := some 4) (v := ?_) (a' := ?_) #[true, true, true, true, true, true, true, true, true, true, true, true, true, true] rfl rfl (any_of HT_.out (by kernel_rfl)) (fun _ _ _ h => h) (Or.inl ⟨by rfl, ?_⟩) ?_ ?_
              rotate_left
              ·intro w'
               go_simp
               with_reducible rfl
              rotate_left
              ·exact mP
              refine done_ (done_of HT_.out (by kernel_rfl)) ?_
              try go_wp2
              go_roundg k1
              case measure => have := HK1.out; omega
              case rel => exact ⟨(((x4_1 ++ t319) ++ t320) ++ t321), (wrap64 (x66_1 + 1)), (by first | rfl | (simp; done) | (simp [*]; done)), (by first | rfl | (simp; done) | (simp [*]; done)), H', ⟨by have := HK1.out; omega⟩, ⟨by (with_reducible repeat (first | refine blk_drewN ?_ _ | refine blk_drew ?_ | refine blk_alloc ?_ _)); exact BK302.out⟩, ⟨by repeat (first | (with_reducible first | exact HB.out | apply below_alloc | apply pw_below_drewN | apply below_drew1 | refine below_set ?_ GE302.out | refine below_set ?_ GE318.out) | exact HB.out)⟩⟩
             ·rw [if_neg c62] at H
              exact absurd H (by simp)
            ·rw [if_neg c60] at H
             exact absurd H (by simp)
           ·rw [if_neg c58] at H
            exact absurd H (by simp)
          ·rw [if_neg c56] at H
           exact absurd H (by simp)
         ·rw [if_neg c55] at H
          exact absurd H (by simp)
        ·rw [if_neg c54] at H
         have c54b0 : decide (x66_1 < (l0_10.length : Int)) = false := decide_eq_false c54
         clear c54
         obtain rfl := Option.some.inj H
         go_wp2
         go_ret
         exact ⟨by first | rfl | (simp [errW_none, errW_some] <;> rfl) | (simp [*, errW_none, errW_some] <;> rfl), by repeat (first | (with_reducible first | exact HB.out | apply below_alloc | apply pw_below_drewN | apply below_drew1 | refine below_set ?_ GE302.out) | exact HB.out)⟩
     ·rw [if_neg c45] at H
      exact absurd H (by simp)
    ·rw [if_neg c43] at H
     exact absurd H (by simp)
   ·rw [if_neg c41] at H
    exact absurd H (by simp)
end Go.Proofs.YtndgollcganhmaaQ.P
namespace Go.Proofs.YtndgollcganhmaaQ.P
open Go.RowKit Go.Proofs.YtndgollcganhmaaW.PrintWords Go.Proofs.YtndgollcganhmaaW.PrintLast Go.Proofs.YtndgollcganhmaaW.PrintMore
attribute [local go_sem] max2_int min2_int max_two min_two max_three min_three max_four min_four
def foghornref17_at.f (a0 : ByteArray) (a1 : Int) : Option (Int) := if a1 < (a0.size : Int) then (if 0 ≤ a1 then (some (wrap64 (bt a0 a1))) else (none)) else (some 0)
set_option maxHeartbeats 8000000 in
set_option maxRecDepth 100000 in
theorem foghornref17_at.calls (a0 : ByteArray) (a1 : Int) (r : Int) (w : World) (h : foghornref17_at.f a0 a1 = some r) :
  Calls Try.prog 65 #[.string a0, .int .i64 a1] w fun e w' => e = .returned (.int .i64 r) ∧ Drawn0 w w' := by
 have H : (if a1 < (a0.size : Int) then (if 0 ≤ a1 then (some (wrap64 (bt a0 a1))) else (none)) else (some 0)) = some r := h
 clear h
 by_cases c3 : a1 < (a0.size : Int)
 ·rw [if_pos c3] at H
  have c3b0 : decide (a1 < (a0.size : Int)) = true := decide_eq_true c3
  clear c3
  by_cases c4 : 0 ≤ a1
  ·rw [if_pos c4] at H
   have c4b0 : decide (0 ≤ a1) = true := decide_eq_true c4
   clear c4
   obtain rfl := Option.some.inj H
   have p5 : 0 ≤ (a1 : Int) := of_decide_eq_true (by first | (with_reducible assumption) | assumption)
   have q5 : a1 < (a0.size : Int) := of_decide_eq_true (by first | (with_reducible assumption) | assumption)
   have hx5 := bt_at a0 a1
   replace p5 := eq_true p5
   replace q5 := eq_true q5
   go_enter Try.func65, Try.ntmps65
   go_wp2
   go_ret
   exact ⟨by first | rfl | (simp; done) | (simp [*]; done), by repeat (first | exact Drawn0.refl _ | apply Drawn0.step)⟩
  ·rw [if_neg c4] at H
   exact absurd H (by simp)
 ·rw [if_neg c3] at H
  have c3b0 : decide (a1 < (a0.size : Int)) = false := decide_eq_false c3
  clear c3
  obtain rfl := Option.some.inj H
  go_enter Try.func65, Try.ntmps65
  go_wp2
  go_ret
  exact ⟨by first | rfl | (simp; done) | (simp [*]; done), by repeat (first | exact Drawn0.refl _ | apply Drawn0.step)⟩
end Go.Proofs.YtndgollcganhmaaQ.P
namespace Go.Proofs.YtndgollcganhmaaQ.P
open Go.RowKit Go.Proofs.YtndgollcganhmaaW.PrintWords Go.Proofs.YtndgollcganhmaaW.PrintLast Go.Proofs.YtndgollcganhmaaW.PrintMore
attribute [local go_sem] max2_int min2_int max_two min_two max_three min_three max_four min_four
def foghornref17_time.l0 : Nat → ByteArray → Int → Int → Int → Option (Int)
 | 0, _, _, _, _ => none
 | k + 1, x0, x1, x5, x6 => if x6 < 6 then ((foghornref17_at.f x0 (wrap64 (x1 + x6))).bind fun t347 => (foghornref17_time.l0 k x0 x1 (wrap64 ((wrap64 (256 * x5)) + t347)) (wrap64 (x6 + 1)))) else (some x5)
def foghornref17_time.f (k : Nat) (a0 : ByteArray) (a1 : Int) : Option (Int) := foghornref17_time.l0 k a0 a1 0 0
set_option maxHeartbeats 8000000 in
set_option maxRecDepth 100000 in
theorem foghornref17_time.calls (k : Nat) (a0 : ByteArray) (a1 : Int) (r : Int) (w : World) (h : foghornref17_time.f k a0 a1 = some r) :
  Calls Try.prog 66 #[.string a0, .int .i64 a1] w fun e w' => e = .returned (.int .i64 r) ∧ Drawn0 w w' := by
 have H : (foghornref17_time.l0 k a0 a1 0 0) = some r := h
 clear h
 have H' := aA H
 clear H
 go_enter Try.func66, Try.ntmps66
 go_wp2
 go_loopg [5, 6] k (fun kq v5 v6 w' => ∃ (x5_1 : Int) (x6_1 : Int), v5 = .int .i64 x5_1 ∧ v6 = .int .i64 x6_1 ∧ Aside0 (foghornref17_time.l0 kq a0 a1 x5_1 x6_1 = some r) ∧ Aside0 (kq ≤ k) ∧ Drawn0 w w')
 case atStart => exact ⟨(0), (0), (by first | rfl | (simp; done) | (simp [*]; done)), (by first | rfl | (simp; done) | (simp [*]; done)), H', ⟨Nat.le_refl _⟩, by repeat (first | exact Drawn0.refl _ | apply Drawn0.step)⟩
 case round =>
  clear H'
  try clear p2
  obtain ⟨x5_1, x6_1, rfl, rfl, HA, HK1, ⟨m1, rfl⟩⟩ := hrel
  cases gk with
  | zero => exact absurd HA.out (by simp [foghornref17_time.l0])
  | succ k1 =>
   have H := HA.out
   clear HA
   simp only [foghornref17_time.l0] at H
   by_cases c3 : x6_1 < 6
   ·rw [if_pos c3] at H
    have c3b0 : decide (x6_1 < 6) = true := decide_eq_true c3
    clear c3
    replace H := Option.bind_eq_some_iff.mp H
    obtain ⟨t347, A40, H⟩ := H
    have A4 := aA A40
    clear A40
    have H' := aA H
    clear H
    go_wp2_with (first | ((with_reducible refine gate_callee (f := 65) rfl ?_); refine goesL_ (some 17) rfl rfl Try.func65 (by kernel_rfl) rfl #[.string a0, .int .i64 (wrap64 (a1 + x6_1))] rfl mS ?_; (with_reducible refine (foghornref17_at.calls a0 (wrap64 (a1 + x6_1)) t347 _ A4.out).mono ?_); rintro e w' ⟨rfl, ⟨nd, rfl⟩⟩; refine ⟨_, rfl, ?_⟩))
    go_roundg k1
    case measure => have := HK1.out; omega
    case rel => exact ⟨(wrap64 ((wrap64 (256 * x5_1)) + t347)), (wrap64 (x6_1 + 1)), (by first | rfl | (simp; done) | (simp [*]; done)), (by first | rfl | (simp; done) | (simp [*]; done)), H', ⟨by have := HK1.out; omega⟩, by repeat (first | exact Drawn0.refl _ | apply Drawn0.step)⟩
   ·rw [if_neg c3] at H
    have c3b0 : decide (x6_1 < 6) = false := decide_eq_false c3
    clear c3
    obtain rfl := Option.some.inj H
    go_wp2
    go_ret
    exact ⟨by first | rfl | (simp; done) | (simp [*]; done), by repeat (first | exact Drawn0.refl _ | apply Drawn0.step)⟩
end Go.Proofs.YtndgollcganhmaaQ.P
namespace Go.Proofs.YtndgollcganhmaaQ.P
open Go.RowKit Go.Proofs.YtndgollcganhmaaW.PrintWords Go.Proofs.YtndgollcganhmaaW.PrintLast Go.Proofs.YtndgollcganhmaaW.PrintMore
attribute [local go_sem] max2_int min2_int max_two min_two max_three min_three max_four min_four
def foghornref17_word.f (a0 : ByteArray) (a1 : Int) : Option (ByteArray × Int) := (foghornref17_at.f a0 a1).bind fun t348 => (if (mn (wrap64 ((wrap64 (a1 + 1)) + t348)) (a0.size : Int)) ≤ (wrap64 (a1 + 1)) then (some ((⟨#[]⟩ : ByteArray), wrap64 (a1 + 1))) else (if 0 ≤ (wrap64 (a1 + 1)) then (if (wrap64 (a1 + 1)) ≤ (mn (wrap64 ((wrap64 (a1 + 1)) + t348)) (a0.size : Int)) then (if (mn (wrap64 ((wrap64 (a1 + 1)) + t348)) (a0.size : Int)) ≤ (a0.size : Int) then (some (a0.extract ((wrap64 (a1 + 1)) : Int).toNat ((mn (wrap64 ((wrap64 (a1 + 1)) + t348)) (a0.size : Int)) : Int).toNat, mn (wrap64 ((wrap64 (a1 + 1)) + t348)) (a0.size : Int))) else (none)) else (none)) else (none)))
set_option maxHeartbeats 8000000 in
set_option maxRecDepth 100000 in
theorem foghornref17_word.calls (a0 : ByteArray) (a1 : Int) (r1 : ByteArray) (r2 : Int) (w : World) (h : foghornref17_word.f a0 a1 = some (r1, r2)) :
  Calls Try.prog 90 #[.string a0, .int .i64 a1] w fun e w' => e = .returned (.tuple #[.string r1, .int .i64 r2]) ∧ Below w.heap.size w w' := by
 have HB := aA (Below.refl w.heap.size w)
 have H : ((foghornref17_at.f a0 a1).bind fun t348 => (if (mn (wrap64 ((wrap64 (a1 + 1)) + t348)) (a0.size : Int)) ≤ (wrap64 (a1 + 1)) then (some ((⟨#[]⟩ : ByteArray), wrap64 (a1 + 1))) else (if 0 ≤ (wrap64 (a1 + 1)) then (if (wrap64 (a1 + 1)) ≤ (mn (wrap64 ((wrap64 (a1 + 1)) + t348)) (a0.size : Int)) then (if (mn (wrap64 ((wrap64 (a1 + 1)) + t348)) (a0.size : Int)) ≤ (a0.size : Int) then (some (a0.extract ((wrap64 (a1 + 1)) : Int).toNat ((mn (wrap64 ((wrap64 (a1 + 1)) + t348)) (a0.size : Int)) : Int).toNat, mn (wrap64 ((wrap64 (a1 + 1)) + t348)) (a0.size : Int))) else (none)) else (none)) else (none)))) = some (r1, r2) := h
 clear h
 replace H := Option.bind_eq_some_iff.mp H
 obtain ⟨t348, A30, H⟩ := H
 replace H : (if (mn (wrap64 ((wrap64 (a1 + 1)) + t348)) (a0.size : Int)) ≤ (wrap64 (a1 + 1)) then (some ((⟨#[]⟩ : ByteArray), wrap64 (a1 + 1))) else (if 0 ≤ (wrap64 (a1 + 1)) then (if (wrap64 (a1 + 1)) ≤ (mn (wrap64 ((wrap64 (a1 + 1)) + t348)) (a0.size : Int)) then (if (mn (wrap64 ((wrap64 (a1 + 1)) + t348)) (a0.size : Int)) ≤ (a0.size : Int) then (some (a0.extract ((wrap64 (a1 + 1)) : Int).toNat ((mn (wrap64 ((wrap64 (a1 + 1)) + t348)) (a0.size : Int)) : Int).toNat, mn (wrap64 ((wrap64 (a1 + 1)) + t348)) (a0.size : Int))) else (none)) else (none)) else (none))) = some (r1, r2) := H
 have A3 := aA A30
 clear A30
 obtain ⟨ji4, hji4⟩ : ∃ j_ : Int, (mn (wrap64 ((wrap64 (a1 + 1)) + t348)) (a0.size : Int)) = j_ := ⟨_, rfl⟩
 replace H : (if (ji4) ≤ (wrap64 (a1 + 1)) then (some ((⟨#[]⟩ : ByteArray), wrap64 (a1 + 1))) else (if 0 ≤ (wrap64 (a1 + 1)) then (if (wrap64 (a1 + 1)) ≤ (ji4) then (if (ji4) ≤ (a0.size : Int) then (some (a0.extract ((wrap64 (a1 + 1)) : Int).toNat ((ji4) : Int).toNat, ji4)) else (none)) else (none)) else (none))) = some (r1, r2) := by first | (rw [hji4] at H; exact H) | (simp only [hji4] at H ⊢; exact H)
 (try rw [hji4] at A3)
 have hji4_ : (if (a0.size : Int) < (wrap64 ((wrap64 (a1 + 1)) + t348)) then (a0.size : Int) else (wrap64 ((wrap64 (a1 + 1)) + t348))) = ji4 := hji4
 by_cases c5 : (ji4) ≤ (wrap64 (a1 + 1))
 ·rw [if_pos c5] at H
  have c5b0 : decide ((ji4) ≤ (wrap64 (a1 + 1))) = true := decide_eq_true c5
  clear c5
  simp only [Option.some.injEq, Prod.mk.injEq] at H
  obtain ⟨rfl, rfl⟩ := H
  go_enter Try.func90, Try.ntmps90
  go_wp2_with (first | ((with_reducible refine gate_callee (f := 65) rfl ?_); refine goesL_ (some 11) rfl rfl Try.func65 (by kernel_rfl) rfl #[.string a0, .int .i64 a1] rfl mS ?_; (with_reducible refine (foghornref17_at.calls a0 a1 t348 _ A3.out).mono ?_); rintro e w' ⟨rfl, ⟨nd, rfl⟩⟩; refine ⟨_, rfl, ?_⟩))
  go_ret2
  exact ⟨by first | rfl | (simp [errW_none, errW_some] <;> rfl) | (simp only [← hji4]; first | rfl | (simp [errW_none, errW_some] <;> rfl)) | (simp [*, errW_none, errW_some] <;> rfl), by repeat (first | (with_reducible first | exact HB.out | apply below_alloc | apply pw_below_drewN | apply below_drew1) | exact HB.out)⟩
 ·rw [if_neg c5] at H
  have c5b0 : decide ((ji4) ≤ (wrap64 (a1 + 1))) = false := decide_eq_false c5
  clear c5
  obtain ⟨ji6, hji6⟩ : ∃ j_ : Int, (wrap64 (a1 + 1)) = j_ := ⟨_, rfl⟩
  replace H : (if 0 ≤ (ji6) then (if (ji6) ≤ (ji4) then (if (ji4) ≤ (a0.size : Int) then (some (a0.extract ((ji6) : Int).toNat ((ji4) : Int).toNat, ji4)) else (none)) else (none)) else (none)) = some (r1, r2) := by first | (rw [hji6] at H; exact H) | (simp only [hji6] at H ⊢; exact H)
  (try rw [hji6] at c5b0)
  (try rw [hji6] at A3)
  have hji6w : (IntKind.i64.wrap (a1 + 1)) = ji6 := (i64_w _).trans hji6
  (try rw [hji6] at hji4_)
  by_cases c7 : 0 ≤ (ji6)
  ·rw [if_pos c7] at H
   have c7b0 := eq_true c7
   have c7b1 := decide_eq_true c7
   clear c7
   by_cases c8 : (ji6) ≤ (ji4)
   ·rw [if_pos c8] at H
    have c8b0 := eq_true c8
    have c8b1 := decide_eq_true c8
    clear c8
    by_cases c9 : (ji4) ≤ (a0.size : Int)
    ·rw [if_pos c9] at H
     have c9b0 := eq_true c9
     have c9b1 := decide_eq_true c9
     clear c9
     simp only [Option.some.injEq, Prod.mk.injEq] at H
     obtain ⟨rfl, rfl⟩ := H
     go_enter Try.func90, Try.ntmps90
     go_wp2_with (first | ((with_reducible refine gate_callee (f := 65) rfl ?_); refine goesL_ (some 11) rfl rfl Try.func65 (by kernel_rfl) rfl #[.string a0, .int .i64 a1] rfl mS ?_; (with_reducible refine (foghornref17_at.calls a0 a1 t348 _ A3.out).mono ?_); rintro e w' ⟨rfl, ⟨nd, rfl⟩⟩; refine ⟨_, rfl, ?_⟩))
     go_ret2
     exact ⟨by first | rfl | (simp [errW_none, errW_some] <;> rfl) | (simp only [← hji4, ← hji6]; first | rfl | (simp [errW_none, errW_some] <;> rfl)) | (simp [*, errW_none, errW_some] <;> rfl), by repeat (first | (with_reducible first | exact HB.out | apply below_alloc | apply pw_below_drewN | apply below_drew1) | exact HB.out)⟩
    ·rw [if_neg c9] at H
     exact absurd H (by simp)
   ·rw [if_neg c8] at H
    exact absurd H (by simp)
  ·rw [if_neg c7] at H
   exact absurd H (by simp)
end Go.Proofs.YtndgollcganhmaaQ.P
namespace Go.Proofs.YtndgollcganhmaaQ.P
open Go.RowKit Go.Proofs.YtndgollcganhmaaW.PrintWords Go.Proofs.YtndgollcganhmaaW.PrintLast Go.Proofs.YtndgollcganhmaaW.PrintMore
attribute [local go_sem] max2_int min2_int max_two min_two max_three min_three max_four min_four
mutual
def foghornref17_some.l0 : Nat → ByteArray → Int → List (S41) → Int → Int → Option ((List (S41)))
 | 0, _, _, _, _, _ => none
 | k + 1, x0, x1, x5, x6, x7 => if x7 < x6 then (foghornref17_some.j1 k x0 x1 x5 x6 x7 (decide (x1 < (x0.size : Int)))) else (foghornref17_some.j1 k x0 x1 x5 x6 x7 false)
def foghornref17_some.j1 : Nat → ByteArray → Int → List (S41) → Int → Int → Bool → Option ((List (S41)))
 | 0, _, _, _, _, _, _ => none
 | k + 1, x0, x1, x5, x6, x7, x23 => if x23 = true then ((foghornref17_word.f x0 x1).bind fun bt354 => ((foghornref17_word.f x0 bt354.2).bind fun bt356 => (if x5.length < 4398046511104 then (foghornref17_some.l0 k x0 bt356.2 (x5 ++ [(⟨bt354.1, bt356.1⟩ : S41)]) x6 (wrap64 (x7 + 1))) else (none)))) else (some x5)
end
def foghornref17_some.f (k : Nat) (a0 : ByteArray) (a1 : Int) : Option ((List (S41))) := (foghornref17_at.f a0 a1).bind fun t352 => (foghornref17_some.l0 k a0 (wrap64 (a1 + 1)) (([] : List (S41))) t352 0)
set_option maxHeartbeats 8000000 in
set_option maxRecDepth 100000 in
theorem foghornref17_some.calls (k : Nat) (a0 : ByteArray) (a1 : Int) (r : List (S41)) (w : World) (h : foghornref17_some.f k a0 a1 = some r) :
  Calls Try.prog 67 #[.string a0, .int .i64 a1] w fun e w' => ∃ v0_ : Value, e = .returned (v0_) ∧ Kd.R k41 41 w' w.heap.size (fun _ => True) v0_ r ∧ Below w.heap.size w w' := by
 have hu41 := Try.underlying41
 have HB := aA (Below.refl w.heap.size w)
 have H : ((foghornref17_at.f a0 a1).bind fun t352 => (foghornref17_some.l0 k a0 (wrap64 (a1 + 1)) (([] : List (S41))) t352 0)) = some r := h
 clear h
 obtain ⟨y349, hy349⟩ : ∃ y_ : List (S41), y_ = (([] : List (S41))) := ⟨_, rfl⟩
 replace H : ((foghornref17_at.f a0 a1).bind fun t352 => (foghornref17_some.l0 k a0 (wrap64 (a1 + 1)) y349 t352 0)) = some r := by first | (rw [hy349]; with_reducible exact H) | (have H2_ := (Option.bind_some _ _).symm.trans H; rw [hy349]; with_reducible exact H2_) | (have H2_ := (Option.bind_some _ _).symm.trans H; with_reducible exact H2_) | with_reducible exact H | (rw [hy349]; exact H) | exact H
 have Ny349 := aA hy349
 clear hy349
 replace H := Option.bind_eq_some_iff.mp H
 obtain ⟨t352, A30, H⟩ := H
 have A3 := aA A30
 clear A30
 have H' := aA H
 clear H
 go_enter Try.func67, Try.ntmps67
 go_wp2_with (first | ((with_reducible refine gate_dst (N := 9) rfl ?_); (try (refine gate_guard (by rfl) ?_; dsimp only)); refine Kd.R_lit k41 _ 41 ?hg (N := 9) ?hd (xs := ([] : List (S41))) (inner := []) (ok := fun _ => True) (okp := fun _ => True) ?hr ?hp (fun _ hk => hk) trivial (Below.refl _ _) (Nat.le_refl _) (by simp) ?_; (case hd => rfl); (case hg => rfl); (case hr => first | (go_simp; done) | (go_simp; rfl)); (case hp => exact (Reps.none _ _)); intro v350 w4 ho5 hb hg_ hnew_; clear hg_ hnew_; (first | rw [← Ny349.out] at ho5 | (simp only [Int.reduceToNat] at ho5; rw [← Ny349.out] at ho5)); have n0_ := aA (Kd.R_lower ho5 (below_size mB)); have n1_ := aA (below_step mB hb); clear HB; have HO351 := n0_; have HB := n1_; clear n0_ n1_ hb ho5) | ((with_reducible refine gate_callee (f := 65) rfl ?_); refine goesL_ (some 12) rfl rfl Try.func65 (by kernel_rfl) rfl #[.string a0, .int .i64 a1] rfl mS ?_; (with_reducible refine (foghornref17_at.calls a0 a1 t352 _ A3.out).mono ?_); rintro e w' ⟨rfl, ⟨nd, rfl⟩⟩; refine ⟨_, rfl, ?_⟩))
 go_loopg [1, 5, 7] k (fun kq v1 v5 v7 w' => ∃ (x1_1 : Int) (x5_1 : List (S41)) (x7_1 : Int), v1 = .int .i64 x1_1 ∧ v7 = .int .i64 x7_1 ∧ Aside0 (foghornref17_some.l0 kq a0 x1_1 x5_1 t352 x7_1 = some r) ∧ Aside0 (kq ≤ k) ∧ Aside0 (Kd.R k41 41 w' w.heap.size (fun _ => True) v5 x5_1) ∧ Aside0 (Below w.heap.size w w'))
 case atStart => exact ⟨(wrap64 (a1 + 1)), (y349), (0), (by first | rfl | (simp; done) | (simp [*]; done)), (by first | rfl | (simp; done) | (simp [*]; done)), H', ⟨Nat.le_refl _⟩, ⟨by (with_reducible repeat (first | apply Kd.R_alloc | apply Kd.R_drewN | apply Kd.R_drew)); exact HO351.out⟩, ⟨by repeat (first | (with_reducible first | exact HB.out | apply below_alloc | apply pw_below_drewN | apply below_drew1) | exact HB.out)⟩⟩
 case round =>
  clear H'
  try clear p2
  obtain ⟨x1_1, x5_1, x7_1, rfl, rfl, HA, HK1, HO_5, HB⟩ := hrel
  cases gk with
  | zero => exact absurd HA.out (by simp [foghornref17_some.l0])
  | succ k1 =>
   have H := HA.out
   clear HA
   simp only [foghornref17_some.l0] at H
   have HC6 := aA H
   clear H
   go_upto_region 5 with (fail)
   go_cut [23] (fun v23 wc => ∃ (kq : Nat) (x23_5 : Bool), v23 = .bool x23_5 ∧ Aside0 (foghornref17_some.j1 kq a0 x1_1 x5_1 t352 x7_1 x23_5 = some r) ∧ Aside0 (kq ≤ k1) ∧ Aside0 (Kd.R k41 41 wc w.heap.size (fun _ => True) u5 x5_1) ∧ Aside0 (Below w.heap.size w wc))
   case first =>
    have H := HC6.out
    clear HC6
    by_cases c7 : x7_1 < t352
    ·rw [if_pos c7] at H
     have c7b0 : decide (x7_1 < t352) = true := decide_eq_true c7
     clear c7
     (first | rw [c7b0] | (simp only [i64_w, i32_w]; rw [c7b0]) | skip)
     have H' := aA H
     clear H
     go_wp2
     go_meet
     case rel => exact ⟨_, (decide (x1_1 < (a0.size : Int))), (by first | rfl | (simp; done) | (simp [*]; done)), H', ⟨by have := HK1.out; first | omega | exact Nat.le_refl _⟩, ⟨by (with_reducible repeat (first | apply Kd.R_alloc | apply Kd.R_drewN | apply Kd.R_drew)); exact HO_5.out⟩, ⟨by repeat (first | (with_reducible first | exact HB.out | apply below_alloc | apply pw_below_drewN | apply below_drew1) | exact HB.out)⟩⟩
    ·rw [if_neg c7] at H
     have c7b0 : decide (x7_1 < t352) = false := decide_eq_false c7
     clear c7
     (first | rw [c7b0] | (simp only [i64_w, i32_w]; rw [c7b0]) | skip)
     have H' := aA H
     clear H
     go_wp2
     go_meet
     case rel => exact ⟨_, (false), (by first | rfl | (simp; done) | (simp [*]; done)), H', ⟨by have := HK1.out; first | omega | exact Nat.le_refl _⟩, ⟨by (with_reducible repeat (first | apply Kd.R_alloc | apply Kd.R_drewN | apply Kd.R_drew)); exact HO_5.out⟩, ⟨by repeat (first | (with_reducible first | exact HB.out | apply below_alloc | apply pw_below_drewN | apply below_drew1) | exact HB.out)⟩⟩
   case rest =>
    clear HC6
    try clear p2
    try clear c6
    try clear p6
    try clear c7
    try clear c7b0
    try clear p2
    obtain ⟨kq, x23_5, rfl, HA, HJ5, HO_5, HB⟩ := hcut
    cases kq with
    | zero => exact absurd HA.out (by simp [foghornref17_some.j1])
    | succ kj5 =>
     have H := HA.out
     clear HA
     simp only [foghornref17_some.j1] at H
     by_cases c8 : x23_5 = true
     ·subst c8
      have H1 : ((foghornref17_word.f a0 x1_1).bind fun bt354 => ((foghornref17_word.f a0 bt354.2).bind fun bt356 => (if x5_1.length < 4398046511104 then (foghornref17_some.l0 kj5 a0 bt356.2 (x5_1 ++ [(⟨bt354.1, bt356.1⟩ : S41)]) t352 (wrap64 (x7_1 + 1))) else (none)))) = some r := by rw [if_pos rfl] at H; exact H
      clear H
      have H := H1
      clear H1
      replace H := Option.bind_eq_some_iff.mp H
      obtain ⟨⟨t354, t355⟩, A90, H⟩ := H
      have A9 := aA A90
      clear A90
      replace H := Option.bind_eq_some_iff.mp H
      obtain ⟨⟨t356, t357⟩, A100, H⟩ := H
      have A10 := aA A100
      clear A100
      by_cases c11 : x5_1.length < 4398046511104
      ·rw [if_pos c11] at H
       have LMc11 := aA c11
       clear c11
       obtain ⟨y358, hy358⟩ : ∃ y_ : List (S41), y_ = (x5_1 ++ [(⟨t354, t356⟩ : S41)]) := ⟨_, rfl⟩
       replace H : (foghornref17_some.l0 kj5 a0 t357 y358 t352 (wrap64 (x7_1 + 1))) = some r := by first | (rw [hy358]; with_reducible exact H) | (have H2_ := (Option.bind_some _ _).symm.trans H; rw [hy358]; with_reducible exact H2_) | (have H2_ := (Option.bind_some _ _).symm.trans H; with_reducible exact H2_) | with_reducible exact H | (rw [hy358]; exact H) | exact H
       have Ny358 := aA hy358
       clear hy358
       have H' := aA H
       clear H
       go_wp2_with (first | ((with_reducible refine gate_dst (N := 8) rfl ?_); (try (refine gate_guard (by rfl) ?_; dsimp only)); refine box_event ?hg (N := 8) ?hd (cs := #[.string (⟨#[]⟩ : ByteArray), .string (⟨#[]⟩ : ByteArray)]) (t := 41) ?hr ?_; (case hd => rfl); (case hg => rfl); (case hr => first | (go_simp; done) | (go_simp; rfl)); intro gb353 hg w12 hbox hb; have n0_ := aA (Kd.R_below (Kd.R_elderB (mR HO_5.out) gb353 (Nat.le_of_eq hg.symm)) hb); have n1_ := aA (below_step mB hb); have n2_ := aA (hbox); have n3_ := aA ((bZ hg mB)); have n4_ := aA ((bZ hg mB)); clear HO_5 HB; have HO_5 := n0_; have HB := n1_; have BK353 := n2_; have GW353 := n3_; have GE353 := n4_; clear n0_ n1_ n2_ n3_ n4_ hb hbox hg; obtain ⟨hcz13_0, hcz13_1⟩ := bC2 BK353.out; obtain ⟨hfz13_0, hfz13_1⟩ := bF2 BK353.out) | ((with_reducible refine gate_callee (f := 90) rfl ?_); refine goesL_ (some 30) rfl rfl Try.func90 (by kernel_rfl) rfl #[.string a0, .int .i64 x1_1] rfl mS ?_; (with_reducible refine (foghornref17_word.calls a0 x1_1 t354 t355 _ A9.out).mono ?_); rintro e w14 ⟨rfl, hb⟩; refine ⟨_, rfl, ?_⟩; have n0_ := aA (Kd.R_below (by (with_reducible repeat (first | apply Kd.R_alloc | apply Kd.R_drewN | apply Kd.R_drew)); exact (Kd.R_mono (rF 1 (rF 0 (Kd.R_mono HO_5.out (fun k_ hk => (⟨hk, hk.2⟩ : _ ∧ k_ ≠ gb353))))) (fun _ h_ => h_.1))) hb); have n1_ := aA (blk_below (g := gb353) (o := .cells #[.string (⟨#[]⟩ : ByteArray), .string (⟨#[]⟩ : ByteArray)] 41 (0, 0)) (by (with_reducible repeat (first | refine blk_drewN ?_ _ | refine blk_drew ?_ | refine blk_alloc ?_ _)); have h_ := BK353.out; exact pK 1 (pK 0 (h_))) hb); have n2_ := aA (below_step (mD1 GE353.out) hb); clear HO_5 BK353 HB; have HO_5 := n0_; have BK353 := n1_; have HB := n2_; clear n0_ n1_ n2_; (try clear hb); (try clear hb2); (try clear hk); (try clear hi); obtain ⟨hcz15_0, hcz15_1⟩ := bC2 BK353.out; obtain ⟨hfz15_0, hfz15_1⟩ := bF2 BK353.out) | ((with_reducible refine gate_callee (f := 90) rfl ?_); refine goesL_ (some 37) rfl rfl Try.func90 (by kernel_rfl) rfl #[.string a0, .int .i64 t355] rfl mS ?_; (with_reducible refine (foghornref17_word.calls a0 t355 t356 t357 _ A10.out).mono ?_); rintro e w16 ⟨rfl, hb⟩; refine ⟨_, rfl, ?_⟩; have n0_ := aA (Kd.R_below (by (with_reducible repeat (first | apply Kd.R_alloc | apply Kd.R_drewN | apply Kd.R_drew)); exact (Kd.R_mono (rF 0 (Kd.R_mono HO_5.out (fun k_ hk => (⟨hk, hk.2⟩ : _ ∧ k_ ≠ gb353)))) (fun _ h_ => h_.1))) hb); have n1_ := aA (blk_below (g := gb353) (o := .cells #[.string t354, .string (⟨#[]⟩ : ByteArray)] 41 (0, 0)) (by (with_reducible repeat (first | refine blk_drewN ?_ _ | refine blk_drew ?_ | refine blk_alloc ?_ _)); have h_ := BK353.out; exact pK 0 (h_)) hb); have n2_ := aA (below_step (mD1 GE353.out) hb); clear HO_5 BK353 HB; have HO_5 := n0_; have BK353 := n1_; have HB := n2_; clear n0_ n1_ n2_; (try clear hb); (try clear hb2); (try clear hk); (try clear hi); obtain ⟨hcz17_0, hcz17_1⟩ := bC2 BK353.out; obtain ⟨hfz17_0, hfz17_1⟩ := bF2 BK353.out) | ((with_reducible refine gate_builtin (b := .append) (xs := #[.tmp 41, .tmp 43]) rfl ?_); (try (refine gate_guard (by rfl) ?_; dsimp only)); at_builtin; refine Kd.R_append k41 (w0 := w) w.heap.size rfl (.tmp 41) (.tmp 43) 22 41 (.agg #[(.string ⟨#[]⟩), (.string ⟨#[]⟩)]) 32 rfl Try.underlying22 info41 rfl (by decide) (by omega) u5 x5_1 (⟨t354, t356⟩ : S41) [.string t354, .string t356] (fun k_ => k_ ≠ gb353) (fun _ => False) rfl (by first | (go_simp; done) | (go_simp; rfl)) ?aP (fun _ hk => hk.elim) ?aF ?aO ?aB ?aS ?aL ?_; (case aP => exact k41_mkM _ _ _ (⟨t354, t356⟩ : S41)); (case aB => exact (mD1 GE353.out)); (case aF => exact (fun k_ hk => Kd.freshB (g := gb353) (o := .cells #[.string t354, .string t356] 41 (0, 0)) (by (with_reducible repeat (first | refine blk_drewN ?_ _ | refine blk_drew ?_ | refine blk_alloc ?_ _)); have h_ := BK353.out; exact pK 1 (h_)) k_ hk)); (case aO => exact (by (with_reducible repeat (first | apply Kd.R_alloc | apply Kd.R_drewN | apply Kd.R_drew)); exact Kd.R_mono (rF 1 (Kd.R_mono HO_5.out (fun k_ hk => (⟨hk, hk.2⟩ : _ ∧ k_ ≠ gb353)))) (fun _ hk => hk.1.2))); (case aS => exact (below_size (mD1 GE353.out))); (case aL => have := LMc11.out; omega); intro v359 w18 ho hb hg hat; rw [← Ny358.out] at ho; have n0_ := aA (blk_grown (g := gb353) (o := .cells #[.string t354, .string t356] 41 (0, 0)) (by (with_reducible repeat (first | refine blk_drewN ?_ _ | refine blk_drew ?_ | refine blk_alloc ?_ _)); have h_ := BK353.out; exact pK 1 (h_)) hg (Kd.R_away HO_5.out (fun _ hk => hk.2))); have n1_ := aA (hb); have n2_ := aA (ho); clear BK353 HB HO_5; have BK353 := n0_; have HB := n1_; have HO360 := n2_; clear n0_ n1_ n2_ ho hb hg hat))
       go_roundg kj5
       case measure => have := HK1.out; have := HJ5.out; omega
       case rel => exact ⟨(t357), (y358), (wrap64 (x7_1 + 1)), (by first | rfl | (simp; done) | (simp [*]; done)), (by first | rfl | (simp; done) | (simp [*]; done)), H', ⟨by have := HK1.out; have := HJ5.out; omega⟩, ⟨by (with_reducible repeat (first | apply Kd.R_alloc | apply Kd.R_drewN | apply Kd.R_drew)); exact Kd.R_mono HO360.out (fun _ hk => trivial)⟩, ⟨by repeat (first | (with_reducible first | exact HB.out | apply below_alloc | apply pw_below_drewN | apply below_drew1 | refine below_set ?_ GE353.out) | exact HB.out)⟩⟩
      ·rw [if_neg c11] at H
       exact absurd H (by simp)
     ·replace c8 := Bool.eq_false_iff.mpr c8
      subst c8
      have H1 : (some x5_1) = some r := by rw [if_neg (show ¬ (false = true) by decide)] at H; exact H
      clear H
      have H := H1
      clear H1
      obtain rfl := Option.some.inj H
      go_wp2
      go_ret
      exact ⟨_, by first | rfl | (simp [errW_none, errW_some] <;> rfl) | (simp [*, errW_none, errW_some] <;> rfl), by (with_reducible repeat (first | apply Kd.R_alloc | apply Kd.R_drewN | apply Kd.R_drew)); exact HO_5.out, by repeat (first | (with_reducible first | exact HB.out | apply below_alloc | apply pw_below_drewN | apply below_drew1) | exact HB.out)⟩
end Go.Proofs.YtndgollcganhmaaQ.P
namespace Go.Proofs.YtndgollcganhmaaQ.P
open Go.RowKit Go.Proofs.YtndgollcganhmaaW.PrintWords Go.Proofs.YtndgollcganhmaaW.PrintLast Go.Proofs.YtndgollcganhmaaW.PrintMore
attribute [local go_sem] max2_int min2_int max_two min_two max_three min_three max_four min_four
mutual
def foghornref17_asked.l0 : Nat → ByteArray → Int → List (S35) → Int → Int → Option ((List (S35)))
 | 0, _, _, _, _, _ => none
 | k + 1, x0, x1, x5, x6, x7 => if x7 < x6 then (foghornref17_asked.j1 k x0 x1 x5 x6 x7 (decide (x1 < (x0.size : Int)))) else (foghornref17_asked.j1 k x0 x1 x5 x6 x7 false)
def foghornref17_asked.j1 : Nat → ByteArray → Int → List (S35) → Int → Int → Bool → Option ((List (S35)))
 | 0, _, _, _, _, _, _ => none
 | k + 1, x0, x1, x5, x6, x7, x23 => if x23 = true then ((foghornref17_at.f x0 x1).bind fun t365 => ((foghornref17_word.f x0 (wrap64 (x1 + 1))).bind fun bt367 => ((foghornref17_word.f x0 bt367.2).bind fun bt369 => (if x5.length < 3518437208883 then (foghornref17_asked.l0 k x0 bt369.2 (x5 ++ [(⟨t365, bt367.1, bt369.1⟩ : S35)]) x6 (wrap64 (x7 + 1))) else (none))))) else (some x5)
end
def foghornref17_asked.f (k : Nat) (a0 : ByteArray) (a1 : Int) : Option ((List (S35))) := (foghornref17_at.f a0 a1).bind fun t364 => (foghornref17_asked.l0 k a0 (wrap64 (a1 + 1)) (([] : List (S35))) t364 0)
set_option maxHeartbeats 8000000 in
set_option maxRecDepth 100000 in
theorem foghornref17_asked.calls (k : Nat) (a0 : ByteArray) (a1 : Int) (r : List (S35)) (w : World) (h : foghornref17_asked.f k a0 a1 = some r) :
  Calls Try.prog 68 #[.string a0, .int .i64 a1] w fun e w' => ∃ v0_ : Value, e = .returned (v0_) ∧ Kd.R k35 35 w' w.heap.size (fun _ => True) v0_ r ∧ Below w.heap.size w w' := by
 have hu35 := Try.underlying35
 have HB := aA (Below.refl w.heap.size w)
 have H : ((foghornref17_at.f a0 a1).bind fun t364 => (foghornref17_asked.l0 k a0 (wrap64 (a1 + 1)) (([] : List (S35))) t364 0)) = some r := h
 clear h
 obtain ⟨y361, hy361⟩ : ∃ y_ : List (S35), y_ = (([] : List (S35))) := ⟨_, rfl⟩
 replace H : ((foghornref17_at.f a0 a1).bind fun t364 => (foghornref17_asked.l0 k a0 (wrap64 (a1 + 1)) y361 t364 0)) = some r := by first | (rw [hy361]; with_reducible exact H) | (have H2_ := (Option.bind_some _ _).symm.trans H; rw [hy361]; with_reducible exact H2_) | (have H2_ := (Option.bind_some _ _).symm.trans H; with_reducible exact H2_) | with_reducible exact H | (rw [hy361]; exact H) | exact H
 have Ny361 := aA hy361
 clear hy361
 replace H := Option.bind_eq_some_iff.mp H
 obtain ⟨t364, A30, H⟩ := H
 have A3 := aA A30
 clear A30
 have H' := aA H
 clear H
 go_enter Try.func68, Try.ntmps68
 go_wp2_with (first | ((with_reducible refine gate_dst (N := 9) rfl ?_); (try (refine gate_guard (by rfl) ?_; dsimp only)); refine Kd.R_lit k35 _ 35 ?hg (N := 9) ?hd (xs := ([] : List (S35))) (inner := []) (ok := fun _ => True) (okp := fun _ => True) ?hr ?hp (fun _ hk => hk) trivial (Below.refl _ _) (Nat.le_refl _) (by simp) ?_; (case hd => rfl); (case hg => rfl); (case hr => first | (go_simp; done) | (go_simp; rfl)); (case hp => exact (Reps.none _ _)); intro v362 w4 ho5 hb hg_ hnew_; clear hg_ hnew_; (first | rw [← Ny361.out] at ho5 | (simp only [Int.reduceToNat] at ho5; rw [← Ny361.out] at ho5)); have n0_ := aA (Kd.R_lower ho5 (below_size mB)); have n1_ := aA (below_step mB hb); clear HB; have HO363 := n0_; have HB := n1_; clear n0_ n1_ hb ho5) | ((with_reducible refine gate_callee (f := 65) rfl ?_); refine goesL_ (some 12) rfl rfl Try.func65 (by kernel_rfl) rfl #[.string a0, .int .i64 a1] rfl mS ?_; (with_reducible refine (foghornref17_at.calls a0 a1 t364 _ A3.out).mono ?_); rintro e w' ⟨rfl, ⟨nd, rfl⟩⟩; refine ⟨_, rfl, ?_⟩))
 go_loopg [1, 5, 7] k (fun kq v1 v5 v7 w' => ∃ (x1_1 : Int) (x5_1 : List (S35)) (x7_1 : Int), v1 = .int .i64 x1_1 ∧ v7 = .int .i64 x7_1 ∧ Aside0 (foghornref17_asked.l0 kq a0 x1_1 x5_1 t364 x7_1 = some r) ∧ Aside0 (kq ≤ k) ∧ Aside0 (Kd.R k35 35 w' w.heap.size (fun _ => True) v5 x5_1) ∧ Aside0 (Below w.heap.size w w'))
 case atStart => exact ⟨(wrap64 (a1 + 1)), (y361), (0), (by first | rfl | (simp; done) | (simp [*]; done)), (by first | rfl | (simp; done) | (simp [*]; done)), H', ⟨Nat.le_refl _⟩, ⟨by (with_reducible repeat (first | apply Kd.R_alloc | apply Kd.R_drewN | apply Kd.R_drew)); exact HO363.out⟩, ⟨by repeat (first | (with_reducible first | exact HB.out | apply below_alloc | apply pw_below_drewN | apply below_drew1) | exact HB.out)⟩⟩
 case round =>
  clear H'
  try clear p2
  obtain ⟨x1_1, x5_1, x7_1, rfl, rfl, HA, HK1, HO_5, HB⟩ := hrel
  cases gk with
  | zero => exact absurd HA.out (by simp [foghornref17_asked.l0])
  | succ k1 =>
   have H := HA.out
   clear HA
   simp only [foghornref17_asked.l0] at H
   have HC6 := aA H
   clear H
   go_upto_region 5 with (fail)
   go_cut [23] (fun v23 wc => ∃ (kq : Nat) (x23_5 : Bool), v23 = .bool x23_5 ∧ Aside0 (foghornref17_asked.j1 kq a0 x1_1 x5_1 t364 x7_1 x23_5 = some r) ∧ Aside0 (kq ≤ k1) ∧ Aside0 (Kd.R k35 35 wc w.heap.size (fun _ => True) u5 x5_1) ∧ Aside0 (Below w.heap.size w wc))
   case first =>
    have H := HC6.out
    clear HC6
    by_cases c7 : x7_1 < t364
    ·rw [if_pos c7] at H
     have c7b0 : decide (x7_1 < t364) = true := decide_eq_true c7
     clear c7
     (first | rw [c7b0] | (simp only [i64_w, i32_w]; rw [c7b0]) | skip)
     have H' := aA H
     clear H
     go_wp2
     go_meet
     case rel => exact ⟨_, (decide (x1_1 < (a0.size : Int))), (by first | rfl | (simp; done) | (simp [*]; done)), H', ⟨by have := HK1.out; first | omega | exact Nat.le_refl _⟩, ⟨by (with_reducible repeat (first | apply Kd.R_alloc | apply Kd.R_drewN | apply Kd.R_drew)); exact HO_5.out⟩, ⟨by repeat (first | (with_reducible first | exact HB.out | apply below_alloc | apply pw_below_drewN | apply below_drew1) | exact HB.out)⟩⟩
    ·rw [if_neg c7] at H
     have c7b0 : decide (x7_1 < t364) = false := decide_eq_false c7
     clear c7
     (first | rw [c7b0] | (simp only [i64_w, i32_w]; rw [c7b0]) | skip)
     have H' := aA H
     clear H
     go_wp2
     go_meet
     case rel => exact ⟨_, (false), (by first | rfl | (simp; done) | (simp [*]; done)), H', ⟨by have := HK1.out; first | omega | exact Nat.le_refl _⟩, ⟨by (with_reducible repeat (first | apply Kd.R_alloc | apply Kd.R_drewN | apply Kd.R_drew)); exact HO_5.out⟩, ⟨by repeat (first | (with_reducible first | exact HB.out | apply below_alloc | apply pw_below_drewN | apply below_drew1) | exact HB.out)⟩⟩
   case rest =>
    clear HC6
    try clear p2
    try clear c6
    try clear p6
    try clear c7
    try clear c7b0
    try clear p2
    obtain ⟨kq, x23_5, rfl, HA, HJ5, HO_5, HB⟩ := hcut
    cases kq with
    | zero => exact absurd HA.out (by simp [foghornref17_asked.j1])
    | succ kj5 =>
     have H := HA.out
     clear HA
     simp only [foghornref17_asked.j1] at H
     by_cases c8 : x23_5 = true
     ·subst c8
      have H1 : ((foghornref17_at.f a0 x1_1).bind fun t365 => ((foghornref17_word.f a0 (wrap64 (x1_1 + 1))).bind fun bt367 => ((foghornref17_word.f a0 bt367.2).bind fun bt369 => (if x5_1.length < 3518437208883 then (foghornref17_asked.l0 kj5 a0 bt369.2 (x5_1 ++ [(⟨t365, bt367.1, bt369.1⟩ : S35)]) t364 (wrap64 (x7_1 + 1))) else (none))))) = some r := by rw [if_pos rfl] at H; exact H
      clear H
      have H := H1
      clear H1
      replace H := Option.bind_eq_some_iff.mp H
      obtain ⟨t365, A90, H⟩ := H
      have A9 := aA A90
      clear A90
      replace H := Option.bind_eq_some_iff.mp H
      obtain ⟨⟨t367, t368⟩, A100, H⟩ := H
      have A10 := aA A100
      clear A100
      replace H := Option.bind_eq_some_iff.mp H
      obtain ⟨⟨t369, t370⟩, A110, H⟩ := H
      have A11 := aA A110
      clear A110
      by_cases c12 : x5_1.length < 3518437208883
      ·rw [if_pos c12] at H
       have LMc12 := aA c12
       clear c12
       obtain ⟨y371, hy371⟩ : ∃ y_ : List (S35), y_ = (x5_1 ++ [(⟨t365, t367, t369⟩ : S35)]) := ⟨_, rfl⟩
       replace H : (foghornref17_asked.l0 kj5 a0 t370 y371 t364 (wrap64 (x7_1 + 1))) = some r := by first | (rw [hy371]; with_reducible exact H) | (have H2_ := (Option.bind_some _ _).symm.trans H; rw [hy371]; with_reducible exact H2_) | (have H2_ := (Option.bind_some _ _).symm.trans H; with_reducible exact H2_) | with_reducible exact H | (rw [hy371]; exact H) | exact H
       have Ny371 := aA hy371
       clear hy371
       have H' := aA H
       clear H
       go_wp2_with (first | ((with_reducible refine gate_callee (f := 65) rfl ?_); refine goesL_ (some 28) rfl rfl Try.func65 (by kernel_rfl) rfl #[.string a0, .int .i64 x1_1] rfl mS ?_; (with_reducible refine (foghornref17_at.calls a0 x1_1 t365 _ A9.out).mono ?_); rintro e w' ⟨rfl, ⟨nd, rfl⟩⟩; refine ⟨_, rfl, ?_⟩; (try (rw [drewN_self wc]; generalize hq_ : World.drewN wc _ = wc; have n0_ : Aside0 (Kd.R k35 35 wc w.heap.size (fun _ => True) u5 x5_1) := ⟨by rw [← hq_]; exact (mR HO_5.out)⟩; have n1_ : Aside0 (Below w.heap.size w wc) := ⟨by rw [← hq_]; exact mB⟩; clear HO_5 HB hq_; have HO_5 := n0_; have HB := n1_; clear n0_ n1_))) | ((with_reducible refine gate_dst (N := 8) rfl ?_); (try (refine gate_guard (by rfl) ?_; dsimp only)); refine box_event ?hg (N := 8) ?hd (cs := #[.int .i64 0, .string (⟨#[]⟩ : ByteArray), .string (⟨#[]⟩ : ByteArray)]) (t := 35) ?hr ?_; (case hd => rfl); (case hg => rfl); (case hr => first | (go_simp; done) | (go_simp; rfl)); intro gb366 hg w13 hbox hb; have n0_ := aA (Kd.R_below (Kd.R_elderB (mR HO_5.out) gb366 (Nat.le_of_eq hg.symm)) hb); have n1_ := aA (below_step mB hb); have n2_ := aA (hbox); have n3_ := aA ((bZ hg mB)); have n4_ := aA ((bZ hg mB)); clear HO_5 HB; have HO_5 := n0_; have HB := n1_; have BK366 := n2_; have GW366 := n3_; have GE366 := n4_; clear n0_ n1_ n2_ n3_ n4_ hb hbox hg; obtain ⟨hcz14_0, hcz14_1, hcz14_2⟩ := bC3 BK366.out; obtain ⟨hfz14_0, hfz14_1, hfz14_2⟩ := bF3 BK366.out) | ((with_reducible refine gate_callee (f := 90) rfl ?_); refine goesL_ (some 34) rfl rfl Try.func90 (by kernel_rfl) rfl #[.string a0, .int .i64 (wrap64 (x1_1 + 1))] rfl mS ?_; (with_reducible refine (foghornref17_word.calls a0 (wrap64 (x1_1 + 1)) t367 t368 _ A10.out).mono ?_); rintro e w15 ⟨rfl, hb⟩; refine ⟨_, rfl, ?_⟩; have n0_ := aA (Kd.R_below (by (with_reducible repeat (first | apply Kd.R_alloc | apply Kd.R_drewN | apply Kd.R_drew)); exact (Kd.R_mono (rF 2 (rF 1 (rF 0 (Kd.R_mono HO_5.out (fun k_ hk => (⟨hk, hk.2⟩ : _ ∧ k_ ≠ gb366)))))) (fun _ h_ => h_.1))) hb); have n1_ := aA (blk_below (g := gb366) (o := .cells #[.int .i64 t365, .string (⟨#[]⟩ : ByteArray), .string (⟨#[]⟩ : ByteArray)] 35 (0, 0)) (by (with_reducible repeat (first | refine blk_drewN ?_ _ | refine blk_drew ?_ | refine blk_alloc ?_ _)); have h_ := BK366.out; exact pK 2 (pK 1 (pK 0 (h_)))) hb); have n2_ := aA (below_step (mD1 GE366.out) hb); clear HO_5 BK366 HB; have HO_5 := n0_; have BK366 := n1_; have HB := n2_; clear n0_ n1_ n2_; (try clear hb); (try clear hb2); (try clear hk); (try clear hi); obtain ⟨hcz16_0, hcz16_1, hcz16_2⟩ := bC3 BK366.out; obtain ⟨hfz16_0, hfz16_1, hfz16_2⟩ := bF3 BK366.out) | ((with_reducible refine gate_callee (f := 90) rfl ?_); refine goesL_ (some 41) rfl rfl Try.func90 (by kernel_rfl) rfl #[.string a0, .int .i64 t368] rfl mS ?_; (with_reducible refine (foghornref17_word.calls a0 t368 t369 t370 _ A11.out).mono ?_); rintro e w17 ⟨rfl, hb⟩; refine ⟨_, rfl, ?_⟩; have n0_ := aA (Kd.R_below (by (with_reducible repeat (first | apply Kd.R_alloc | apply Kd.R_drewN | apply Kd.R_drew)); exact (Kd.R_mono (rF 1 (Kd.R_mono HO_5.out (fun k_ hk => (⟨hk, hk.2⟩ : _ ∧ k_ ≠ gb366)))) (fun _ h_ => h_.1))) hb); have n1_ := aA (blk_below (g := gb366) (o := .cells #[.int .i64 t365, .string t367, .string (⟨#[]⟩ : ByteArray)] 35 (0, 0)) (by (with_reducible repeat (first | refine blk_drewN ?_ _ | refine blk_drew ?_ | refine blk_alloc ?_ _)); have h_ := BK366.out; exact pK 1 (h_)) hb); have n2_ := aA (below_step (mD1 GE366.out) hb); clear HO_5 BK366 HB; have HO_5 := n0_; have BK366 := n1_; have HB := n2_; clear n0_ n1_ n2_; (try clear hb); (try clear hb2); (try clear hk); (try clear hi); obtain ⟨hcz18_0, hcz18_1, hcz18_2⟩ := bC3 BK366.out; obtain ⟨hfz18_0, hfz18_1, hfz18_2⟩ := bF3 BK366.out) | ((with_reducible refine gate_builtin (b := .append) (xs := #[.tmp 45, .tmp 47]) rfl ?_); (try (refine gate_guard (by rfl) ?_; dsimp only)); at_builtin; refine Kd.R_append k35 (w0 := w) w.heap.size rfl (.tmp 45) (.tmp 47) 23 35 (.agg #[(.int .i64 0), (.string ⟨#[]⟩), (.string ⟨#[]⟩)]) 40 rfl Try.underlying23 info35 rfl (by decide) (by omega) u5 x5_1 (⟨t365, t367, t369⟩ : S35) [.int .i64 t365, .string t367, .string t369] (fun k_ => k_ ≠ gb366) (fun _ => False) rfl (by first | (go_simp; done) | (go_simp; rfl)) ?aP (fun _ hk => hk.elim) ?aF ?aO ?aB ?aS ?aL ?_; (case aP => exact k35_mkM _ _ _ (⟨t365, t367, t369⟩ : S35)); (case aB => exact (mD1 GE366.out)); (case aF => exact (fun k_ hk => Kd.freshB (g := gb366) (o := .cells #[.int .i64 t365, .string t367, .string t369] 35 (0, 0)) (by (with_reducible repeat (first | refine blk_drewN ?_ _ | refine blk_drew ?_ | refine blk_alloc ?_ _)); have h_ := BK366.out; exact pK 2 (h_)) k_ hk)); (case aO => exact (by (with_reducible repeat (first | apply Kd.R_alloc | apply Kd.R_drewN | apply Kd.R_drew)); exact Kd.R_mono (rF 2 (Kd.R_mono HO_5.out (fun k_ hk => (⟨hk, hk.2⟩ : _ ∧ k_ ≠ gb366)))) (fun _ hk => hk.1.2))); (case aS => exact (below_size (mD1 GE366.out))); (case aL => have := LMc12.out; omega); intro v372 w19 ho hb hg hat; rw [← Ny371.out] at ho; have n0_ := aA (blk_grown (g := gb366) (o := .cells #[.int .i64 t365, .string t367, .string t369] 35 (0, 0)) (by (with_reducible repeat (first | refine blk_drewN ?_ _ | refine blk_drew ?_ | refine blk_alloc ?_ _)); have h_ := BK366.out; exact pK 2 (h_)) hg (Kd.R_away HO_5.out (fun _ hk => hk.2))); have n1_ := aA (hb); have n2_ := aA (ho); clear BK366 HB HO_5; have BK366 := n0_; have HB := n1_; have HO373 := n2_; clear n0_ n1_ n2_ ho hb hg hat))
       go_roundg kj5
       case measure => have := HK1.out; have := HJ5.out; omega
       case rel => exact ⟨(t370), (y371), (wrap64 (x7_1 + 1)), (by first | rfl | (simp; done) | (simp [*]; done)), (by first | rfl | (simp; done) | (simp [*]; done)), H', ⟨by have := HK1.out; have := HJ5.out; omega⟩, ⟨by (with_reducible repeat (first | apply Kd.R_alloc | apply Kd.R_drewN | apply Kd.R_drew)); exact Kd.R_mono HO373.out (fun _ hk => trivial)⟩, ⟨by repeat (first | (with_reducible first | exact HB.out | apply below_alloc | apply pw_below_drewN | apply below_drew1 | refine below_set ?_ GE366.out) | exact HB.out)⟩⟩
      ·rw [if_neg c12] at H
       exact absurd H (by simp)
     ·replace c8 := Bool.eq_false_iff.mpr c8
      subst c8
      have H1 : (some x5_1) = some r := by rw [if_neg (show ¬ (false = true) by decide)] at H; exact H
      clear H
      have H := H1
      clear H1
      obtain rfl := Option.some.inj H
      go_wp2
      go_ret
      exact ⟨_, by first | rfl | (simp [errW_none, errW_some] <;> rfl) | (simp [*, errW_none, errW_some] <;> rfl), by (with_reducible repeat (first | apply Kd.R_alloc | apply Kd.R_drewN | apply Kd.R_drew)); exact HO_5.out, by repeat (first | (with_reducible first | exact HB.out | apply below_alloc | apply pw_below_drewN | apply below_drew1) | exact HB.out)⟩
end Go.Proofs.YtndgollcganhmaaQ.P
