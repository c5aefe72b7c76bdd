/- Part 4 of a proof: contracts and plain laws of what the statement reaches. No condition. -/
import Derived.Test.YtopaddpclipnjaaStoreTurnsz1
import Derived.Test.YtopaddpclipnjaaStoreTurnsz2
import Derived.Test.YtopaddpclipnjaaStoreTurnsz3
set_option linter.unusedVariables false
set_option linter.unusedSimpArgs false
namespace Go.Proofs.Ytopaddpclipnjaa
open Go.RowKit
theorem ext_list (s : ByteArray) (a b : Nat) : (s.extract a b).data.toList = (s.data.toList.drop a).take (b - a) := by
  rw [ByteArray.data_extract, Array.toList_extract]
theorem bytes_ext {a b : ByteArray} (h : a.data.toList = b.data.toList) : a = b := by
  apply ByteArray.ext
  exact Array.toList_inj.1 h
theorem stampB_iff (gen no : Int) : stampB gen no = true ↔ (1 ≤ gen ∧ gen ≤ 250) ∧ 0 ≤ no ∧ no ≤ 64 := by
  unfold stampB
  simp
  omega
theorem u8_small {x : Int} (h0 : 0 ≤ x) (h1 : x < 256) : ((u8 x).toNat : Int) = x := by
  rw [u8_toNat]
  omega
theorem headL_eq (gen no : Int) (p : List UInt8) : headL gen no p = u8 gen :: u8 no :: u8 p.length :: (p ++ zeros (96 - p.length)) := rfl
theorem sealL_tail (gen no : Int) (p : List UInt8) (h : p.length ≤ 96) : (sealL gen no p).drop 126 = stampL gen no := by
  unfold sealL
  rw [show 126 = (headL gen no p).length + 27 by rw [headL_len gen no p h], List.drop_length_add_append, show 27 = (crcFour (crcMore 0 (headL gen no p))).length + 23 by rfl, List.drop_length_add_append, List.drop_left' (zeros_len 23)]
theorem sealL_two (gen no : Int) (p : List UInt8) : (sealL gen no p).take 2 = stampL gen no := rfl
theorem sealL_head (gen no : Int) (p : List UInt8) (h : p.length ≤ 96) : (sealL gen no p).take 99 = headL gen no p := by
  unfold sealL
  rw [List.take_left' (headL_len gen no p h)]
theorem sealL_sum (gen no : Int) (p : List UInt8) (h : p.length ≤ 96) : ((sealL gen no p).drop 99).take 4 = crcFour (crcMore 0 (headL gen no p)) := by
  unfold sealL
  rw [List.drop_left' (headL_len gen no p h), List.take_left' (crcFour_len _)]
theorem beq_toList {a b : ByteArray} (h : a.data.toList = b.data.toList) : (a.toList == b.toList) = true := by
  rw [ByteArray.toList_eq, ByteArray.toList_eq, h]
  simp
theorem opened (gen no : Int) (p : ByteArray) (hst : stampB gen no = true) (hp : p.size ≤ 96) (x : ByteArray) (hx : x = ⟨(sealL gen no (bytesOf p)).toArray⟩) :
    x.size = 128 ∧ openE x = 0 ∧ at8 x 0 = gen ∧ at8 x 1 = no ∧ partP x = p := by
  have hpl : (bytesOf p).length = p.size := len_data p
  have hpl' : (bytesOf p).length ≤ 96 := by omega
  have hr := (stampB_iff gen no).1 hst
  have hxl : x.data.toList = sealL gen no (bytesOf p) := by rw [hx]
  have hsz : x.size = 128 := by rw [← len_data, hxl, sealL_len _ _ _ hpl']
  have ha0 : at8 x 0 = gen := by
    unfold at8
    rw [hxl]
    show ((u8 gen).toNat : Int) = gen
    exact u8_small (by omega) (by omega)
  have ha1 : at8 x 1 = no := by
    unfold at8
    rw [hxl]
    show ((u8 no).toNat : Int) = no
    exact u8_small (by omega) (by omega)
  have ha2 : at8 x 2 = p.size := by
    unfold at8
    rw [hxl]
    show ((u8 (bytesOf p).length).toNat : Int) = p.size
    rw [hpl]
    exact u8_small (by omega) (by omega)
  have hpp : partP x = p := by
    apply bytes_ext
    unfold partP
    rw [ext_list, hxl, ha2]
    have e : (sealL gen no (bytesOf p)).drop 3 = bytesOf p ++ (zeros (96 - (bytesOf p).length) ++ (crcFour (crcMore 0 (headL gen no (bytesOf p))) ++ (zeros 23 ++ stampL gen no))) := by
      unfold sealL
      rw [headL_eq]
      simp
    rw [e, List.take_left' (by rw [hpl]; omega)]
    rfl
  have hA : openA x = true := by
    unfold openA
    apply beq_toList
    rw [ext_list, ext_list, hxl, sealL_tail _ _ _ hpl']
    show (sealL gen no (bytesOf p)).take 2 = List.take 2 (stampL gen no)
    rw [sealL_two]
    rfl
  have hB : openB x = true := by
    unfold openB
    rw [ByteArray.toList_eq, ext_list, hxl, sealL_head _ _ _ hpl', show 103 - 99 = 4 from rfl, sealL_sum _ _ _ hpl']
    simp
  have hE : openE x = 0 := by
    unfold openE
    rw [if_neg (by simp [hsz]), if_neg (by simp [hA]), if_neg (by simp [hB]), if_neg (by omega), ha0, ha1, hpp, if_pos]
    refine ⟨?_, ?_⟩
    · unfold sealE
      rw [hst, if_neg (by simp), if_pos hp]
    · unfold sealS
      rw [if_pos ⟨hst, hp⟩, hx]
  exact ⟨hsz, hE, ha0, ha1, hpp⟩
theorem openE_zero {x : ByteArray} (h : openE x = 0) : x.size = 128 ∧ stampB (at8 x 0) (at8 x 1) = true ∧ (partP x).size ≤ 96 ∧ x = ⟨(sealL (at8 x 0) (at8 x 1) (bytesOf (partP x))).toArray⟩ := by
  unfold openE at h
  split at h
  · omega
  · rename_i h1
    split at h
    · omega
    · split at h
      · omega
      · split at h
        · omega
        · split at h
          · rename_i h5
            obtain ⟨h6, h7⟩ := h5
            have hst : stampB (at8 x 0) (at8 x 1) = true := by
              cases hs : stampB (at8 x 0) (at8 x 1)
              · unfold sealE at h6
                rw [if_pos hs] at h6
                omega
              · rfl
            have hp : (partP x).size ≤ 96 := by
              unfold sealE at h6
              rw [if_neg (by simp [hst])] at h6
              split at h6
              · assumption
              · omega
            refine ⟨by simpa using h1, hst, hp, ?_⟩
            unfold sealS at h7
            rw [if_pos ⟨hst, hp⟩] at h7
            exact h7.symm
          · omega
end Go.Proofs.Ytopaddpclipnjaa
namespace Go.Proofs.Ytopaddpclipnjaa
open Go.RowKit
theorem over_list (x t : ByteArray) (k : Nat) : (over x t k).data.toList = t.data.toList.take k ++ x.data.toList.drop k := rfl
theorem over_same (x t : ByteArray) (k : Nat) (h : x.data.toList.drop k = t.data.toList.drop k) : over x t k = t := by
  apply bytes_ext
  rw [over_list, h, List.take_append_drop]
theorem over_late (x t : ByteArray) (k : Nat) (ht : t.size = 128) (hk : k ≤ 126) : (over x t k).data.toList.drop 126 = x.data.toList.drop 126 := by
  have hl : (t.data.toList.take k).length = k := by rw [List.length_take, len_data]; omega
  rw [over_list, List.drop_append, hl, List.drop_of_length_le (by omega), List.nil_append, List.drop_drop, show k + (126 - k) = 126 by omega]
theorem openE_ends {x : ByteArray} (h : openE x = 0) : x.data.toList.drop 126 = stampL (at8 x 0) (at8 x 1) := by
  obtain ⟨h1, h2, h3, h4⟩ := openE_zero h
  have : x.data.toList = sealL (at8 x 0) (at8 x 1) (bytesOf (partP x)) := congrArg (fun y : ByteArray => y.data.toList) h4
  rw [this]
  exact sealL_tail _ _ _ (by rw [show (bytesOf (partP x)).length = (partP x).size from len_data _]; exact h3)
structure Sealed (x : ByteArray) (g n : Int) : Prop where
  size : x.size = 128
  stamp : stampB g n = true
  opens : openE x = 0
  first : at8 x 0 = g
  second : at8 x 1 = n
theorem sealed_of (gen no : Int) (p : ByteArray) (hst : stampB gen no = true) (hp : p.size ≤ 96) (x : ByteArray) (hx : x = ⟨(sealL gen no (bytesOf p)).toArray⟩) : Sealed x gen no := by
  obtain ⟨h1, h2, h3, h4, _⟩ := opened gen no p hst hp x hx
  exact ⟨h1, hst, h2, h3, h4⟩
theorem Sealed.tail {x : ByteArray} {g n : Int} (h : Sealed x g n) : x.data.toList.drop 126 = stampL g n := by
  have := openE_ends h.opens
  rwa [h.first, h.second] at this
end Go.Proofs.Ytopaddpclipnjaa
namespace Go.Proofs.Ytopaddpclipnjaa
open Go.RowKit
def sec (xs : List ByteArray) (i : Int) : ByteArray := xs.getD i.toNat ByteArray.empty
theorem sec_get {xs : List ByteArray} {i : Nat} (h : i < xs.length) : sec xs i = xs[i] := by
  unfold sec
  rw [List.getD_eq_getElem?_getD, Int.toNat_natCast, List.getElem?_eq_getElem h]
  rfl
theorem sec_set {xs : List ByteArray} {q : Int} {y : ByteArray} (h0 : 0 ≤ q) (h1 : q < xs.length) (i : Int) (hi : 0 ≤ i) : sec (xs.set q.toNat y) i = if i = q then y else sec xs i := by
  unfold sec
  rw [List.getD_eq_getElem?_getD, List.getElem?_set, List.getD_eq_getElem?_getD]
  by_cases h : i = q
  · subst h
    rw [if_pos rfl, if_pos rfl, if_pos (by omega)]
    rfl
  · rw [if_neg (by omega), if_neg h]
theorem logB_nums {xs : List ByteArray} (h : logB xs = true) : 10 ≤ xs.length ∧ xs.length ≤ 130 ∧ (xs.length : Int) % 2 = 0 ∧ (∀ x ∈ xs, x.size = 128) ∧ rightD xs = true ∧ areaD xs = (xs.length : Int) / 2 - 1 ∧ (xs.length : Int) = 2 * areaD xs + 2 ∧ 4 ≤ areaD xs ∧ areaD xs ≤ 64 := by
  unfold logB at h
  simp only [Bool.and_eq_true, decide_eq_true_eq] at h
  have := rightD_sizes h.1
  unfold areaD
  refine ⟨this.1, this.2.1, h.2, this.2.2, h.1, rfl, ?_, ?_, ?_⟩ <;> omega
theorem sec_size {xs : List ByteArray} (h : logB xs = true) {i : Int} (h0 : 0 ≤ i) (h1 : i < xs.length) : (sec xs i).size = 128 := by
  obtain ⟨n, rfl⟩ : ∃ n : Nat, i = n := ⟨i.toNat, by omega⟩
  rw [sec_get (by omega)]
  exact (logB_nums h).2.2.2.1 _ (List.getElem_mem _)
def topStep (m : Int) (x : ByteArray) : Int := if at8 x 0 ≤ 250 then max m (at8 x 0) else m
def topF (m : Int) (xs : List ByteArray) : Int := xs.foldl topStep m
def hdrG (x : ByteArray) (slot : Int) : Int := if openE x = 0 ∧ openG x % 2 = slot ∧ openN x = 0 ∧ openP x = ⟨#[]⟩ then openG x else 0
def newestD (xs : List ByteArray) : Int := max (hdrG (sec xs 0) 0) (hdrG (sec xs 1) 1)
def recB (x : ByteArray) (g no : Int) : Prop := openE x = 0 ∧ openG x = g ∧ openN x = no
instance (x : ByteArray) (g no : Int) : Decidable (recB x g no) := by unfold recB; infer_instance
def foundD (xs : List ByteArray) (g : Int) : Nat → Nat → List ByteArray
  | 0, _ => []
  | d + 1, i => if recB (sec xs (placeD xs g i)) g (i + 1) then openP (sec xs (placeD xs g i)) :: foundD xs g d (i + 1) else []
def foundA (xs : List ByteArray) (g : Int) : List ByteArray := foundD xs g (areaD xs).toNat 0
def bootS (xs : List ByteArray) : Sto × List ByteArray × Int :=
  if logB xs = false then (Sto.zero, [], 1) else if newestD xs = 0 then (Sto.zero, [], 4) else (⟨xs, newestD xs, (foundA xs (newestD xs)).length, topF 0 xs, false⟩, foundA xs (newestD xs), 0)
theorem openG_range (x : ByteArray) : 0 ≤ openG x ∧ openG x < 256 := by
  unfold openG
  have := at8_range x 0
  split <;> omega
theorem openG_pos {x : ByteArray} (h : openE x = 0) : 1 ≤ openG x ∧ openG x ≤ 250 ∧ openG x = at8 x 0 := by
  have h2 := (stampB_iff _ _).1 (openE_zero h).2.1
  unfold openG
  rw [if_pos h]
  omega
theorem hdrG_range (x : ByteArray) (s : Int) : 0 ≤ hdrG x s ∧ hdrG x s ≤ 250 := by
  unfold hdrG
  split
  · rename_i h
    have := openG_pos h.1
    omega
  · omega
theorem hdrG_at {x : ByteArray} {s : Int} (h : hdrG x s ≠ 0) : hdrG x s = at8 x 0 ∧ hdrG x s % 2 = s := by
  unfold hdrG at *
  split at h
  · rename_i h1
    rw [if_pos h1]
    exact ⟨(openG_pos h1.1).2.2, h1.2.1⟩
  · omega
theorem foundD_len (xs : List ByteArray) (g : Int) : ∀ d i, (foundD xs g d i).length ≤ d := by
  intro d
  induction d with
  | zero => intro i; simp [foundD]
  | succ d ih =>
    intro i
    unfold foundD
    split
    · have := ih (i + 1)
      simp
      omega
    · simp
theorem topF_mono (xs : List ByteArray) : ∀ m, m ≤ topF m xs := by
  induction xs with
  | nil => intro m; exact Int.le_refl _
  | cons x xs ih =>
    intro m
    have h1 := ih (topStep m x)
    show m ≤ topF (topStep m x) xs
    have : m ≤ topStep m x := by unfold topStep; split <;> omega
    omega
theorem topF_ge {xs : List ByteArray} {x : ByteArray} (hx : x ∈ xs) (h : at8 x 0 ≤ 250) : ∀ m, at8 x 0 ≤ topF m xs := by
  induction xs with
  | nil => cases hx
  | cons y xs ih =>
    intro m
    show at8 x 0 ≤ topF (topStep m y) xs
    rcases List.mem_cons.1 hx with rfl | hx
    · have h1 := topF_mono xs (topStep m x)
      have : at8 x 0 ≤ topStep m x := by unfold topStep; rw [if_pos h]; omega
      omega
    · exact ih hx _
theorem topF_le (xs : List ByteArray) (b : Int) (hb : ∀ x ∈ xs, at8 x 0 ≤ 250 → at8 x 0 ≤ b) : ∀ m, m ≤ b → topF m xs ≤ b := by
  induction xs with
  | nil => intro m h; exact h
  | cons y xs ih =>
    intro m h
    show topF (topStep m y) xs ≤ b
    refine ih (fun x hx => hb x (List.mem_cons_of_mem _ hx)) _ ?_
    unfold topStep
    split
    · have := hb y List.mem_cons_self (by assumption)
      omega
    · exact h
theorem placeD_in {xs : List ByteArray} (h : logB xs = true) {g i : Int} (h0 : 0 ≤ i) (h1 : i < areaD xs) : 2 ≤ placeD xs g i ∧ placeD xs g i < xs.length := by
  obtain ⟨_, _, _, _, _, _, hl, _, _⟩ := logB_nums h
  unfold placeD
  rcases (by omega : g % 2 = 0 ∨ g % 2 = 1) with e | e <;> rw [e] <;> omega
theorem placeD_inj {xs : List ByteArray} (h : logB xs = true) {g g' i j : Int} (h0 : 0 ≤ i) (h1 : i < areaD xs) (h2 : 0 ≤ j) (h3 : j < areaD xs) (e : placeD xs g i = placeD xs g' j) : g % 2 = g' % 2 ∧ i = j := by
  unfold placeD at e
  rcases (by omega : g % 2 = 0 ∨ g % 2 = 1) with a | a <;> rcases (by omega : g' % 2 = 0 ∨ g' % 2 = 1) with b | b <;> rw [a, b] at e <;> omega
theorem placeD_len {xs ys : List ByteArray} (h : ys.length = xs.length) (g i : Int) : placeD ys g i = placeD xs g i := by unfold placeD areaD; rw [h]
theorem areaD_len {xs ys : List ByteArray} (h : ys.length = xs.length) : areaD ys = areaD xs := by unfold areaD; rw [h]
def sealT (g no : Int) (p : ByteArray) : ByteArray := ⟨(sealL g no (bytesOf p)).toArray⟩
structure SealT (x : ByteArray) (g no : Int) (p : ByteArray) : Prop where
  size : x.size = 128
  opens : openE x = 0
  gen : openG x = g
  num : openN x = no
  pay : openP x = p
  sealed : Sealed x g no
theorem sealT_is {g no : Int} {p : ByteArray} (hg : 1 ≤ g) (hg2 : g ≤ 250) (hn : 0 ≤ no) (hn2 : no ≤ 64) (hp : p.size ≤ 96) : SealT (sealT g no p) g no p ∧ sealS g no p = sealT g no p := by
  have hst : stampB g no = true := (stampB_iff g no).2 ⟨⟨hg, hg2⟩, hn, hn2⟩
  obtain ⟨h1, h2, h3, h4, h5⟩ := opened g no p hst hp (sealT g no p) rfl
  refine ⟨⟨h1, h2, ?_, ?_, ?_, sealed_of g no p hst hp _ rfl⟩, ?_⟩
  · unfold openG; rw [if_pos h2]; exact h3
  · unfold openN; rw [if_pos h2]; exact h4
  · unfold openP; rw [if_pos h2]; exact h5
  · unfold sealS; rw [if_pos ⟨hst, hp⟩]; rfl
def tl (x : ByteArray) : List UInt8 := x.data.toList.drop 126
def tl8 (x : ByteArray) : Int := at8 x 126
theorem tl8_of {x : ByteArray} {g n : Int} (h : tl x = stampL g n) (hg : 0 ≤ g ∧ g < 256) : tl8 x = g := by
  unfold tl at h
  unfold tl8 at8
  have : x.data.toList.getD 126 0 = (x.data.toList.drop 126).getD 0 0 := by
    rw [List.getD_eq_getElem?_getD, List.getD_eq_getElem?_getD, List.getElem?_drop]
  rw [this, h]
  show ((u8 g).toNat : Int) = g
  exact u8_small hg.1 hg.2
theorem tl_open {x : ByteArray} (h : openE x = 0) : tl x = stampL (openG x) (openN x) := by
  unfold openG openN
  rw [if_pos h, if_pos h]
  exact openE_ends h
theorem tl_over (X T : ByteArray) (hT : T.size = 128) (k : Nat) (hk : k ≤ 126) : tl (over X T k) = tl X := over_late X T k hT hk
theorem over_sz {X T : ByteArray} (hX : X.size = 128) (hT : T.size = 128) (k : Nat) (hk : k ≤ 128) : (over X T k).size = 128 := by
  rw [← len_data, over_list, List.length_append, List.length_take, List.length_drop, len_data, len_data, hX, hT]
  omega
theorem at8_over {X T : ByteArray} (hX : X.size = 128) (hT : T.size = 128) {k : Nat} (hk : k ≤ 128) (i : Nat) : at8 (over X T k) i = if i < k then at8 T i else at8 X i := by
  have hl : (T.data.toList.take k).length = k := by rw [List.length_take, len_data]; omega
  unfold at8
  rw [over_list, List.getD_eq_getElem?_getD, List.getElem?_append, hl]
  split
  · rw [List.getElem?_take_of_lt (by assumption), List.getD_eq_getElem?_getD]
  · rw [List.getElem?_drop, show k + (i - k) = i by omega, List.getD_eq_getElem?_getD]
theorem over_tl {X T p : ByteArray} {g no : Int} (hX : X.size = 128) (hT : SealT T g no p) (hg : 0 ≤ g ∧ g < 256) (k : Nat) (hk : k ≤ 128) (hx : tl X ≠ stampL g no) : over X T k = T ∨ tl (over X T k) ≠ stampL g no := by
  rcases Nat.lt_or_ge 126 k with d | d
  · by_cases h : tl (over X T k) = stampL g no
    · left
      apply bytes_ext
      have h6 : (over X T k).data.toList.take 126 = T.data.toList.take 126 := by
        rw [over_list, List.take_append_of_le_length (by rw [List.length_take, len_data, hT.size]; omega), List.take_take, Nat.min_eq_left (by omega)]
      rw [← List.take_append_drop 126 (over X T k).data.toList, ← List.take_append_drop 126 T.data.toList, h6]
      unfold tl at h
      rw [h, hT.sealed.tail]
    · exact .inr h
  · right
    rw [tl_over X T hT.size k d]
    exact hx
theorem not_rec {x : ByteArray} {g no : Int} (h : tl x ≠ stampL g no) : ¬ recB x g no := by
  rintro ⟨h1, h2, h3⟩
  have := tl_open h1
  rw [h2, h3] at this
  exact h this
end Go.Proofs.Ytopaddpclipnjaa
namespace Go.Proofs.Ytopaddpclipnjaa
open Go.RowKit
structure InvD (xs : List ByteArray) (g top : Int) (h : List ByteArray) : Prop where
  log : logB xs = true
  g1 : 1 ≤ g
  gt : g ≤ top
  t2 : top ≤ 250
  len : (h.length : Int) ≤ areaD xs
  head : hdrG (sec xs (g % 2)) (g % 2) = g
  other : hdrG (sec xs (1 - g % 2)) (1 - g % 2) < g
  recs : ∀ (i : Nat) (hi : i < h.length), recB (sec xs (placeD xs g i)) g (i + 1) ∧ openP (sec xs (placeD xs g i)) = h[i]
  next : ∀ i : Nat, h.length ≤ i → (i : Int) < areaD xs → tl (sec xs (placeD xs g i)) ≠ stampL g (i + 1)
  mine : ∀ i : Nat, (i : Int) < areaD xs → at8 (sec xs (placeD xs g i)) 0 ≤ g
  firsts : ∀ i : Int, 0 ≤ i → i < xs.length → at8 (sec xs i) 0 ≤ top
  tails : ∀ i : Int, 0 ≤ i → i < xs.length → tl8 (sec xs i) ≤ at8 (sec xs i) 0
theorem par (g : Int) : g % 2 = 0 ∨ g % 2 = 1 := by omega
theorem InvD.newest {xs : List ByteArray} {g top : Int} {h : List ByteArray} (H : InvD xs g top h) : newestD xs = g := by
  have h1 := H.head
  have h2 := H.other
  unfold newestD
  rcases par g with e | e <;> rw [e] at h1 h2
  · rw [show (1 : Int) - 0 = 1 by omega] at h2
    omega
  · rw [show (1 : Int) - 1 = 0 by omega] at h2
    omega
theorem InvD.found {xs : List ByteArray} {g top : Int} {h : List ByteArray} (H : InvD xs g top h) (d : Nat) : ∀ i : Nat, (i : Int) + d = areaD xs → foundD xs g d i = h.drop i := by
  have hl := H.len
  induction d with
  | zero =>
    intro i hi
    unfold foundD
    rw [List.drop_of_length_le (by omega)]
  | succ d ih =>
    intro i hi
    unfold foundD
    by_cases h1 : i < h.length
    · obtain ⟨r1, r2⟩ := H.recs i h1
      rw [if_pos r1, r2, ih (i + 1) (by omega)]
      exact (List.drop_eq_getElem_cons h1).symm
    · rw [if_neg (not_rec (H.next i (by omega) (by omega))), List.drop_of_length_le (by omega)]
theorem InvD.boot {xs : List ByteArray} {g top : Int} {h : List ByteArray} (H : InvD xs g top h) : bootS xs = (⟨xs, g, h.length, topF 0 xs, false⟩, h, 0) := by
  have ha := (logB_nums H.log).2.2.2.2.2.2.2
  have hf : foundA xs g = h := by
    unfold foundA
    rw [H.found _ 0 (by omega), List.drop_zero]
  unfold bootS
  rw [H.newest, hf, if_neg (by rw [H.log]; simp), if_neg (by have := H.g1; omega)]
structure Wrote (xs : List ByteArray) (q : Int) (Y : ByteArray) (ys : List ByteArray) : Prop where
  log : logB ys = true
  len : ys.length = xs.length
  here : sec ys q = Y
  far : ∀ i : Int, 0 ≤ i → i ≠ q → sec ys i = sec xs i
theorem wrote_set {xs : List ByteArray} (hl : logB xs = true) {q : Int} (h0 : 0 ≤ q) (h1 : q < xs.length) {Y : ByteArray} (hY : Y.size = 128) : Wrote xs q Y (xs.set q.toNat Y) := by
  refine ⟨?_, List.length_set .., ?_, ?_⟩
  · obtain ⟨n1, n2, n3, hsz, _⟩ := logB_nums hl
    unfold logB rightD
    rw [List.length_set]
    have ha : (xs.set q.toNat Y).any badSize = false := by
      rw [List.any_eq_false]
      intro x hx
      have : x.size = 128 := by
        rcases List.mem_or_eq_of_mem_set hx with hx | rfl
        · exact hsz x hx
        · exact hY
      simp [badSize, this]
    rw [ha]
    simp
    omega
  · rw [sec_set h0 h1 q h0, if_pos rfl]
  · intro i hi hne
    rw [sec_set h0 h1 i hi, if_neg hne]
theorem tearL_set {xs : List ByteArray} (hl : logB xs = true) {q : Int} (h0 : 0 ≤ q) (h1 : q < xs.length) {T : ByteArray} (hT : T.size = 128) {k : Int} (k0 : 0 ≤ k) (k1 : k ≤ 128) :
    tearL xs q T k = xs.set q.toNat (over (sec xs q) T k.toNat) := by
  obtain ⟨n1, n2, n3, hsz, hr, _⟩ := logB_nums hl
  have he : tearE xs q T k = 0 := by
    unfold tearE
    rw [mayD_in hr h0 h1, if_neg (by omega), if_neg (by omega), if_neg (by omega)]
  unfold tearL
  rw [if_pos he]
  rfl
theorem tear_wrote {xs : List ByteArray} (hl : logB xs = true) {q : Int} (h0 : 0 ≤ q) (h1 : q < xs.length) {T : ByteArray} (hT : T.size = 128) {k : Int} (k0 : 0 ≤ k) (k1 : k ≤ 128) :
    Wrote xs q (over (sec xs q) T k.toNat) (tearL xs q T k) := by
  rw [tearL_set hl h0 h1 hT k0 k1]
  exact wrote_set hl h0 h1 (over_sz (sec_size hl h0 h1) hT _ (by omega))
theorem tl8_T {T p : ByteArray} {g no : Int} (hT : SealT T g no p) : tl8 T = g ∧ at8 T 0 = g := by
  have hr := (stampB_iff _ _).1 hT.sealed.stamp
  exact ⟨tl8_of hT.sealed.tail (by omega), hT.sealed.first⟩
theorem over_ends {X T p : ByteArray} {g no b : Int} (hX : X.size = 128) (hT : SealT T g no p) {k : Nat} (hk : k ≤ 128) (ht : tl8 X ≤ at8 X 0) (hb : at8 X 0 ≤ g) : at8 (over X T k) 0 ≤ g ∧ tl8 (over X T k) ≤ at8 (over X T k) 0 := by
  obtain ⟨e1, e2⟩ := tl8_T hT
  unfold tl8 at *
  rw [at8_over hX hT.size hk, at8_over hX hT.size hk]
  split <;> split <;> omega
theorem over_all {X T : ByteArray} (hX : X.size = 128) (hT : T.size = 128) : over X T 128 = T := by
  apply over_same
  rw [List.drop_of_length_le (by rw [len_data]; omega), List.drop_of_length_le (by rw [len_data]; omega)]
theorem InvD.wrote_far {xs ys : List ByteArray} {g top : Int} {h : List ByteArray} (H : InvD xs g top h) {q : Int} {Y : ByteArray} (h0 : 0 ≤ q) (h1 : q < xs.length) (W : Wrote xs q Y ys)
    (hf : at8 Y 0 ≤ top) (ht : tl8 Y ≤ at8 Y 0) (hq : q ≠ g % 2) (hq2 : q = 1 - g % 2 → hdrG Y (1 - g % 2) < g)
    (hr : ∀ i : Nat, (i : Int) < areaD xs → q = placeD xs g i → h.length ≤ i ∧ tl Y ≠ stampL g (i + 1) ∧ at8 Y 0 ≤ g) : InvD ys g top h := by
  have hn := logB_nums H.log
  have hA : areaD ys = areaD xs := areaD_len W.len
  have hP : ∀ i : Nat, placeD ys g i = placeD xs g i := fun i => placeD_len W.len g i
  have hfar : ∀ i : Nat, (i : Int) < areaD xs → q ≠ placeD xs g i → sec ys (placeD ys g i) = sec xs (placeD xs g i) := by
    intro i hi hne
    have := placeD_in H.log (g := g) (i := i) (by omega) hi
    rw [hP, W.far _ (by omega) (Ne.symm hne)]
  refine ⟨W.log, H.g1, H.gt, H.t2, by rw [hA]; exact H.len, ?_, ?_, ?_, ?_, ?_, ?_, ?_⟩
  · rw [W.far _ (by omega) (Ne.symm hq)]
    exact H.head
  · by_cases e : q = 1 - g % 2
    · rw [← e, W.here, e]
      exact hq2 e
    · rw [W.far _ (by omega) (Ne.symm e)]
      exact H.other
  · intro i hi
    have hia : (i : Int) < areaD xs := by have := H.len; omega
    rw [hfar i hia (fun e => by have := (hr i hia e).1; omega)]
    exact H.recs i hi
  · intro i hi hia
    rw [hA] at hia
    by_cases e : q = placeD xs g i
    · rw [hP, ← e, W.here]
      exact (hr i hia e).2.1
    · rw [hfar i hia e]
      exact H.next i hi hia
  · intro i hia
    rw [hA] at hia
    by_cases e : q = placeD xs g i
    · rw [hP, ← e, W.here]
      exact (hr i hia e).2.2
    · rw [hfar i hia e]
      exact H.mine i hia
  · intro i hi hi2
    rw [W.len] at hi2
    by_cases e : i = q
    · rw [e, W.here]; exact hf
    · rw [W.far i hi e]; exact H.firsts i hi hi2
  · intro i hi hi2
    rw [W.len] at hi2
    by_cases e : i = q
    · rw [e, W.here]; exact ht
    · rw [W.far i hi e]; exact H.tails i hi hi2
theorem InvD.append {xs ys : List ByteArray} {g top : Int} {h : List ByteArray} (H : InvD xs g top h) (hl : (h.length : Int) < areaD xs) {p : ByteArray} (hp : p.size ≤ 96) {T : ByteArray} (hT : SealT T g (h.length + 1) p) (W : Wrote xs (placeD xs g h.length) T ys) : InvD ys g top (h ++ [p]) := by
  have hn := logB_nums H.log
  have hg := H.g1
  have hgt := H.gt
  have hA : areaD ys = areaD xs := areaD_len W.len
  have hP : ∀ i : Nat, placeD ys g i = placeD xs g i := fun i => placeD_len W.len g i
  have hpl := placeD_in H.log (g := g) (i := h.length) (by omega) hl
  obtain ⟨e1, e2⟩ := tl8_T hT
  have hfar : ∀ i : Nat, (i : Int) < areaD xs → i ≠ h.length → sec ys (placeD ys g i) = sec xs (placeD xs g i) := by
    intro i hi hne
    have := placeD_in H.log (g := g) (i := i) (by omega) hi
    rw [hP, W.far _ (by omega) (fun e => hne (by have := (placeD_inj H.log (by omega) hi (by omega) hl e).2; omega))]
  refine ⟨W.log, hg, hgt, H.t2, by rw [hA]; simp; omega, ?_, ?_, ?_, ?_, ?_, ?_, ?_⟩
  · rw [W.far _ (by omega) (by omega)]
    exact H.head
  · rw [W.far _ (by omega) (by omega)]
    exact H.other
  · intro i hi
    simp only [List.length_append, List.length_singleton] at hi
    by_cases e : i = h.length
    · subst e
      rw [hP, W.here]
      exact ⟨⟨hT.opens, hT.gen, hT.num⟩, by rw [hT.pay]; simp⟩
    · rw [hfar i (by omega) e]
      have := H.recs i (by omega)
      rw [List.getElem_append_left (by omega)]
      exact this
  · intro i hi hia
    simp only [List.length_append, List.length_singleton] at hi
    rw [hA] at hia
    rw [hfar i hia (by omega)]
    exact H.next i (by omega) hia
  · intro i hia
    rw [hA] at hia
    by_cases e : i = h.length
    · subst e
      rw [hP, W.here]
      omega
    · rw [hfar i hia e]
      exact H.mine i hia
  · intro i hi hi2
    rw [W.len] at hi2
    by_cases e : i = placeD xs g h.length
    · rw [e, W.here]; omega
    · rw [W.far i hi e]; exact H.firsts i hi hi2
  · intro i hi hi2
    rw [W.len] at hi2
    by_cases e : i = placeD xs g h.length
    · rw [e, W.here]; omega
    · rw [W.far i hi e]; exact H.tails i hi hi2
theorem InvD.append_any {xs : List ByteArray} {g top : Int} {h : List ByteArray} (H : InvD xs g top h) (hl : (h.length : Int) < areaD xs) {p : ByteArray} (hp : p.size ≤ 96) {k : Int} (k0 : 0 ≤ k) (k1 : k ≤ 128) :
    (InvD (tearL xs (placeD xs g h.length) (sealS g (h.length + 1) p) k) g top h ∧ k ≠ 128) ∨ (InvD (tearL xs (placeD xs g h.length) (sealS g (h.length + 1) p) k) g top (h ++ [p]) ∧ 126 < k) := by
  have hn := logB_nums H.log
  have hg := H.g1
  have hgt := H.gt
  have ht2 := H.t2
  have hpl := placeD_in H.log (g := g) (i := h.length) (by omega) hl
  obtain ⟨hT, hTe⟩ := sealT_is (g := g) (no := (h.length : Int) + 1) (p := p) hg (by omega) (by omega) (by omega) hp
  rw [hTe]
  have W := tear_wrote H.log (q := placeD xs g h.length) (by omega) hpl.2 hT.size k0 k1
  have hX : (sec xs (placeD xs g h.length)).size = 128 := sec_size H.log (by omega) hpl.2
  have hnx := H.next h.length (Nat.le_refl _) hl
  obtain ⟨h1, h2⟩ := over_ends (b := 0) hX hT (k := k.toNat) (by omega) (H.tails _ (by omega) hpl.2) (H.mine _ hl)
  have hcase : over (sec xs (placeD xs g h.length)) (sealT g (h.length + 1) p) k.toNat = sealT g (h.length + 1) p ∧ 126 < k ∨ tl (over (sec xs (placeD xs g h.length)) (sealT g (h.length + 1) p) k.toNat) ≠ stampL g (h.length + 1) ∧ k ≠ 128 := by
    by_cases hk : k = 128
    · subst hk
      exact .inl ⟨over_all hX hT.size, by omega⟩
    · rcases Int.lt_or_le 126 k with d | d
      · rcases over_tl hX hT (by omega) k.toNat (by omega) hnx with e | e
        · exact .inl ⟨e, d⟩
        · exact .inr ⟨e, hk⟩
      · right
        rw [tl_over _ _ hT.size _ (by omega)]
        exact ⟨hnx, hk⟩
  rcases hcase with ⟨e, ek⟩ | ⟨e, ek⟩
  · right
    rw [e] at W
    exact ⟨H.append hl hp hT W, ek⟩
  · left
    refine ⟨H.wrote_far (by omega) hpl.2 W (by omega) h2 (by omega) (fun e => by omega) (fun i hi e2 => ?_), ek⟩
    have := (placeD_inj H.log (by omega) hl (by omega) hi e2).2
    obtain rfl : i = h.length := by omega
    exact ⟨Nat.le_refl _, e, h1⟩
end Go.Proofs.Ytopaddpclipnjaa
namespace Go.Proofs.Ytopaddpclipnjaa
open Go.RowKit
structure NewG (xs : List ByteArray) (g g' : Int) (h : List ByteArray) (l : List ByteArray) (i : Nat) : Prop where
  inv : InvD xs g g' h
  lt : g < g'
  par : g' % 2 = 1 - g % 2
  room : (l.length : Int) ≤ areaD xs
  le : i ≤ l.length
  recs : ∀ (j : Nat) (hj : j < l.length), j < i → recB (sec xs (placeD xs g' j)) g' (j + 1) ∧ openP (sec xs (placeD xs g' j)) = l[j]
  next : ∀ j : Nat, i ≤ j → (j : Int) < areaD xs → tl (sec xs (placeD xs g' j)) ≠ stampL g' (j + 1)
  hdr : tl (sec xs (g' % 2)) ≠ stampL g' 0
theorem tl_gen {x : ByteArray} {g n : Int} (hg : 0 ≤ g ∧ g < 256) (h : tl8 x < g) : tl x ≠ stampL g n := by
  intro e
  have := tl8_of e hg
  omega
theorem place_apart {xs : List ByteArray} (hl : logB xs = true) {g g' : Int} {i j : Nat} (hp : g' % 2 = 1 - g % 2) (hi : (i : Int) < areaD xs) (hj : (j : Int) < areaD xs) : placeD xs g' i ≠ placeD xs g j := by
  intro e
  have := (placeD_inj hl (by omega) hi (by omega) hj e).1
  omega
theorem NewG.old {xs ys : List ByteArray} {g g' : Int} {h l : List ByteArray} {i : Nat} (N : NewG xs g g' h l i) (hi : (i : Int) < areaD xs) {p : ByteArray} {T : ByteArray} (hT : SealT T g' (i + 1) p) {k : Nat} (hk : k ≤ 128) (W : Wrote xs (placeD xs g' i) (over (sec xs (placeD xs g' i)) T k) ys) : InvD ys g g' h := by
  have hn := logB_nums N.inv.log
  have hg := N.inv.g1
  have hpl := placeD_in N.inv.log (g := g') (i := i) (by omega) hi
  have hX : (sec xs (placeD xs g' i)).size = 128 := sec_size N.inv.log (by omega) hpl.2
  obtain ⟨h1, h2⟩ := over_ends (b := 0) hX hT hk (N.inv.tails _ (by omega) hpl.2) (N.inv.firsts _ (by omega) hpl.2)
  exact N.inv.wrote_far (by omega) hpl.2 W h1 h2 (by omega) (fun e => by omega) (fun j hj e => absurd e (place_apart N.inv.log N.par hi hj))
theorem NewG.step {xs ys : List ByteArray} {g g' : Int} {h l : List ByteArray} {i : Nat} (N : NewG xs g g' h l i) (hi : i < l.length) {T : ByteArray} (hT : SealT T g' (i + 1) l[i]) (W : Wrote xs (placeD xs g' i) T ys) : NewG ys g g' h l (i + 1) := by
  have hn := logB_nums N.inv.log
  have hg := N.inv.g1
  have hr := N.room
  have hia : (i : Int) < areaD xs := by omega
  have hpl := placeD_in N.inv.log (g := g') (i := i) (by omega) hia
  have hX : (sec xs (placeD xs g' i)).size = 128 := sec_size N.inv.log (by omega) hpl.2
  have hA : areaD ys = areaD xs := areaD_len W.len
  have hP : ∀ j : Nat, placeD ys g' j = placeD xs g' j := fun j => placeD_len W.len g' j
  have hfar : ∀ j : Nat, (j : Int) < areaD xs → j ≠ i → sec ys (placeD ys g' j) = sec xs (placeD xs g' j) := by
    intro j hj hne
    have := placeD_in N.inv.log (g := g') (i := j) (by omega) hj
    rw [hP, W.far _ (by omega) (fun e => hne (by have := (placeD_inj N.inv.log (by omega) hj (by omega) hia e).2; omega))]
  have hold : InvD ys g g' h := by
    refine N.old hia hT (k := 128) (by omega) ?_
    rw [over_all hX hT.size]
    exact W
  refine ⟨hold, N.lt, N.par, by rw [hA]; exact hr, by omega, ?_, ?_, ?_⟩
  · intro j hj hji
    by_cases e : j = i
    · subst e
      rw [hP, W.here]
      exact ⟨⟨hT.opens, hT.gen, hT.num⟩, hT.pay⟩
    · rw [hfar j (by omega) e]
      exact N.recs j hj (by omega)
  · intro j hj hja
    rw [hA] at hja
    rw [hfar j hja (by omega)]
    exact N.next j (by omega) hja
  · rw [W.far _ (by omega) (by omega)]
    exact N.hdr
theorem NewG.done {xs ys : List ByteArray} {g g' : Int} {h l : List ByteArray} (N : NewG xs g g' h l l.length) {T : ByteArray} (hT : SealT T g' 0 ⟨#[]⟩) (W : Wrote xs (g' % 2) T ys) : InvD ys g' g' l := by
  have hn := logB_nums N.inv.log
  have hg := N.inv.g1
  have hlt := N.lt
  have hpar := N.par
  have hA : areaD ys = areaD xs := areaD_len W.len
  obtain ⟨e1, e2⟩ := tl8_T hT
  have hfar : ∀ j : Nat, (j : Int) < areaD xs → sec ys (placeD ys g' j) = sec xs (placeD xs g' j) := by
    intro j hj
    have := placeD_in N.inv.log (g := g') (i := j) (by omega) hj
    rw [placeD_len W.len, W.far _ (by omega) (by omega)]
  refine ⟨W.log, by omega, by omega, N.inv.t2, by rw [hA]; exact N.room, ?_, ?_, ?_, ?_, ?_, ?_, ?_⟩
  · rw [W.here]
    unfold hdrG
    rw [if_pos ⟨hT.opens, by rw [hT.gen], hT.num, hT.pay⟩]
    exact hT.gen
  · rw [W.far _ (by omega) (by omega), show 1 - g' % 2 = g % 2 by omega, N.inv.head]
    exact hlt
  · intro j hj
    have hr := N.room
    rw [hfar j (by omega)]
    exact N.recs j hj hj
  · intro j hj hja
    rw [hA] at hja
    rw [hfar j hja]
    exact N.next j hj hja
  · intro j hja
    rw [hA] at hja
    rw [hfar j hja]
    have := placeD_in N.inv.log (g := g') (i := j) (by omega) hja
    exact N.inv.firsts _ (by omega) this.2
  · intro i hi hi2
    rw [W.len] at hi2
    by_cases e : i = g' % 2
    · rw [e, W.here]; omega
    · rw [W.far i hi e]; exact N.inv.firsts i hi hi2
  · intro i hi hi2
    rw [W.len] at hi2
    by_cases e : i = g' % 2
    · rw [e, W.here]; omega
    · rw [W.far i hi e]; exact N.inv.tails i hi hi2
theorem zero_at8 (i : Nat) : at8 z128 i = 0 := by
  unfold at8
  rw [show z128.data.toList = List.replicate 128 0 from rfl, List.getD_eq_getElem?_getD, List.getElem?_replicate]
  split <;> rfl
theorem inv_new {n : Int} (h0 : 10 ≤ n) (h1 : n ≤ 130) (h2 : n % 2 = 0) : InvD (tearL (newL n) 1 (sealS 1 0 ⟨#[]⟩) 128) 1 1 [] := by
  have hl : (newL n).length = n.toNat := by unfold newL; rw [if_pos ⟨h0, h1⟩, List.length_replicate]
  have hz : ∀ i : Int, 0 ≤ i → i < n → sec (newL n) i = z128 := by
    intro i a b
    obtain ⟨j, rfl⟩ : ∃ j : Nat, i = j := ⟨i.toNat, by omega⟩
    rw [sec_get (by omega)]
    have : newL n = List.replicate n.toNat z128 := by unfold newL; rw [if_pos ⟨h0, h1⟩]
    simp only [this, List.getElem_replicate]
  have hsz : z128.size = 128 := by
    rw [← len_data]
    exact List.length_replicate
  have hlog : logB (newL n) = true := by
    unfold logB rightD
    have ha : (newL n).any badSize = false := by
      rw [List.any_eq_false]
      intro x hx
      have : x = z128 := by unfold newL at hx; rw [if_pos ⟨h0, h1⟩] at hx; exact List.eq_of_mem_replicate hx
      simp [badSize, this, hsz]
    rw [ha, hl]
    simp
    omega
  have hn := logB_nums hlog
  obtain ⟨hT, hTe⟩ := sealT_is (g := 1) (no := 0) (p := ⟨#[]⟩) (by omega) (by omega) (by omega) (by omega) (by decide)
  rw [hTe]
  have W := tear_wrote hlog (q := 1) (by omega) (by omega) hT.size (k := 128) (by omega) (by omega)
  rw [hz 1 (by omega) (by omega), show (128 : Int).toNat = 128 from rfl, over_all hsz hT.size] at W
  obtain ⟨e1, e2⟩ := tl8_T hT
  have hA := areaD_len W.len
  have hzn : tl8 z128 = 0 := zero_at8 126
  have hfar : ∀ i : Int, 0 ≤ i → i < n → i ≠ 1 → sec (tearL (newL n) 1 (sealT 1 0 ⟨#[]⟩) 128) i = z128 := fun i a b c => by rw [W.far i a c, hz i a b]
  have hpl : ∀ i : Nat, (i : Int) < areaD (newL n) → sec (tearL (newL n) 1 (sealT 1 0 ⟨#[]⟩) 128) (placeD (tearL (newL n) 1 (sealT 1 0 ⟨#[]⟩) 128) 1 i) = z128 := by
    intro i hi
    have := placeD_in hlog (g := 1) (i := i) (by omega) hi
    rw [placeD_len W.len]
    exact hfar _ (by omega) (by omega) (by omega)
  refine ⟨W.log, by omega, by omega, by omega, by rw [hA]; simp; omega, ?_, ?_, ?_, ?_, ?_, ?_, ?_⟩
  · show hdrG (sec _ 1) 1 = 1
    rw [W.here]
    unfold hdrG
    rw [if_pos ⟨hT.opens, by rw [hT.gen]; rfl, hT.num, hT.pay⟩]
    exact hT.gen
  · show hdrG (sec _ 0) 0 < 1
    rw [hfar 0 (by omega) (by omega) (by omega)]
    unfold hdrG
    split
    · rename_i hc
      have h3 := openG_pos hc.1
      rw [zero_at8] at h3
      omega
    · omega
  · intro i hi
    simp at hi
  · intro i _ hi
    rw [hA] at hi
    rw [hpl i hi]
    exact tl_gen (by omega) (by omega)
  · intro i hi
    rw [hA] at hi
    rw [hpl i hi, zero_at8]
    omega
  · intro i hi hi2
    by_cases e : i = 1
    · rw [e, W.here]; omega
    · rw [hfar i hi (by rw [W.len] at hi2; omega) e, zero_at8]; omega
  · intro i hi hi2
    by_cases e : i = 1
    · rw [e, W.here]; omega
    · rw [hfar i hi (by rw [W.len] at hi2; omega) e, zero_at8, hzn]; omega
end Go.Proofs.Ytopaddpclipnjaa
namespace Go.Proofs.Ytopaddpclipnjaa
open Go.RowKit
structure Has (s : Sto) (h : List ByteArray) : Prop where
  inv : InvD s.xs s.gen s.top h
  used : s.used = h.length
  up : s.down = false
theorem Has.ok {s : Sto} {h : List ByteArray} (H : Has s h) : s.okB = true := by
  have i := H.inv
  unfold Sto.okB inB
  rw [i.log, H.used]
  have h1 := i.g1
  have h2 := i.gt
  have h3 := i.t2
  have h4 := i.len
  simp
  omega
theorem mayS_go {s : Sto} (hs : s.okB = true) (hd : s.down = false) {l : List ByteArray} {fs : List Flt} (hl : ∀ p ∈ l, p.size ≤ 96) (hf : fs.all fltB = true) : mayS s l fs = 0 := by
  unfold mayS
  have h1 : (fs.any fun f => !fltB f) = false := by
    rw [List.any_eq_false]
    intro f hm
    have := List.all_eq_true.1 hf f hm
    simp [this]
  have h2 : (l.any fun p => decide (96 < p.size)) = false := by
    rw [List.any_eq_false]
    intro p hm
    have := hl p hm
    simp
    omega
  rw [hs, h1, h2, hd]
  rfl
theorem Has.append {s : Sto} {h : List ByteArray} (H : Has s h) {p : ByteArray} (hp : p.size ≤ 96) {f : Flt} (hf : fltB f = true) :
    (appendS s p f = (Sto.zero, 5) ∧ (h.length : Int) = areaD s.xs) ∨
    ((h.length : Int) < areaD s.xs ∧ appendS s p f = appS s p f ∧
      ((f.kind = 1 ∧ appS s p f = (s, 8)) ∨
       (f.kind = 2 ∧ ∃ ys, appS s p f = ({ s with xs := ys, down := true }, 9) ∧ ((InvD ys s.gen s.top h) ∨ (InvD ys s.gen s.top (h ++ [p]) ∧ 126 < f.k))) ∨
       (f.kind = 0 ∧ ∃ ys, appS s p f = ({ s with xs := ys, used := s.used + 1 }, 0) ∧ InvD ys s.gen s.top (h ++ [p])))) := by
  have hfl : 0 ≤ f.kind ∧ f.kind ≤ 2 ∧ 0 ≤ f.k ∧ f.k ≤ 128 := by
    unfold fltB at hf
    simp only [Bool.and_eq_true, decide_eq_true_eq] at hf
    exact ⟨hf.1.1.1, hf.1.1.2, hf.1.2, hf.2⟩
  have hm : mayS s [p] [f] = 0 := mayS_go H.ok H.up (by simpa using hp) (by simpa using hf)
  have hu := H.used
  have hlen := H.inv.len
  unfold appendS
  rw [if_pos hm]
  by_cases hA : s.used = areaD s.xs
  · left
    rw [if_pos hA]
    exact ⟨rfl, by omega⟩
  · right
    rw [if_neg hA]
    refine ⟨by omega, rfl, ?_⟩
    unfold appS
    by_cases k1 : f.kind = 1
    · rw [if_pos k1]
      exact .inl ⟨k1, rfl⟩
    · rw [if_neg k1]
      by_cases k2 : f.kind = 2
      · rw [if_pos k2, hu]
        right; left
        refine ⟨k2, _, rfl, ?_⟩
        rcases H.inv.append_any (by omega) hp hfl.2.2.1 hfl.2.2.2 with ⟨h1, _⟩ | ⟨h1, h2⟩
        · exact .inl h1
        · exact .inr ⟨h1, h2⟩
      · rw [if_neg k2]
        right; right
        refine ⟨by omega, _, rfl, ?_⟩
        rw [hu]
        rcases H.inv.append_any (by omega) hp (k := 128) (by omega) (by omega) with ⟨_, h1⟩ | ⟨h1, _⟩
        · exact absurd rfl h1
        · exact h1
theorem nextG_facts (s : Sto) : s.top < nextG s ∧ nextG s ≤ s.top + 2 ∧ nextG s % 2 = 1 - s.gen % 2 := by
  unfold nextG
  split <;> omega
def new0 (n : Int) : Sto := ⟨tearL (newL n) 1 (sealS 1 0 ⟨#[]⟩) 128, 1, 0, 1, false⟩
theorem has_new {n : Int} (h0 : 10 ≤ n) (h1 : n ≤ 130) (h2 : n % 2 = 0) : Has (new0 n) [] := ⟨inv_new h0 h1 h2, rfl, rfl⟩
theorem InvD.has {xs : List ByteArray} {g top : Int} {h : List ByteArray} (H : InvD xs g top h) {u : Int} (hu : u = h.length) : Has ⟨xs, g, u, top, false⟩ h := ⟨H, hu, rfl⟩
end Go.Proofs.Ytopaddpclipnjaa
namespace Go.Proofs.YtopaddpclipnjaaQ.P
open Go.RowKit Go.Proofs.YtopaddpclipnjaaW.PrintWords Go.Proofs.YtopaddpclipnjaaW.PrintLast Go.Proofs.YtopaddpclipnjaaW.PrintMore
attribute [local go_sem] max2_int min2_int max_two min_two max_three min_three max_four min_four
def foghornref04_Area.f (l0_0 : List ByteArray) : Option (Int) := some (wrap64 ((wrap64 ((l0_0.length : Int) / 2)) - 1))
end Go.Proofs.YtopaddpclipnjaaQ.P
namespace Go.Proofs.YtopaddpclipnjaaQ.P
open Go.RowKit Go.Proofs.YtopaddpclipnjaaW.PrintWords Go.Proofs.YtopaddpclipnjaaW.PrintLast Go.Proofs.YtopaddpclipnjaaW.PrintMore
attribute [local go_sem] max2_int min2_int max_two min_two max_three min_three max_four min_four
def foghornref04_newest.l0 : Nat → Int → Int → List ByteArray → Option (Int)
 | 0, _, _, _ => none
 | k + 1, x3, x4, x244000 => if x4 < 2 then (if 0 ≤ x4 then (if x4 < (x244000.length : Int) then ((foghornref03_Open.f (rdOf ByteArray.empty x244000 x4)).bind fun bt245 => (if bt245.2.2.2 = 0 then (if (Int.tmod bt245.1 2) = x4 then (if bt245.2.1 = 0 then (if bt245.2.2.1.toList = ([] : List UInt8) then (if bt245.1 > x3 then (foghornref04_newest.l0 k bt245.1 (wrap64 (x4 + 1)) x244000) else (foghornref04_newest.l0 k x3 (wrap64 (x4 + 1)) x244000)) else (foghornref04_newest.l0 k x3 (wrap64 (x4 + 1)) x244000)) else (foghornref04_newest.l0 k x3 (wrap64 (x4 + 1)) x244000)) else (foghornref04_newest.l0 k x3 (wrap64 (x4 + 1)) x244000)) else (foghornref04_newest.l0 k x3 (wrap64 (x4 + 1)) x244000))) else (none)) else (none)) else (some x3)
def foghornref04_newest.f (k : Nat) (l0_0 : List ByteArray) : Option (Int) := foghornref04_newest.l0 k 0 0 l0_0
theorem foghornref04_newest.mono_l : ∀ k, (∀ y0 y1 y2, LeO (foghornref04_newest.l0 k y0 y1 y2) (foghornref04_newest.l0 (k + 1) y0 y1 y2))
 | 0 => fun _ _ _ r h => by simp [foghornref04_newest.l0] at h
 | k + 1 => by
  have ih0 := foghornref04_newest.mono_l k
  ·intro y0 y1 y2
   unfold foghornref04_newest.l0
   repeat' first
   | (with_reducible exact ih0 _ _ _)
   | (with_reducible exact LeO.refl _)
   | (with_reducible exact LeO.none _)
   | (with_reducible refine LeO.ite ?_ ?_)
   | (with_reducible refine LeO.bind ?_ (fun _ => ?_))
   | exact ih0 _ _ _
   | exact LeO.none _
   | refine LeO.ite ?_ ?_
   | refine LeO.bind ?_ (fun _ => ?_)
theorem foghornref04_newest.mono : ∀ a0 k, LeO (foghornref04_newest.f k a0) (foghornref04_newest.f (k + 1) a0) := by
 intro a0 k
 have ih0 := foghornref04_newest.mono_l k
 unfold foghornref04_newest.f
 repeat' first
   | (with_reducible exact ih0 _ _ _)
   | (with_reducible exact LeO.refl _)
   | (with_reducible exact LeO.none _)
   | (with_reducible refine LeO.ite ?_ ?_)
   | (with_reducible refine LeO.bind ?_ (fun _ => ?_))
   | exact ih0 _ _ _
   | exact LeO.none _
   | refine LeO.ite ?_ ?_
   | refine LeO.bind ?_ (fun _ => ?_)
end Go.Proofs.YtopaddpclipnjaaQ.P
namespace Go.Proofs.YtopaddpclipnjaaQ.P
open Go.RowKit Go.Proofs.YtopaddpclipnjaaW.PrintWords Go.Proofs.YtopaddpclipnjaaW.PrintLast Go.Proofs.YtopaddpclipnjaaW.PrintMore
attribute [local go_sem] max2_int min2_int max_two min_two max_three min_three max_four min_four
def foghornref04_is.f (l0_0 : List ByteArray) (a1 : Int) (a2 : Int) (a3 : Int) : Option (ByteArray × Bool) := if 0 ≤ a1 then (if a1 < (l0_0.length : Int) then ((foghornref03_Open.f (rdOf ByteArray.empty l0_0 a1)).bind fun bt251 => (if bt251.2.2.2 = 0 then (if bt251.1 = a2 then (some (bt251.2.2.1, (bt251.2.1 == a3))) else (some (bt251.2.2.1, false))) else (some (bt251.2.2.1, false)))) else (none)) else (none)
end Go.Proofs.YtopaddpclipnjaaQ.P
namespace Go.Proofs.YtopaddpclipnjaaQ.P
open Go.RowKit Go.Proofs.YtopaddpclipnjaaW.PrintWords Go.Proofs.YtopaddpclipnjaaW.PrintLast Go.Proofs.YtopaddpclipnjaaW.PrintMore
attribute [local go_sem] max2_int min2_int max_two min_two max_three min_three max_four min_four
def foghornref04_place.f (l0_0 : List ByteArray) (a1 : Int) (a2 : Int) : Option (Int) := if (Int.tmod a1 2) = 0 then (some (wrap64 (2 + a2))) else ((foghornref04_Area.f l0_0).bind fun t256 => (some (wrap64 ((wrap64 (2 + t256)) + a2))))
end Go.Proofs.YtopaddpclipnjaaQ.P
namespace Go.Proofs.YtopaddpclipnjaaQ.P
open Go.RowKit Go.Proofs.YtopaddpclipnjaaW.PrintWords Go.Proofs.YtopaddpclipnjaaW.PrintLast Go.Proofs.YtopaddpclipnjaaW.PrintMore
attribute [local go_sem] max2_int min2_int max_two min_two max_three min_three max_four min_four
mutual
def foghornref04_Boot.j1 : Nat → List ByteArray → List ByteArray → List ByteArray → Int → Int → Int → Bool → Option (List ByteArray × Int × Int × Int × Bool × List ByteArray × Bool)
 | 0, _, _, _, _, _, _, _ => none
 | k + 1, x6, x258000, x261000, x261001, x261002, x261003, x261004 => foghornref04_Boot.l1 k x6 x258000 (x258000.length : Int) 0 x261000 x261001 (x6.length : Int) x261001 x261004
def foghornref04_Boot.l1 : Nat → List ByteArray → List ByteArray → Int → Int → List ByteArray → Int → Int → Int → Bool → Option (List ByteArray × Int × Int × Int × Bool × List ByteArray × Bool)
 | 0, _, _, _, _, _, _, _, _, _ => none
 | k + 1, x6, x55, x56, x57, x261000, x261001, x261002, x261003, x261004 => if x57 < x56 then (if 0 ≤ x57 then (if x57 < (x55.length : Int) then (if 0 < ((rdOf ByteArray.empty x55 x57).size : Int) then (if (wrap64 (bt (rdOf ByteArray.empty x55 x57) 0)) ≤ 250 then (if (wrap64 (bt (rdOf ByteArray.empty x55 x57) 0)) > x261003 then (foghornref04_Boot.l1 k x6 x55 x56 (wrap64 (x57 + 1)) x261000 x261001 x261002 (wrap64 (bt (rdOf ByteArray.empty x55 x57) 0)) x261004) else (foghornref04_Boot.l1 k x6 x55 x56 (wrap64 (x57 + 1)) x261000 x261001 x261002 x261003 x261004)) else (foghornref04_Boot.l1 k x6 x55 x56 (wrap64 (x57 + 1)) x261000 x261001 x261002 x261003 x261004)) else (none)) else (none)) else (none)) else (some (x261000, x261001, x261002, x261003, x261004, x6, true))
def foghornref04_Boot.l0 : Nat → List ByteArray → Int → List ByteArray → List ByteArray → Int → Int → Int → Bool → Option (List ByteArray × Int × Int × Int × Bool × List ByteArray × Bool)
 | 0, _, _, _, _, _, _, _, _ => none
 | k + 1, x6, x7, x258000, x261000, x261001, x261002, x261003, x261004 => (foghornref04_Area.f x258000).bind fun t264 => (if x7 < t264 then ((foghornref04_place.f x258000 x261001 x7).bind fun t265 => ((foghornref04_is.f x258000 t265 x261001 (wrap64 (x7 + 1))).bind fun bt266 => (if bt266.2 = true then (if x6.length < 8796093022208 then (foghornref04_Boot.l0 k (x6 ++ [bt266.1]) (wrap64 (x7 + 1)) x258000 x261000 x261001 x261002 x261003 x261004) else (none)) else (foghornref04_Boot.j1 k x6 x258000 x261000 x261001 x261002 x261003 x261004)))) else (foghornref04_Boot.j1 k x6 x258000 x261000 x261001 x261002 x261003 x261004))
end
theorem foghornref04_Boot.mono_l : ∀ k, (∀ y0 y1 y2 y3 y4 y5 y6, LeO (foghornref04_Boot.j1 k y0 y1 y2 y3 y4 y5 y6) (foghornref04_Boot.j1 (k + 1) y0 y1 y2 y3 y4 y5 y6)) ∧ (∀ y0 y1 y2 y3 y4 y5 y6 y7 y8, LeO (foghornref04_Boot.l1 k y0 y1 y2 y3 y4 y5 y6 y7 y8) (foghornref04_Boot.l1 (k + 1) y0 y1 y2 y3 y4 y5 y6 y7 y8)) ∧ (∀ y0 y1 y2 y3 y4 y5 y6 y7, LeO (foghornref04_Boot.l0 k y0 y1 y2 y3 y4 y5 y6 y7) (foghornref04_Boot.l0 (k + 1) y0 y1 y2 y3 y4 y5 y6 y7))
 | 0 => ⟨fun _ _ _ _ _ _ _ r h => by simp [foghornref04_Boot.j1] at h, fun _ _ _ _ _ _ _ _ _ r h => by simp [foghornref04_Boot.l1] at h, fun _ _ _ _ _ _ _ _ r h => by simp [foghornref04_Boot.l0] at h⟩
 | k + 1 => by
  obtain ⟨ih0, ih1, ih2⟩ := foghornref04_Boot.mono_l k
  refine ⟨?_, ?_, ?_⟩
  ·intro y0 y1 y2 y3 y4 y5 y6
   unfold foghornref04_Boot.j1
   repeat' first
   | (with_reducible exact ih0 _ _ _ _ _ _ _)
   | (with_reducible exact ih1 _ _ _ _ _ _ _ _ _)
   | (with_reducible exact ih2 _ _ _ _ _ _ _ _)
   | (with_reducible exact foghornref04_newest.mono _ _)
   | (with_reducible exact LeO.refl _)
   | (with_reducible exact LeO.none _)
   | (with_reducible refine LeO.ite ?_ ?_)
   | (with_reducible refine LeO.bind ?_ (fun _ => ?_))
   | exact ih0 _ _ _ _ _ _ _
   | exact ih1 _ _ _ _ _ _ _ _ _
   | exact ih2 _ _ _ _ _ _ _ _
   | exact foghornref04_newest.mono _ _
   | exact LeO.none _
   | refine LeO.ite ?_ ?_
   | refine LeO.bind ?_ (fun _ => ?_)
  ·intro y0 y1 y2 y3 y4 y5 y6 y7 y8
   unfold foghornref04_Boot.l1
   repeat' first
   | (with_reducible exact ih0 _ _ _ _ _ _ _)
   | (with_reducible exact ih1 _ _ _ _ _ _ _ _ _)
   | (with_reducible exact ih2 _ _ _ _ _ _ _ _)
   | (with_reducible exact foghornref04_newest.mono _ _)
   | (with_reducible exact LeO.refl _)
   | (with_reducible exact LeO.none _)
   | (with_reducible refine LeO.ite ?_ ?_)
   | (with_reducible refine LeO.bind ?_ (fun _ => ?_))
   | exact ih0 _ _ _ _ _ _ _
   | exact ih1 _ _ _ _ _ _ _ _ _
   | exact ih2 _ _ _ _ _ _ _ _
   | exact foghornref04_newest.mono _ _
   | exact LeO.none _
   | refine LeO.ite ?_ ?_
   | refine LeO.bind ?_ (fun _ => ?_)
  ·intro y0 y1 y2 y3 y4 y5 y6 y7
   unfold foghornref04_Boot.l0
   repeat' first
   | (with_reducible exact ih0 _ _ _ _ _ _ _)
   | (with_reducible exact ih1 _ _ _ _ _ _ _ _ _)
   | (with_reducible exact ih2 _ _ _ _ _ _ _ _)
   | (with_reducible exact foghornref04_newest.mono _ _)
   | (with_reducible exact LeO.refl _)
   | (with_reducible exact LeO.none _)
   | (with_reducible refine LeO.ite ?_ ?_)
   | (with_reducible refine LeO.bind ?_ (fun _ => ?_))
   | exact ih0 _ _ _ _ _ _ _
   | exact ih1 _ _ _ _ _ _ _ _ _
   | exact ih2 _ _ _ _ _ _ _ _
   | exact foghornref04_newest.mono _ _
   | exact LeO.none _
   | refine LeO.ite ?_ ?_
   | refine LeO.bind ?_ (fun _ => ?_)
end Go.Proofs.YtopaddpclipnjaaQ.P
namespace Go.Proofs.YtopaddpclipnjaaQ.P
open Go.RowKit Go.Proofs.YtopaddpclipnjaaW.PrintWords Go.Proofs.YtopaddpclipnjaaW.PrintLast Go.Proofs.YtopaddpclipnjaaW.PrintMore
attribute [local go_sem] max2_int min2_int max_two min_two max_three min_three max_four min_four
def foghornref02_Right.l0 : Nat → List ByteArray → Int → Int → List ByteArray → Option (Bool)
 | 0, _, _, _, _ => none
 | k + 1, x6, x7, x8, x158000 => if x8 < x7 then (if 0 ≤ x8 then (if x8 < (x6.length : Int) then (if ((rdOf ByteArray.empty x6 x8).size : Int) = 128 then (foghornref02_Right.l0 k x6 x7 (wrap64 (x8 + 1)) x158000) else (some false)) else (none)) else (none)) else (if (x158000.length : Int) ≥ 10 then (some (decide ((x158000.length : Int) ≤ 130))) else (some false))
theorem foghornref02_Right.mono_l : ∀ k, (∀ y0 y1 y2 y3, LeO (foghornref02_Right.l0 k y0 y1 y2 y3) (foghornref02_Right.l0 (k + 1) y0 y1 y2 y3))
 | 0 => fun _ _ _ _ r h => by simp [foghornref02_Right.l0] at h
 | k + 1 => by
  have ih0 := foghornref02_Right.mono_l k
  ·intro y0 y1 y2 y3
   unfold foghornref02_Right.l0
   repeat' first
   | (with_reducible exact ih0 _ _ _ _)
   | (with_reducible exact LeO.refl _)
   | (with_reducible exact LeO.none _)
   | (with_reducible refine LeO.ite ?_ ?_)
   | (with_reducible refine LeO.bind ?_ (fun _ => ?_))
   | exact ih0 _ _ _ _
   | exact LeO.none _
   | refine LeO.ite ?_ ?_
   | refine LeO.bind ?_ (fun _ => ?_)
end Go.Proofs.YtopaddpclipnjaaQ.P
namespace Go.Proofs.YtopaddpclipnjaaQ.P
open Go.RowKit Go.Proofs.YtopaddpclipnjaaW.PrintWords Go.Proofs.YtopaddpclipnjaaW.PrintLast Go.Proofs.YtopaddpclipnjaaW.PrintMore
attribute [local go_sem] max2_int min2_int max_two min_two max_three min_three max_four min_four
def foghornref04_Right.T1 : Bool × List (List Nat × List Nat) := (true, [([], []), ([0], [0]), ([1], [1]), ([2, 2], [2]), ([3], [3]), ([4, 3], [3, 4]), ([5, 3], [3, 5]), ([3, 6], [3, 6]), ([7, 3], [7]), ([8], [8]), ([9, 8], [8, 9]), ([10, 8], [8, 10]), ([8, 11], [8, 11]), ([12, 8], [12]), ([13], [13]), ([14, 13], [13, 14]), ([15, 13], [13, 15]), ([13, 16], [13, 16]), ([17, 13], [17]), ([18], [18]), ([19, 18], [18, 19]), ([18], [18]), ([21, 18], [18, 21]), ([22, 18, 18], [18, 22]), ([20, 23, 18], [18, 20, 23]), ([18, 24], [18, 24]), ([25, 23], [25]), ([26], [26]), ([27, 26], [26, 27]), ([26], [26]), ([29, 26], [26, 29]), ([28, 30, 26], [26, 28, 30]), ([26, 31], [26, 31]), ([32, 26], [32]), ([33], [33]), ([34, 33], [33, 34]), ([35, 33], [33, 35]), ([33, 36], [33, 36]), ([37, 33, 0, 1, 2, 3, 4, 5, 6, 7, 8, 9, 10, 11, 12, 13, 14, 15, 16, 17, 18, 19, 20, 21, 22, 23, 24, 25, 26, 27, 28, 29, 30, 31, 32, 33, 34, 35, 36, 37], [37])])
def foghornref04_Right.B1 : List Nat := [0, 1, 3, 7, 15, 31, 63, 127, 255, 511, 1023, 2047, 4095, 8191, 16383, 32767, 65535, 131071, 262143, 524287, 1048575, 524287, 2621439, 6815743, 16777215, 33554431, 67108863, 134217727, 268435455, 134217727, 671088639, 2147483647, 4294967295, 8589934591, 17179869183, 34359738367, 68719476735, 137438953471, 274877906943]
theorem foghornref04_Right.tab1 : rtab .any (opsOf Try.f14 1) = foghornref04_Right.T1 := by kernel_rfl
theorem foghornref04_Right.bits1 : waitsOk foghornref04_Right.T1.2 foghornref04_Right.B1 = true := by kernel_rfl
end Go.Proofs.YtopaddpclipnjaaQ.P
namespace Go.Proofs.YtopaddpclipnjaaQ.P
open Go.RowKit Go.Proofs.YtopaddpclipnjaaW.PrintWords Go.Proofs.YtopaddpclipnjaaW.PrintLast Go.Proofs.YtopaddpclipnjaaW.PrintMore
attribute [local go_sem] max2_int min2_int max_two min_two max_three min_three max_four min_four
def foghornlaw04_few.l0 : Nat → List ByteArray → List ByteArray → Int → Int → Option (List ByteArray)
 | 0, _, _, _, _ => none
 | k + 1, x5, x13, x14, x15 => if x15 < x14 then (if 0 ≤ x15 then (if x15 < (x13.length : Int) then (if 0 ≤ (mn ((rdOf ByteArray.empty x13 x15).size : Int) 130) then (if (mn ((rdOf ByteArray.empty x13 x15).size : Int) 130) ≤ ((rdOf ByteArray.empty x13 x15).size : Int) then (if x5.length < 8796093022208 then (foghornlaw04_few.l0 k (x5 ++ [(rdOf ByteArray.empty x13 x15).extract 0 ((mn ((rdOf ByteArray.empty x13 x15).size : Int) 130) : Int).toNat]) x13 x14 (wrap64 (x15 + 1))) else (none)) else (none)) else (none)) else (none)) else (none)) else (some x5)
def foghornlaw04_few.f (k : Nat) (l0 : List ByteArray) (a1 : Int) : Option (List ByteArray) := if 0 ≤ (mn (l0.length : Int) a1) then (if (mn (l0.length : Int) a1) ≤ (l0.length : Int) then (foghornlaw04_few.l0 k ([] : List ByteArray) (l0.take ((mn (l0.length : Int) a1) : Int).toNat) ((l0.take ((mn (l0.length : Int) a1) : Int).toNat).length : Int) 0) else (none)) else (none)
theorem foghornlaw04_few.mono_l : ∀ k, (∀ y0 y1 y2 y3, LeO (foghornlaw04_few.l0 k y0 y1 y2 y3) (foghornlaw04_few.l0 (k + 1) y0 y1 y2 y3))
 | 0 => fun _ _ _ _ r h => by simp [foghornlaw04_few.l0] at h
 | k + 1 => by
  have ih0 := foghornlaw04_few.mono_l k
  ·intro y0 y1 y2 y3
   unfold foghornlaw04_few.l0
   repeat' first
   | (with_reducible exact ih0 _ _ _ _)
   | (with_reducible exact LeO.refl _)
   | (with_reducible exact LeO.none _)
   | (with_reducible refine LeO.ite ?_ ?_)
   | (with_reducible refine LeO.bind ?_ (fun _ => ?_))
   | exact ih0 _ _ _ _
   | exact LeO.none _
   | refine LeO.ite ?_ ?_
   | refine LeO.bind ?_ (fun _ => ?_)
theorem foghornlaw04_few.mono : ∀ a0 a1 k, LeO (foghornlaw04_few.f k a0 a1) (foghornlaw04_few.f (k + 1) a0 a1) := by
 intro a0 a1 k
 have ih0 := foghornlaw04_few.mono_l k
 unfold foghornlaw04_few.f
 repeat' first
   | (with_reducible exact ih0 _ _ _ _)
   | (with_reducible exact LeO.refl _)
   | (with_reducible exact LeO.none _)
   | (with_reducible refine LeO.ite ?_ ?_)
   | (with_reducible refine LeO.bind ?_ (fun _ => ?_))
   | exact ih0 _ _ _ _
   | exact LeO.none _
   | refine LeO.ite ?_ ?_
   | refine LeO.bind ?_ (fun _ => ?_)
set_option maxHeartbeats 8000000 in
set_option maxRecDepth 100000 in
theorem foghornlaw04_few.calls (k : Nat) (A0 : Option Addr) (c0 : Nat) (l0 : List ByteArray) (a1 : Int) (r : List ByteArray) (w : World) (hr0 : Kd.C Kd.string w A0 l0.length l0) (hc0 : l0.length ≤ c0) (h : foghornlaw04_few.f k l0 a1 = some r) :
  Calls Try.prog 10 #[.slice A0 l0.length c0, .int .i64 a1] w fun e w' => ∃ v0_ : Value, e = .returned (v0_) ∧ Kd.R Kd.string 9 w' w.heap.size (fun _ => True) v0_ r ∧ Below w.heap.size w w' := by
 have HR0 := aA hr0
 have HC0 := aA hc0
 clear hr0 hc0
 have HB := aA (Below.refl w.heap.size w)
 have H : (if 0 ≤ (mn (l0.length : Int) a1) then (if (mn (l0.length : Int) a1) ≤ (l0.length : Int) then (foghornlaw04_few.l0 k ([] : List ByteArray) (l0.take ((mn (l0.length : Int) a1) : Int).toNat) ((l0.take ((mn (l0.length : Int) a1) : Int).toNat).length : Int) 0) else (none)) else (none)) = some r := h
 clear h
 obtain ⟨ji3, hji3⟩ : ∃ j_ : Int, (mn (l0.length : Int) a1) = j_ := ⟨_, rfl⟩
 replace H : (if 0 ≤ (ji3) then (if (ji3) ≤ (l0.length : Int) then (foghornlaw04_few.l0 k ([] : List ByteArray) (l0.take ((ji3) : Int).toNat) ((l0.take ((ji3) : Int).toNat).length : Int) 0) else (none)) else (none)) = some r := by first | (rw [hji3] at H; exact H) | (simp only [hji3] at H ⊢; exact H)
 have hji3_ : (if a1 < (l0.length : Int) then a1 else (l0.length : Int)) = ji3 := hji3
 by_cases c4 : 0 ≤ (ji3)
 ·rw [if_pos c4] at H
  have c4b0 := eq_true c4
  have c4b1 := decide_eq_true c4
  clear c4
  by_cases c5 : (ji3) ≤ (l0.length : Int)
  ·rw [if_pos c5] at H
   have c5b0 := eq_true c5
   have c5b1 := decide_eq_true c5
   clear c5
   have H' := aA H
   clear H
   obtain ⟨i06, hi06, _, hsz6, _⟩ := info_parts info9
   obtain ⟨hcut6, hA6, hC6⟩ := print_take_of (P := Try.prog) Value.string (⟨#[]⟩ : ByteArray) 22 9 .i64 Try.underlying22 hi06 hsz6 A0 c0 l0 (ji3) (of_decide_eq_true (by first | (with_reducible assumption) | assumption)) (of_decide_eq_true (by first | (with_reducible assumption) | assumption)) HC0.out
   have HR101 := aA (Kd.C_of_reads (h1 := fun _ => rfl) (hA6 _ (Kd.reads_of_C HR0.out)))
   have HC101 := aA hC6
   clear hA6 hC6 hi06 hsz6
   go_enter Try.func10, Try.ntmps10
   go_wp2
   go_loopg [5, 15] k (fun kq v5 v15 w' => ∃ (x5_1 : List ByteArray) (x15_1 : Int), v15 = .int .i64 x15_1 ∧ Aside0 (foghornlaw04_few.l0 kq x5_1 (l0.take ((ji3) : Int).toNat) ((l0.take ((ji3) : Int).toNat).length : Int) x15_1 = some r) ∧ Aside0 (kq ≤ k) ∧ Aside0 (Kd.R Kd.string 9 w' w.heap.size (fun _ => True) v5 x5_1) ∧ Aside0 (Below w.heap.size w w'))
   case atStart => exact ⟨(([] : List ByteArray)), (0), (by first | rfl | (simp; done) | (simp [*]; done)), H', ⟨Nat.le_refl _⟩, ⟨by first | exact Kd.R_nil _ _ _ _ _ | exact Kd.N_nil _ _ _ _ _ | exact Kd.V_nil _ _ _ _ _ | exact Kd.Q_nil _ _ _ _ _ | exact Kd.S_nil _ _ _ _ _⟩, ⟨by repeat (first | (with_reducible first | exact HB.out | apply below_alloc | apply pw_below_drewN | apply below_drew1) | exact HB.out)⟩⟩
   case round =>
    clear H'
    try clear c1
    try clear p2
    try clear c4
    try clear c4b0
    try clear c4b1
    try clear c5
    try clear c5b0
    try clear c5b1
    obtain ⟨x5_1, x15_1, rfl, HA, HK1, HO_5, HB⟩ := hrel
    cases gk with
    | zero => exact absurd HA.out (by simp [foghornlaw04_few.l0])
    | succ k1 =>
     have H := HA.out
     clear HA
     simp only [foghornlaw04_few.l0] at H
     by_cases c7 : x15_1 < ((l0.take ((ji3) : Int).toNat).length : Int)
     ·rw [if_pos c7] at H
      have c7b0 : decide (x15_1 < ((l0.take ((ji3) : Int).toNat).length : Int)) = true := decide_eq_true c7
      try have c7m : decide (x15_1 < max ji3 0) = true := decide_eq_true (by have h_ := c7; have h2_ : ji3 ≤ (l0.length : Int) := (by rw [← hji3_]; split <;> omega); rw [List.length_take] at h_; omega)
      clear c7
      by_cases c8 : 0 ≤ x15_1
      ·rw [if_pos c8] at H
       have c8b0 : decide (0 ≤ x15_1) = true := decide_eq_true c8
       clear c8
       by_cases c9 : x15_1 < ((l0.take ((ji3) : Int).toNat).length : Int)
       ·rw [if_pos c9] at H
        have c9b0 : decide (x15_1 < ((l0.take ((ji3) : Int).toNat).length : Int)) = true := decide_eq_true c9
        try have c9m : decide (x15_1 < max ji3 0) = true := decide_eq_true (by have h_ := c9; have h2_ : ji3 ≤ (l0.length : Int) := (by rw [← hji3_]; split <;> omega); rw [List.length_take] at h_; omega)
        clear c9
        obtain ⟨ji10, hji10⟩ : ∃ j_ : Int, (mn ((rdOf ByteArray.empty (l0.take ((ji3) : Int).toNat) x15_1).size : Int) 130) = j_ := ⟨_, rfl⟩
        replace H : (if 0 ≤ (ji10) then (if (ji10) ≤ ((rdOf ByteArray.empty (l0.take ((ji3) : Int).toNat) x15_1).size : Int) then (if x5_1.length < 8796093022208 then (foghornlaw04_few.l0 k1 (x5_1 ++ [(rdOf ByteArray.empty (l0.take ((ji3) : Int).toNat) x15_1).extract 0 ((ji10) : Int).toNat]) (l0.take ((ji3) : Int).toNat) ((l0.take ((ji3) : Int).toNat).length : Int) (wrap64 (x15_1 + 1))) else (none)) else (none)) else (none)) = some r := by first | (rw [hji10] at H; exact H) | (simp only [hji10] at H ⊢; exact H)
        have hji10_ : (if 130 < ((rdOf ByteArray.empty (l0.take ((ji3) : Int).toNat) x15_1).size : Int) then 130 else ((rdOf ByteArray.empty (l0.take ((ji3) : Int).toNat) x15_1).size : Int)) = ji10 := hji10
        by_cases c11 : 0 ≤ (ji10)
        ·rw [if_pos c11] at H
         have c11b0 := eq_true c11
         have c11b1 := decide_eq_true c11
         clear c11
         by_cases c12 : (ji10) ≤ ((rdOf ByteArray.empty (l0.take ((ji3) : Int).toNat) x15_1).size : Int)
         ·rw [if_pos c12] at H
          have c12b0 := eq_true c12
          have c12b1 := decide_eq_true c12
          clear c12
          by_cases c13 : x5_1.length < 8796093022208
          ·rw [if_pos c13] at H
           have LMc13 := aA c13
           clear c13
           obtain ⟨y103, hy103⟩ : ∃ y_ : List ByteArray, y_ = (x5_1 ++ [(rdOf ByteArray.empty (l0.take ((ji3) : Int).toNat) x15_1).extract 0 ((ji10) : Int).toNat]) := ⟨_, rfl⟩
           replace H : (foghornlaw04_few.l0 k1 y103 (l0.take ((ji3) : Int).toNat) ((l0.take ((ji3) : Int).toNat).length : Int) (wrap64 (x15_1 + 1))) = some r := by first | (rw [hy103]; with_reducible exact H) | (have H2_ := (Option.bind_some _ _).symm.trans H; rw [hy103]; with_reducible exact H2_) | (have H2_ := (Option.bind_some _ _).symm.trans H; with_reducible exact H2_) | with_reducible exact H | (rw [hy103]; exact H) | exact H
           have Ny103 := aA hy103
           clear hy103
           have H' := aA H
           clear H
           have p102 : 0 ≤ (x15_1 : Int) := of_decide_eq_true (by first | (with_reducible assumption) | assumption)
           have q102 : x15_1 < ((l0.take ((ji3) : Int).toNat).length : Int) := of_decide_eq_true (by first | (with_reducible assumption) | assumption)
           try have q102m : decide (x15_1 < max ji3 0) = true := decide_eq_true (by have h_ := q102; have h2_ : ji3 ≤ (l0.length : Int) := (by rw [← hji3_]; split <;> omega); rw [List.length_take] at h_; omega)
           try have q102p : (x15_1 < max ji3 0) = True := eq_true (of_decide_eq_true q102m)
           obtain ⟨ad102, e102, hx102_0⟩ := Kd.at_string HR101.out x15_1 p102 q102
           cases e102
           replace hx102_0 := (HB.out.cell (World.block_lt_of_cell? w _ hx102_0)).trans hx102_0
           replace p102 := eq_true p102
           replace q102 := eq_true q102
           go_wp2_with (first | ((with_reducible refine gate_builtin (b := .append) (xs := #[.tmp 19, .tmp 25]) rfl ?_); at_builtin; refine Kd.R_append Kd.string (w0 := w) w.heap.size rfl (.tmp 19) (.tmp 25) 22 9 (.string ⟨#[]⟩) 16 rfl Try.underlying22 info9 rfl (by decide) (by omega) u5 x5_1 ((rdOf ByteArray.empty (l0.take ((ji3) : Int).toNat) x15_1).extract 0 ((ji10) : Int).toNat) [.string ((rdOf ByteArray.empty (l0.take ((ji3) : Int).toNat) x15_1).extract 0 ((ji10) : Int).toNat)] (fun _ => True) (fun _ => False) rfl rfl ?aP (fun _ hk => hk.elim) ?aF ?aO ?aB ?aS ?aL ?_; (case aP => exact rfl); (case aB => exact mB); (case aF => exact (fun _ _ => trivial)); (case aO => exact (mR HO_5.out)); (case aS => exact (below_size mB)); (case aL => have := LMc13.out; omega); intro v104 w14 ho hb hg hat; rw [← Ny103.out] at ho; have n0_ := aA (hb); have n1_ := aA (ho); clear HB HO_5; have HB := n0_; have HO105 := n1_; clear n0_ n1_ ho hb hg hat))
           go_roundg k1
           case measure => have := HK1.out; omega
           case rel => exact ⟨(y103), (wrap64 (x15_1 + 1)), (by first | rfl | (simp; done) | (simp [*]; done)), H', ⟨by have := HK1.out; omega⟩, ⟨by (with_reducible repeat (first | apply Kd.R_alloc | apply Kd.R_drewN | apply Kd.R_drew)); exact HO105.out⟩, ⟨by repeat (first | (with_reducible first | exact HB.out | apply below_alloc | apply pw_below_drewN | apply below_drew1) | exact HB.out)⟩⟩
          ·rw [if_neg c13] at H
           exact absurd H (by simp)
         ·rw [if_neg c12] at H
          exact absurd H (by simp)
        ·rw [if_neg c11] at H
         exact absurd H (by simp)
       ·rw [if_neg c9] at H
        exact absurd H (by simp)
      ·rw [if_neg c8] at H
       exact absurd H (by simp)
     ·rw [if_neg c7] at H
      have c7b0 : decide (x15_1 < ((l0.take ((ji3) : Int).toNat).length : Int)) = false := decide_eq_false c7
      try have c7m : decide (x15_1 < max ji3 0) = false := decide_eq_false (by have h_ := c7; have h2_ : ji3 ≤ (l0.length : Int) := (by rw [← hji3_]; split <;> omega); rw [List.length_take] at h_; omega)
      clear c7
      obtain rfl := Option.some.inj H
      go_wp2
      go_ret
      exact ⟨_, by first | rfl | (simp [errW_none, errW_some] <;> rfl) | (simp only [← hji3]; first | rfl | (simp [errW_none, errW_some] <;> rfl)) | (simp [*, errW_none, errW_some] <;> rfl), by (with_reducible repeat (first | apply Kd.R_alloc | apply Kd.R_drewN | apply Kd.R_drew)); exact HO_5.out, by repeat (first | (with_reducible first | exact HB.out | apply below_alloc | apply pw_below_drewN | apply below_drew1) | exact HB.out)⟩
  ·rw [if_neg c5] at H
   exact absurd H (by simp)
 ·rw [if_neg c4] at H
  exact absurd H (by simp)
end Go.Proofs.YtopaddpclipnjaaQ.P
namespace Go.Proofs.YtopaddpclipnjaaQ.P
open Go.RowKit Go.Proofs.YtopaddpclipnjaaW.PrintWords Go.Proofs.YtopaddpclipnjaaW.PrintLast Go.Proofs.YtopaddpclipnjaaW.PrintMore
attribute [local go_sem] max2_int min2_int max_two min_two max_three min_three max_four min_four
def foghornref02_Same.l0 : Nat → Int → Int → List ByteArray → List ByteArray → Option (Bool)
 | 0, _, _, _, _ => none
 | k + 1, x15, x16, x205000, x206000 => if x16 < x15 then (if 0 ≤ x16 then (if x16 < (x205000.length : Int) then (if x16 < (x206000.length : Int) then (if (rdOf ByteArray.empty x205000 x16).toList = (rdOf ByteArray.empty x206000 x16).toList then (foghornref02_Same.l0 k x15 (wrap64 (x16 + 1)) x205000 x206000) else (some false)) else (none)) else (none)) else (none)) else (some true)
theorem foghornref02_Same.mono_l : ∀ k, (∀ y0 y1 y2 y3, LeO (foghornref02_Same.l0 k y0 y1 y2 y3) (foghornref02_Same.l0 (k + 1) y0 y1 y2 y3))
 | 0 => fun _ _ _ _ r h => by simp [foghornref02_Same.l0] at h
 | k + 1 => by
  have ih0 := foghornref02_Same.mono_l k
  ·intro y0 y1 y2 y3
   unfold foghornref02_Same.l0
   repeat' first
   | (with_reducible exact ih0 _ _ _ _)
   | (with_reducible exact LeO.refl _)
   | (with_reducible exact LeO.none _)
   | (with_reducible refine LeO.ite ?_ ?_)
   | (with_reducible refine LeO.bind ?_ (fun _ => ?_))
   | exact ih0 _ _ _ _
   | exact LeO.none _
   | refine LeO.ite ?_ ?_
   | refine LeO.bind ?_ (fun _ => ?_)
end Go.Proofs.YtopaddpclipnjaaQ.P
namespace Go.Proofs.YtopaddpclipnjaaQ.P
open Go.RowKit Go.Proofs.YtopaddpclipnjaaW.PrintWords Go.Proofs.YtopaddpclipnjaaW.PrintLast Go.Proofs.YtopaddpclipnjaaW.PrintMore
attribute [local go_sem] max2_int min2_int max_two min_two max_three min_three max_four min_four
def foghornref04_Texts.l0 : Nat → List ByteArray → List ByteArray → Int → Int → Option (Bool)
 | 0, _, _, _, _ => none
 | k + 1, x0, x1, x12, x13 => if x13 < x12 then (if 0 ≤ x13 then (if x13 < (x0.length : Int) then (if x13 < (x1.length : Int) then (if (rdOf ByteArray.empty x0 x13).toList = (rdOf ByteArray.empty x1 x13).toList then (foghornref04_Texts.l0 k x0 x1 x12 (wrap64 (x13 + 1))) else (some false)) else (none)) else (none)) else (none)) else (some true)
def foghornref04_Texts.f (k : Nat) (l0 : List ByteArray) (l1 : List ByteArray) : Option (Bool) := if (l0.length : Int) = (l1.length : Int) then (foghornref04_Texts.l0 k l0 l1 (l0.length : Int) 0) else (some false)
theorem foghornref04_Texts.mono_l : ∀ k, (∀ y0 y1 y2 y3, LeO (foghornref04_Texts.l0 k y0 y1 y2 y3) (foghornref04_Texts.l0 (k + 1) y0 y1 y2 y3))
 | 0 => fun _ _ _ _ r h => by simp [foghornref04_Texts.l0] at h
 | k + 1 => by
  have ih0 := foghornref04_Texts.mono_l k
  ·intro y0 y1 y2 y3
   unfold foghornref04_Texts.l0
   repeat' first
   | (with_reducible exact ih0 _ _ _ _)
   | (with_reducible exact LeO.refl _)
   | (with_reducible exact LeO.none _)
   | (with_reducible refine LeO.ite ?_ ?_)
   | (with_reducible refine LeO.bind ?_ (fun _ => ?_))
   | exact ih0 _ _ _ _
   | exact LeO.none _
   | refine LeO.ite ?_ ?_
   | refine LeO.bind ?_ (fun _ => ?_)
theorem foghornref04_Texts.mono : ∀ a0 a1 k, LeO (foghornref04_Texts.f k a0 a1) (foghornref04_Texts.f (k + 1) a0 a1) := by
 intro a0 a1 k
 have ih0 := foghornref04_Texts.mono_l k
 unfold foghornref04_Texts.f
 repeat' first
   | (with_reducible exact ih0 _ _ _ _)
   | (with_reducible exact LeO.refl _)
   | (with_reducible exact LeO.none _)
   | (with_reducible refine LeO.ite ?_ ?_)
   | (with_reducible refine LeO.bind ?_ (fun _ => ?_))
   | exact ih0 _ _ _ _
   | exact LeO.none _
   | refine LeO.ite ?_ ?_
   | refine LeO.bind ?_ (fun _ => ?_)
set_option maxHeartbeats 8000000 in
set_option maxRecDepth 100000 in
theorem foghornref04_Texts.calls (k : Nat) (A0 : Option Addr) (c0 : Nat) (l0 : List ByteArray) (A1 : Option Addr) (c1 : Nat) (l1 : List ByteArray) (r : Bool) (w : World) (hr0 : Kd.C Kd.string w A0 l0.length l0) (hc0 : l0.length ≤ c0) (hr1 : Kd.C Kd.string w A1 l1.length l1) (hc1 : l1.length ≤ c1) (h : foghornref04_Texts.f k l0 l1 = some r) :
  Calls Try.prog 20 #[.slice A0 l0.length c0, .slice A1 l1.length c1] w fun e w' => e = .returned (.bool r) ∧ Drawn0 w w' := by
 have HR0 := aA hr0
 have HC0 := aA hc0
 clear hr0 hc0
 have HR1 := aA hr1
 have HC1 := aA hc1
 clear hr1 hc1
 have H : (if (l0.length : Int) = (l1.length : Int) then (foghornref04_Texts.l0 k l0 l1 (l0.length : Int) 0) else (some false)) = some r := h
 clear h
 by_cases c3 : (l0.length : Int) = (l1.length : Int)
 ·rw [if_pos c3] at H
  have c3b0 : ((l0.length : Int) == (l1.length : Int)) = true := beq_iff_eq.mpr c3
  have c3b1 : ((l0.length : Int) != (l1.length : Int)) = false := bne_eq_false_iff_eq.mpr c3
  have c3b2 : (l0.length == l1.length) = true := by first | simpa using c3 | (simp at c3 ⊢; omega)
  clear c3
  have H' := aA H
  clear H
  go_enter Try.func20, Try.ntmps20
  go_wp2
  repeat (go_quiet (fail); try go_wp2)
  go_loopg [13] k (fun kq v13 w' => ∃ (x13_1 : Int), v13 = .int .i64 x13_1 ∧ Aside0 (foghornref04_Texts.l0 kq l0 l1 (l0.length : Int) x13_1 = some r) ∧ Aside0 (kq ≤ k) ∧ Drawn0 w w')
  case atStart => exact ⟨(0), (by first | rfl | (simp; done) | (simp [*]; done)), H', ⟨Nat.le_refl _⟩, by repeat (first | exact Drawn0.refl _ | apply Drawn0.step)⟩
  case round =>
   clear H'
   try clear c1
   try clear c2
   try clear p2
   try clear c3
   try clear c3b0
   try clear c3b1
   try clear c3b2
   obtain ⟨x13_1, rfl, HA, HK1, ⟨m1, rfl⟩⟩ := hrel
   cases gk with
   | zero => exact absurd HA.out (by simp [foghornref04_Texts.l0])
   | succ k1 =>
    have H := HA.out
    clear HA
    simp only [foghornref04_Texts.l0] at H
    by_cases c4 : x13_1 < (l0.length : Int)
    ·rw [if_pos c4] at H
     have c4b0 : decide (x13_1 < (l0.length : Int)) = true := decide_eq_true c4
     clear c4
     by_cases c5 : 0 ≤ x13_1
     ·rw [if_pos c5] at H
      have c5b0 : decide (0 ≤ x13_1) = true := decide_eq_true c5
      clear c5
      by_cases c6 : x13_1 < (l0.length : Int)
      ·rw [if_pos c6] at H
       have c6b0 : decide (x13_1 < (l0.length : Int)) = true := decide_eq_true c6
       clear c6
       by_cases c7 : x13_1 < (l1.length : Int)
       ·rw [if_pos c7] at H
        have c7b0 : decide (x13_1 < (l1.length : Int)) = true := decide_eq_true c7
        clear c7
        by_cases c8 : (rdOf ByteArray.empty l0 x13_1).toList = (rdOf ByteArray.empty l1 x13_1).toList
        ·rw [if_pos c8] at H
         have c8b0 : ((rdOf ByteArray.empty l0 x13_1).toList == (rdOf ByteArray.empty l1 x13_1).toList) = true := beq_iff_eq.mpr c8
         have c8b1 : ((rdOf ByteArray.empty l0 x13_1).toList != (rdOf ByteArray.empty l1 x13_1).toList) = false := bne_eq_false_iff_eq.mpr c8
         clear c8
         have H' := aA H
         clear H
         have p272 : 0 ≤ (x13_1 : Int) := of_decide_eq_true (by first | (with_reducible assumption) | assumption)
         have q272 : x13_1 < (l0.length : Int) := of_decide_eq_true (by first | (with_reducible assumption) | assumption)
         obtain ⟨ad272, e272, hx272_0⟩ := Kd.at_string HR0.out x13_1 p272 q272
         cases e272
         replace p272 := eq_true p272
         replace q272 := eq_true q272
         have p273 : 0 ≤ (x13_1 : Int) := of_decide_eq_true (by first | (with_reducible assumption) | assumption)
         have q273 : x13_1 < (l1.length : Int) := of_decide_eq_true (by first | (with_reducible assumption) | assumption)
         obtain ⟨ad273, e273, hx273_0⟩ := Kd.at_string HR1.out x13_1 p273 q273
         cases e273
         replace p273 := eq_true p273
         replace q273 := eq_true q273
         go_wp2
         repeat (go_quiet (fail); try go_wp2)
         go_roundg k1
         case measure => have := HK1.out; omega
         case rel => exact ⟨(wrap64 (x13_1 + 1)), (by first | rfl | (simp; done) | (simp [*]; done)), H', ⟨by have := HK1.out; omega⟩, by repeat (first | exact Drawn0.refl _ | apply Drawn0.step)⟩
        ·rw [if_neg c8] at H
         have c8b0 : ((rdOf ByteArray.empty l0 x13_1).toList == (rdOf ByteArray.empty l1 x13_1).toList) = false := beq_eq_false_iff_ne.mpr c8
         have c8b1 : ((rdOf ByteArray.empty l0 x13_1).toList != (rdOf ByteArray.empty l1 x13_1).toList) = true := bne_iff_ne.mpr c8
         obtain rfl := Option.some.inj H
         have p272 : 0 ≤ (x13_1 : Int) := of_decide_eq_true (by first | (with_reducible assumption) | assumption)
         have q272 : x13_1 < (l0.length : Int) := of_decide_eq_true (by first | (with_reducible assumption) | assumption)
         obtain ⟨ad272, e272, hx272_0⟩ := Kd.at_string HR0.out x13_1 p272 q272
         cases e272
         replace p272 := eq_true p272
         replace q272 := eq_true q272
         have p273 : 0 ≤ (x13_1 : Int) := of_decide_eq_true (by first | (with_reducible assumption) | assumption)
         have q273 : x13_1 < (l1.length : Int) := of_decide_eq_true (by first | (with_reducible assumption) | assumption)
         obtain ⟨ad273, e273, hx273_0⟩ := Kd.at_string HR1.out x13_1 p273 q273
         cases e273
         replace p273 := eq_true p273
         replace q273 := eq_true q273
         go_wp2
         repeat (go_quiet (fail); try go_wp2)
         go_ret
         exact ⟨by first | rfl | (simp; done) | (simp [*]; done), by repeat (first | exact Drawn0.refl _ | apply Drawn0.step)⟩
       ·rw [if_neg c7] at H
        exact absurd H (by simp)
      ·rw [if_neg c6] at H
       exact absurd H (by simp)
     ·rw [if_neg c5] at H
      exact absurd H (by simp)
    ·rw [if_neg c4] at H
     have c4b0 : decide (x13_1 < (l0.length : Int)) = false := decide_eq_false c4
     clear c4
     obtain rfl := Option.some.inj H
     go_wp2
     repeat (go_quiet (fail); try go_wp2)
     go_ret
     exact ⟨by first | rfl | (simp; done) | (simp [*]; done), by repeat (first | exact Drawn0.refl _ | apply Drawn0.step)⟩
 ·rw [if_neg c3] at H
  have c3b0 : ((l0.length : Int) == (l1.length : Int)) = false := beq_eq_false_iff_ne.mpr c3
  have c3b1 : ((l0.length : Int) != (l1.length : Int)) = true := bne_iff_ne.mpr c3
  have c3b2 : (l0.length == l1.length) = false := by first | simpa using c3 | (simp at c3 ⊢; omega)
  obtain rfl := Option.some.inj H
  go_enter Try.func20, Try.ntmps20
  go_wp2
  repeat (go_quiet (fail); try go_wp2)
  go_ret
  exact ⟨by first | rfl | (simp; done) | (simp [*]; done), by repeat (first | exact Drawn0.refl _ | apply Drawn0.step)⟩
end Go.Proofs.YtopaddpclipnjaaQ.P
namespace Go.Proofs.Ytopaddpclipnjaa
open Go.RowKit Go.Proofs.YtopaddpclipnjaaW.PrintWords Go.Proofs.YtopaddpclipnjaaW.PrintMore
theorem w64 {x : Int} (h0 : -9223372036854775808 ≤ x) (h1 : x ≤ 9223372036854775807) : wrap64 x = x := by unfold wrap64; omega
theorem w64s {i : Nat} (h : i < 9223372036854775807) : wrap64 ((i : Int) + 1) = ((i + 1 : Nat) : Int) := by rw [w64 (by omega) (by omega)]; omega
theorem drop_cons {α : Type} {xs : List α} {i : Nat} (h : i < xs.length) : xs.drop i = xs[i] :: xs.drop (i + 1) := List.drop_eq_getElem_cons h
theorem drop_end {α : Type} {xs : List α} {i : Nat} (h : xs.length ≤ i) : xs.drop i = [] := List.drop_eq_nil_of_le h
theorem mn_eq (a b : Int) : mn a b = min a b := by unfold mn; omega
theorem mx_eq (a b : Int) : mx a b = max a b := by unfold mx; omega
def cutB (n : Nat) (x : ByteArray) : ByteArray := x.extract 0 n
theorem cutB_size (n : Nat) (x : ByteArray) : (cutB n x).size = min n x.size := by
  unfold cutB
  rw [ByteArray.size_extract]
  omega
theorem cutB_mn (n : Nat) (m : Int) (x : ByteArray) (hm : m = n) : x.extract 0 (mn (x.size : Int) m).toNat = cutB n x := by
  subst hm
  unfold cutB
  rw [mn_eq]
  apply ByteArray.ext
  rw [ByteArray.data_extract, ByteArray.data_extract]
  rcases Nat.le_total x.size n with h | h
  · rw [show (min (x.size : Int) n).toNat = x.size by omega]
    rw [Array.extract_eq_self_of_le (show x.data.size ≤ x.size from Nat.le_refl _), Array.extract_eq_self_of_le (show x.data.size ≤ n from h)]
  · rw [show (min (x.size : Int) n).toNat = n by omega]
theorem take_mn {α : Type} (n : Nat) (m : Int) (xs : List α) (hm : m = n) : xs.take (mn (xs.length : Int) m).toNat = xs.take n := by
  subst hm
  rw [mn_eq]
  rcases Nat.le_total xs.length n with h | h
  · rw [List.take_of_length_le (by omega), List.take_of_length_le h]
  · rw [show (min (xs.length : Int) n).toNat = n by omega]
end Go.Proofs.Ytopaddpclipnjaa
namespace Go.Proofs.YtopaddpclipnjaaQ.P
open Go.RowKit Go.Proofs.YtopaddpclipnjaaW.PrintWords Go.Proofs.YtopaddpclipnjaaW.PrintMore Go.Proofs.Ytopaddpclipnjaa
theorem rd_sec (xs : List ByteArray) (i : Int) : rdOf ByteArray.empty xs i = sec xs i := rfl
theorem rd_at {xs : List ByteArray} {i : Nat} (h : i < xs.length) : rdOf ByteArray.empty xs i = xs[i] := sec_get h
theorem bytes_list' {a b : ByteArray} : a.toList = b.toList ↔ a = b := ⟨fun h => bytes_of_eq (by rw [h]; exact beq_self_eq_true _), fun h => by rw [h]⟩
theorem texts_l (xs ys : List ByteArray) (hl : xs.length = ys.length) (hb : xs.length < 1000000) (d : Nat) : ∀ (k i : Nat), i + d = xs.length → d < k →
    foghornref04_Texts.l0 k xs ys (xs.length : Int) i = some (decide (xs.drop i = ys.drop i)) := by
  induction d with
  | zero =>
    intro k i h hk
    obtain ⟨k, rfl⟩ : ∃ m, k = m + 1 := ⟨k - 1, by omega⟩
    simp only [foghornref04_Texts.l0]
    rw [if_neg (by omega), drop_end (by omega), drop_end (by omega)]
    simp
  | succ d ih =>
    intro k i h hk
    obtain ⟨k, rfl⟩ : ∃ m, k = m + 1 := ⟨k - 1, by omega⟩
    have hi : i < xs.length := by omega
    have hj : i < ys.length := by omega
    simp only [foghornref04_Texts.l0]
    rw [if_pos (by omega), if_pos (by omega), if_pos (by omega), if_pos (by omega), rd_at hi, rd_at hj, w64s (by omega), ih k (i + 1) (by omega) (by omega), drop_cons hi, drop_cons hj]
    by_cases h1 : xs[i] = ys[i]
    · rw [if_pos (by rw [h1])]
      simp only [List.cons.injEq, h1, true_and]
    · rw [if_neg (fun h => h1 (bytes_list'.1 h))]
      simp only [List.cons.injEq, h1, false_and, decide_false]
theorem texts_f (xs ys : List ByteArray) (hb : xs.length < 1000000) {k : Nat} (hk : xs.length < k) : foghornref04_Texts.f k xs ys = some (decide (xs = ys)) := by
  unfold foghornref04_Texts.f
  by_cases h : xs.length = ys.length
  · rw [if_pos (by omega), show (0 : Int) = ((0 : Nat) : Int) from rfl, texts_l xs ys h hb xs.length k 0 (by omega) (by omega)]
    simp
  · rw [if_neg (by omega)]
    have : xs ≠ ys := fun e => h (by rw [e])
    simp [this]
theorem few_l (xs : List ByteArray) (hx : xs.length ≤ 1000) (d : Nat) : ∀ (k i : Nat) (acc : List ByteArray), i + d = xs.length → d < k → acc.length ≤ i → foghornlaw04_few.l0 k acc xs (xs.length : Int) i = some (acc ++ (xs.drop i).map (cutB 130)) := by
  induction d with
  | zero =>
    intro k i acc h hk ha
    obtain ⟨k, rfl⟩ : ∃ m, k = m + 1 := ⟨k - 1, by omega⟩
    simp only [foghornlaw04_few.l0]
    rw [if_neg (by omega), drop_end (by omega)]
    simp
  | succ d ih =>
    intro k i acc h hk ha
    obtain ⟨k, rfl⟩ : ∃ m, k = m + 1 := ⟨k - 1, by omega⟩
    have hi : i < xs.length := by omega
    simp only [foghornlaw04_few.l0]
    have e1 := mn_eq ((xs[i]).size : Int) 130
    rw [rd_at hi, if_pos (by omega), if_pos (by omega), if_pos (by omega), if_pos (by omega), if_pos (by omega), if_pos (by omega), w64s (by omega), ih k (i + 1) _ (by omega) (by omega) (by simp; omega), drop_cons hi, cutB_mn 130 130 _ rfl]
    simp only [List.map_cons, List.append_assoc, List.singleton_append]
theorem few_f (xs : List ByteArray) (n : Nat) (hn : n ≤ 1000) {k : Nat} (hk : n < k) : foghornlaw04_few.f k xs (n : Int) = some ((xs.take n).map (cutB 130)) := by
  unfold foghornlaw04_few.f
  have e1 := mn_eq (xs.length : Int) n
  rw [if_pos (by omega), if_pos (by omega), take_mn n n _ rfl]
  have hl : (xs.take n).length ≤ n := List.length_take_le _ _
  have := few_l (xs.take n) (by omega) (xs.take n).length k 0 [] (by omega) (by omega) (by simp)
  simpa using this
def cutD (xs : List ByteArray) : List ByteArray := (xs.take 132).map (cutB 130)
theorem cutD_len (xs : List ByteArray) : (cutD xs).length ≤ 132 := by
  unfold cutD
  rw [List.length_map]
  exact List.length_take_le _ _
theorem few132 (xs : List ByteArray) {k : Nat} (hk : 132 < k) : foghornlaw04_few.f k xs 132 = some (cutD xs) := few_f xs 132 (by omega) hk
end Go.Proofs.YtopaddpclipnjaaQ.P
namespace Go.Proofs.YtopaddpclipnjaaQ.P
open Go.RowKit Go.Proofs.YtopaddpclipnjaaW.PrintWords Go.Proofs.YtopaddpclipnjaaW.PrintMore Go.Proofs.Ytopaddpclipnjaa
theorem area_f {xs : List ByteArray} (hl : xs.length ≤ 1000000) : store_area.f xs = some (areaD xs) := by
  unfold store_area.f areaD
  congr 1
  unfold wrap64
  omega
theorem tmod2 {g : Int} (h : 0 ≤ g) : Int.tmod g 2 = g % 2 := Int.tmod_eq_emod_of_nonneg h
theorem place_f {xs : List ByteArray} (hl : xs.length ≤ 1000) {g i : Int} (g0 : 0 ≤ g) (i0 : 0 ≤ i) (i1 : i ≤ 1000) : store_place.f xs g i = some (placeD xs g i) := by
  unfold store_place.f placeD
  rw [area_f (by omega), Option.bind_some, tmod2 g0]
  congr 1
  have ha : -1 ≤ areaD xs ∧ areaD xs ≤ 500 := by unfold areaD; omega
  obtain ⟨A, hA⟩ : ∃ A, A = areaD xs := ⟨_, rfl⟩
  rw [← hA] at ha ⊢
  rcases (by omega : g % 2 = 0 ∨ g % 2 = 1) with e | e <;> rw [e] <;> unfold wrap64 <;> omega
theorem open_f {x : ByteArray} (h : x.size = 128) : openF x = some (openG x, openN x, openP x, openE x) := by
  unfold openF
  rw [if_pos (by unfold maxLen; omega)]
theorem sopen_f {x : ByteArray} (h : x.size = 128) : seal_Open.f x = some (openG x, openN x, openP x, openE x) := open_f h
theorem boot_l1 {xs : List ByteArray} (hlog : logB xs = true) {G T : Int} (g0 : 0 ≤ G) (d : Nat) : ∀ (k i : Nat) (acc : List ByteArray), (i : Int) + d = areaD xs → d < k → acc.length ≤ i →
    store_Boot.l1 k acc xs xs G i T false = some (xs, G, ((i + (foundD xs G d i).length : Nat) : Int), T, false, acc ++ foundD xs G d i, 0) := by
  obtain ⟨n1, n2, _, hsz, _, _, hlen, a1, a2⟩ := logB_nums hlog
  induction d with
  | zero =>
    intro k i acc h hk ha
    obtain ⟨k, rfl⟩ : ∃ m, k = m + 1 := ⟨k - 1, by omega⟩
    simp only [store_Boot.l1]
    rw [area_f (by omega), Option.bind_some, if_neg (by omega)]
    simp [foundD]
  | succ d ih =>
    intro k i acc h hk ha
    obtain ⟨k, rfl⟩ : ∃ m, k = m + 1 := ⟨k - 1, by omega⟩
    have hp := placeD_in hlog (g := G) (i := i) (by omega) (by omega)
    simp only [store_Boot.l1]
    rw [area_f (by omega), Option.bind_some, if_pos (by omega), place_f (by omega) g0 (by omega) (by omega), Option.bind_some, if_pos (by omega), if_pos (by omega), rd_sec, sopen_f (sec_size hlog (by omega) (by omega)), Option.bind_some, w64s (by omega)]
    simp only
    unfold foundD
    by_cases h1 : openE (sec xs (placeD xs G i)) = 0
    · by_cases h2 : openG (sec xs (placeD xs G i)) = G
      · by_cases h3 : openN (sec xs (placeD xs G i)) = ((i + 1 : Nat) : Int)
        · rw [if_pos h1, if_pos h2, if_pos h3, if_pos (by omega), ih k (i + 1) _ (by omega) (by omega) (by simp; omega), if_pos ⟨h1, h2, by rw [h3]; omega⟩]
          simp only [List.append_assoc, List.singleton_append, List.length_cons, Option.some.injEq, Prod.mk.injEq, true_and, and_true]
          omega
        · rw [if_pos h1, if_pos h2, if_neg h3, if_neg (fun h => h3 (by rw [h.2.2]; omega))]
          simp
      · rw [if_pos h1, if_neg h2, if_neg (fun h => h2 h.2.1)]
        simp
    · rw [if_neg h1, if_neg (fun h => h1 h.1)]
      simp
def genFrom (i : Nat) (m : Int) : List ByteArray → Int
  | [] => m
  | x :: xs => genFrom (i + 1) (if i < 2 then max m (hdrG x i) else m) xs
theorem genFrom_late (xs : List ByteArray) : ∀ i m, 2 ≤ i → genFrom i m xs = m := by
  induction xs with
  | nil => intro i m _; rfl
  | cons x xs ih =>
    intro i m h
    unfold genFrom
    rw [if_neg (by omega)]
    exact ih _ _ (by omega)
theorem genFrom_all {xs : List ByteArray} (h : 2 ≤ xs.length) : genFrom 0 0 xs = newestD xs := by
  match xs, h with
  | x :: y :: xs, _ =>
    unfold genFrom genFrom
    rw [genFrom_late xs _ _ (by omega)]
    unfold newestD sec
    have := (hdrG_range x 0).1
    simp
    omega
theorem nil_list : (⟨#[]⟩ : ByteArray).toList = ([] : List UInt8) := by
  rw [ByteArray.toList_eq]
theorem hdr_step {x : ByteArray} {i : Nat} {m : Int} (hi : i < 2) (hm : 0 ≤ m) {α : Type} (f : Int → α) :
    (if openE x = 0 then (if (i : Int) = openG x % 2 then (if openN x = 0 then (if (openP x).toList = ([] : List UInt8) then f (max m (openG x)) else f m) else f m) else f m) else f m) = f (max m (hdrG x i)) := by
  unfold hdrG
  by_cases h1 : openE x = 0
  · by_cases h2 : (i : Int) = openG x % 2
    · by_cases h3 : openN x = 0
      · by_cases h4 : openP x = ⟨#[]⟩
        · rw [if_pos h1, if_pos h2, if_pos h3, if_pos (by rw [h4]; exact nil_list), if_pos ⟨h1, h2.symm, h3, h4⟩]
        · rw [if_pos h1, if_pos h2, if_pos h3, if_neg (fun h => h4 (bytes_list'.1 (h.trans nil_list.symm))), if_neg (fun h => h4 h.2.2.2), Int.max_eq_left hm]
      · rw [if_pos h1, if_pos h2, if_neg h3, if_neg (fun h => h3 h.2.2.1), Int.max_eq_left hm]
    · rw [if_pos h1, if_neg h2, if_neg (fun h => h2 h.2.1.symm), Int.max_eq_left hm]
  · rw [if_neg h1, if_neg (fun h => h1 h.1), Int.max_eq_left hm]
theorem bt_at8 {x : ByteArray} (h : x.size = 128) : wrap64 (bt x 0) = at8 x 0 := by
  have hr := at8_range x 0
  have : bt x 0 = at8 x 0 := by
    unfold bt at8
    rw [dif_pos (show (0 : Int).toNat < x.size by rw [h]; decide), List.getD_eq_getElem?_getD, List.getElem?_eq_getElem (by rw [len_data, h]; omega)]
    rfl
  rw [this]
  unfold wrap64
  omega
theorem boot_l0 {xs : List ByteArray} (hlog : logB xs = true) (d : Nat) : ∀ (k i : Nat) (m t : Int), i + d = xs.length → d + 70 < k → 0 ≤ m →
    store_Boot.l0 k xs (xs.length : Int) i xs xs m 0 t false = (if genFrom i m (xs.drop i) = 0 then some ([], 0, 0, 0, false, [], 4) else some (xs, genFrom i m (xs.drop i), ((foundA xs (genFrom i m (xs.drop i))).length : Int), topF t (xs.drop i), false, foundA xs (genFrom i m (xs.drop i)), 0)) := by
  obtain ⟨n1, n2, _, hsz, _, _, hlen, a1, a2⟩ := logB_nums hlog
  induction d with
  | zero =>
    intro k i m t h hk hm
    obtain ⟨k, rfl⟩ : ∃ m, k = m + 1 := ⟨k - 1, by omega⟩
    simp only [store_Boot.l0]
    rw [if_neg (by omega), drop_end (by omega)]
    unfold genFrom topF
    simp only [List.foldl_nil]
    by_cases h0 : m = 0
    · rw [if_pos h0, if_pos h0]
    · rw [if_neg h0, if_neg h0, show (0 : Int) = ((0 : Nat) : Int) from rfl, boot_l1 hlog hm (areaD xs).toNat k 0 [] (by omega) (by omega) (by simp)]
      simp [foundA]
  | succ d ih =>
    intro k i m t h hk hm
    obtain ⟨k, rfl⟩ : ∃ m, k = m + 1 := ⟨k - 1, by omega⟩
    have hi : i < xs.length := by omega
    have hs : (sec xs i).size = 128 := sec_size hlog (by omega) (by omega)
    simp only [store_Boot.l0]
    rw [if_pos (by omega), if_pos (by omega), if_pos (by omega), rd_sec, if_pos (by rw [hs]; decide), sopen_f hs, Option.bind_some, Option.bind_some, w64s (by omega), bt_at8 hs]
    simp only
    rw [tmod2 (openG_range _).1]
    simp only [mx_eq]
    have hd : xs.drop i = sec xs i :: xs.drop (i + 1) := by rw [sec_get hi]; exact drop_cons hi
    have hg : genFrom i m (xs.drop i) = genFrom (i + 1) (if i < 2 then max m (hdrG (sec xs i) i) else m) (xs.drop (i + 1)) := by rw [hd]; rfl
    have ht : topF t (xs.drop i) = topF (topStep t (sec xs i)) (xs.drop (i + 1)) := by rw [hd]; rfl
    rw [hg, ht]
    have hmn : 0 ≤ (if i < 2 then max m (hdrG (sec xs i) i) else m) := by split <;> omega
    rw [← ih k (i + 1) _ _ (by omega) (by omega) hmn]
    by_cases h2 : i < 2
    · have e := fun (T : Int) => hdr_step (x := sec xs i) h2 hm (fun M => store_Boot.l0 k xs (xs.length : Int) ((i + 1 : Nat) : Int) xs xs M 0 T false)
      rw [if_pos h2, ← e]
      have c2 : (i : Int) < 2 := by omega
      unfold topStep
      by_cases hb : at8 (sec xs i) 0 ≤ 250
      · rw [if_pos hb, if_pos hb, if_pos c2]
      · rw [if_neg hb, if_neg hb, if_pos c2]
    · rw [if_neg h2]
      have c2 : ¬ (i : Int) < 2 := by omega
      unfold topStep
      by_cases hb : at8 (sec xs i) 0 ≤ 250
      · rw [if_pos hb, if_pos hb, if_neg c2]
        split <;> rfl
      · rw [if_neg hb, if_neg hb, if_neg c2]
        split <;> rfl
def bootOut (r : Sto × List ByteArray × Int) : List ByteArray × Int × Int × Int × Bool × List ByteArray × Int := (r.1.xs, r.1.gen, r.1.used, r.1.top, r.1.down, r.2.1, r.2.2)
theorem log_f {xs : List ByteArray} (hl : xs.length ≤ 1000000) : store_hasLog.f xs = some (logB xs) := by
  unfold store_hasLog.f sector_Right.f logB
  cases rightD xs
  · rfl
  · rw [Option.bind_some, if_pos rfl, Bool.true_and]
    congr 1
theorem boot_f (xs : List ByteArray) (hl : xs.length ≤ 1000000) {k : Nat} (hk : 210 < k) : store_Boot.f k xs = some (bootOut (bootS xs)) := by
  unfold store_Boot.f bootS
  rw [log_f hl, Option.bind_some]
  cases hlog : logB xs
  · rfl
  · have := logB_nums hlog
    have hb := boot_l0 hlog xs.length k 0 0 0 (by omega) (by omega) (by omega)
    rw [List.drop_zero, genFrom_all (by omega)] at hb
    rw [if_pos rfl]
    show store_Boot.l0 k xs (xs.length : Int) ((0 : Nat) : Int) xs xs 0 0 0 false = _
    rw [hb]
    by_cases h : newestD xs = 0
    · rw [if_pos h, if_neg (by simp), if_pos h]
      rfl
    · rw [if_neg h, if_neg (by simp), if_neg h]
      rfl
end Go.Proofs.YtopaddpclipnjaaQ.P
namespace Go.Proofs.YtopaddpclipnjaaQ.P
open Go.RowKit Go.Proofs.YtopaddpclipnjaaW.PrintWords Go.Proofs.YtopaddpclipnjaaW.PrintMore Go.Proofs.Ytopaddpclipnjaa
def goodN (n : Int) : Prop := 10 ≤ n ∧ n ≤ 130 ∧ n % 2 = 0
instance (n : Int) : Decidable (goodN n) := by unfold goodN; infer_instance
theorem new_f (n : Int) {k : Nat} (hk : 1 < k) : store_New.f k n = stoOut (if goodN n then (new0 n, 0) else (Sto.zero, 2)) := by
  obtain ⟨k, rfl⟩ : ∃ m, k = m + 1 := ⟨k - 1, by omega⟩
  unfold store_New.f sector_New.f newE
  rw [Option.bind_some]
  simp only
  by_cases h : 10 ≤ n ∧ n ≤ 130
  · rw [if_pos h, if_pos rfl]
    simp only [store_New.j0]
    rw [show Int.tmod n 2 = n % 2 from Int.tmod_eq_emod_of_nonneg (by omega)]
    by_cases h2 : n % 2 = 0
    · rw [if_neg (by simp [h2]), if_pos (show goodN n from ⟨h.1, h.2, h2⟩)]
      rfl
    · rw [if_pos (by simp [h2]), if_neg (fun hh : goodN n => h2 hh.2.2)]
      rfl
  · rw [if_neg h, if_neg (by omega), if_neg (fun hh : goodN n => h ⟨hh.1, hh.2.1⟩)]
    simp only [store_New.j0]
    rfl
theorem app_f (s : Sto) (p : ByteArray) (f : Flt) : store_Append.f s.xs s.gen s.used s.top s.down p f.kind f.k = stoOut (appendS s p f) := rfl
theorem alive_f {k : Nat} (hk : 300 < k) : foghornlaw04_alive.f k = some true := by
  unfold foghornlaw04_alive.f
  have h0 : Has (new0 10) [] := has_new (by omega) (by omega) (by omega)
  rw [new_f 10 (by omega), if_pos (by decide)]
  unfold stoOut
  rw [Option.bind_some]
  simp only
  have ha := app_f (new0 10) ⟨#[97]⟩ ⟨0, 0⟩
  rcases h0.append (p := ⟨#[97]⟩) (f := ⟨0, 0⟩) (by decide) (by decide) with ⟨_, e⟩ | ⟨_, e, c⟩
  · have := (logB_nums h0.inv.log).2.2.2.2.2.2.2.1
    simp at e
    omega
  · rw [e] at ha
    rcases c with ⟨k1, _⟩ | ⟨k1, _⟩ | ⟨_, ys, ey, I⟩
    · exact absurd k1 (by decide)
    · exact absurd k1 (by decide)
    · rw [ey] at ha
      rw [show store_Append.f (new0 10).xs (new0 10).gen (new0 10).used (new0 10).top (new0 10).down ⟨#[97]⟩ 0 0 = _ from ha]
      unfold stoOut
      rw [Option.bind_some]
      simp only
      have h1 : Has ⟨ys, 1, 0 + 1, 1, false⟩ ([] ++ [⟨#[97]⟩]) := I.has rfl
      have hb := app_f ⟨ys, 1, 0 + 1, 1, false⟩ ⟨#[98]⟩ ⟨2, 60⟩
      rcases h1.append (p := ⟨#[98]⟩) (f := ⟨2, 60⟩) (by decide) (by decide) with ⟨_, e⟩ | ⟨_, e, c⟩
      · have := (logB_nums h1.inv.log).2.2.2.2.2.2.2.1
        simp at e this
        omega
      · rw [e] at hb
        rcases c with ⟨k1, _⟩ | ⟨_, zs, ez, I2⟩ | ⟨k1, _⟩
        · exact absurd k1 (by decide)
        · rw [ez] at hb
          rw [show store_Append.f ys (new0 10).gen ((new0 10).used + 1) (new0 10).top (new0 10).down ⟨#[98]⟩ 2 60 = _ from hb]
          unfold stoOut
          rw [Option.bind_some]
          simp only
          rcases I2 with I2 | ⟨_, h⟩
          · have hl := (logB_nums I2.log).2.1
            rw [boot_f zs (by omega) (by omega), I2.boot]
            unfold bootOut
            rw [Option.bind_some]
            simp
            show ((⟨#[97]⟩ : ByteArray)).toList = _
            rw [ByteArray.toList_eq]
          · exact absurd h (by decide)
        · exact absurd k1 (by decide)
end Go.Proofs.YtopaddpclipnjaaQ.P
namespace Go.Proofs.YtopaddpclipnjaaQ.P
open Go.RowKit Go.Proofs.YtopaddpclipnjaaW.PrintWords Go.Proofs.Ytopaddpclipnjaa
theorem alive_only {k : Nat} {r : Bool} (h : foghornlaw04_alive.f k = some r) : r = true := by
  have hm : ∀ d, foghornlaw04_alive.f (k + d) = some r := by
    intro d
    induction d with
    | zero => exact h
    | succ d ih => exact (foghornlaw04_alive.mono (k + d)) _ ih
  have h1 := hm 301
  rw [alive_f (by omega)] at h1
  exact (Option.some.inj h1).symm
theorem foghornlaw04_alive.calls (k : Nat) (r : Bool) (w : World) (h : foghornlaw04_alive.f k = some r) :
    Calls Try.prog 15 #[] w fun e w' => e = .returned (.bool r) ∧ Below w.heap.size w w' := foghornlaw04_alive.callsT k r w h (alive_only h)
end Go.Proofs.YtopaddpclipnjaaQ.P
namespace Go.Proofs.YtopaddpclipnjaaQ.P
open Go.RowKit Go.Proofs.YtopaddpclipnjaaW.PrintWords Go.Proofs.YtopaddpclipnjaaW.PrintLast Go.Proofs.YtopaddpclipnjaaW.PrintMore
attribute [local go_sem] max2_int min2_int max_two min_two max_three min_three max_four min_four
mutual
def foghornlaw04_StoreTurns.l0 : Nat → ByteArray → List ByteArray → List ByteArray → Int → Int → List ByteArray → Option (Bool)
 | 0, _, _, _, _, _, _ => none
 | k + 1, x2, x7, x31, x32, x33, x637000 => if x33 < x32 then (if 0 ≤ x33 then (if x33 < (x31.length : Int) then (if 0 ≤ (mn ((rdOf ByteArray.empty x31 x33).size : Int) 96) then (if (mn ((rdOf ByteArray.empty x31 x33).size : Int) 96) ≤ ((rdOf ByteArray.empty x31 x33).size : Int) then (if x7.length < 8796093022208 then (foghornlaw04_StoreTurns.l0 k x2 (x7 ++ [(rdOf ByteArray.empty x31 x33).extract 0 ((mn ((rdOf ByteArray.empty x31 x33).size : Int) 96) : Int).toNat]) x31 x32 (wrap64 (x33 + 1)) x637000) else (none)) else (none)) else (none)) else (none)) else (none)) else ((store_Boot.f k x637000).bind fun bt647 => (if bt647.2.2.2.2.2.2 = 0 then ((store_Turn.f bt647.1 bt647.2.1 bt647.2.2.1 bt647.2.2.2.1 bt647.2.2.2.2.1 x7 ([] : List (S45))).bind fun bt660 => (if bt660.2.2.2.2.2 = 0 then (if bt660.2.1 ≤ bt647.2.2.2.1 then (foghornlaw04_StoreTurns.j1 k x2 x7 (wrap64 ((wrap64 ((x637000.length : Int) / 2)) - 1)) true bt660.1 bt660.2.1 bt660.2.2.1 bt660.2.2.2.1 bt660.2.2.2.2.1) else (if bt660.2.1 > (wrap64 (bt647.2.2.2.1 + 2)) then (foghornlaw04_StoreTurns.j1 k x2 x7 (wrap64 ((wrap64 ((x637000.length : Int) / 2)) - 1)) true bt660.1 bt660.2.1 bt660.2.2.1 bt660.2.2.2.1 bt660.2.2.2.2.1) else (if bt660.2.2.2.1 = bt660.2.1 then (if bt660.2.2.1 = (x7.length : Int) then (if (Int.tmod (wrap64 (bt660.2.1 - bt647.2.1)) 2) = 0 then (foghornlaw04_StoreTurns.j1 k x2 x7 (wrap64 ((wrap64 ((x637000.length : Int) / 2)) - 1)) true bt660.1 bt660.2.1 bt660.2.2.1 bt660.2.2.2.1 bt660.2.2.2.2.1) else ((foghornlaw04_alive.f k).bind fun t669 => (foghornlaw04_StoreTurns.j1 k x2 x7 (wrap64 ((wrap64 ((x637000.length : Int) / 2)) - 1)) (!t669) bt660.1 bt660.2.1 bt660.2.2.1 bt660.2.2.2.1 bt660.2.2.2.2.1))) else (foghornlaw04_StoreTurns.j1 k x2 x7 (wrap64 ((wrap64 ((x637000.length : Int) / 2)) - 1)) true bt660.1 bt660.2.1 bt660.2.2.1 bt660.2.2.2.1 bt660.2.2.2.2.1)) else (foghornlaw04_StoreTurns.j1 k x2 x7 (wrap64 ((wrap64 ((x637000.length : Int) / 2)) - 1)) true bt660.1 bt660.2.1 bt660.2.2.1 bt660.2.2.2.1 bt660.2.2.2.2.1)))) else (if bt660.2.2.2.2.2 = 5 then (if (x7.length : Int) > (wrap64 ((wrap64 ((x637000.length : Int) / 2)) - 1)) then (some true) else (some (decide (bt647.2.2.2.1 ≥ 249)))) else (some false)))) else ((foghornlaw04_alive.f k).bind fun t659 => (if t659 = true then (some (bt647.2.2.2.2.2.2 != 5)) else (some false)))))
def foghornlaw04_StoreTurns.j1 : Nat → ByteArray → List ByteArray → Int → Bool → List ByteArray → Int → Int → Int → Bool → Option (Bool)
 | 0, _, _, _, _, _, _, _, _, _ => none
 | k + 1, x2, x7, x15, x124, x669000, x669001, x669002, x669003, x669004 => if x124 = true then (some false) else ((store_Append.f x669000 x669001 x669002 x669003 x669004 x2 0 0).bind fun bt670 => (if (x7.length : Int) = x15 then (some (bt670.2.2.2.2.2 == 5)) else ((store_Boot.f k bt670.1).bind fun bt679 => (if bt670.2.2.2.2.2 = 0 then (if bt679.2.2.2.2.2.2 = 0 then (if x7.length < 8796093022208 then ((foghornref04_Texts.f k bt679.2.2.2.2.2.1 (x7 ++ [x2])).bind fun t694 => (some t694)) else (none)) else (some false)) else (some false)))))
end
def foghornlaw04_StoreTurns.f (k : Nat) (l0_0 : List ByteArray) (l1 : List ByteArray) (a2 : ByteArray) : Option (Bool) := (foghornlaw04_few.f k l0_0 132).bind fun t637 => (if 0 ≤ (mn (a2.size : Int) 96) then (if (mn (a2.size : Int) 96) ≤ (a2.size : Int) then ((foghornlaw04_few.f k l1 64).bind fun t640 => (foghornlaw04_StoreTurns.l0 k (a2.extract 0 ((mn (a2.size : Int) 96) : Int).toNat) ([] : List ByteArray) t640 (t640.length : Int) 0 t637)) else (none)) else (none))
theorem foghornlaw04_StoreTurns.mono_l : ∀ k, (∀ y0 y1 y2 y3 y4 y5, LeO (foghornlaw04_StoreTurns.l0 k y0 y1 y2 y3 y4 y5) (foghornlaw04_StoreTurns.l0 (k + 1) y0 y1 y2 y3 y4 y5)) ∧ (∀ y0 y1 y2 y3 y4 y5 y6 y7 y8, LeO (foghornlaw04_StoreTurns.j1 k y0 y1 y2 y3 y4 y5 y6 y7 y8) (foghornlaw04_StoreTurns.j1 (k + 1) y0 y1 y2 y3 y4 y5 y6 y7 y8))
 | 0 => ⟨fun _ _ _ _ _ _ r h => by simp [foghornlaw04_StoreTurns.l0] at h, fun _ _ _ _ _ _ _ _ _ r h => by simp [foghornlaw04_StoreTurns.j1] at h⟩
 | k + 1 => by
  obtain ⟨ih0, ih1⟩ := foghornlaw04_StoreTurns.mono_l k
  refine ⟨?_, ?_⟩
  ·intro y0 y1 y2 y3 y4 y5
   unfold foghornlaw04_StoreTurns.l0
   repeat' first
   | (with_reducible exact ih0 _ _ _ _ _ _)
   | (with_reducible exact ih1 _ _ _ _ _ _ _ _ _)
   | (with_reducible exact foghornlaw04_alive.mono _)
   | (with_reducible exact foghornlaw04_few.mono _ _ _)
   | (with_reducible exact foghornref04_Texts.mono _ _ _)
   | (with_reducible exact store_Boot.mono _ _)
   | (with_reducible exact LeO.refl _)
   | (with_reducible exact LeO.none _)
   | (with_reducible refine LeO.ite ?_ ?_)
   | (with_reducible refine LeO.bind ?_ (fun _ => ?_))
   | exact ih0 _ _ _ _ _ _
   | exact ih1 _ _ _ _ _ _ _ _ _
   | exact foghornlaw04_alive.mono _
   | exact foghornlaw04_few.mono _ _ _
   | exact foghornref04_Texts.mono _ _ _
   | exact store_Boot.mono _ _
   | exact LeO.none _
   | refine LeO.ite ?_ ?_
   | refine LeO.bind ?_ (fun _ => ?_)
  ·intro y0 y1 y2 y3 y4 y5 y6 y7 y8
   unfold foghornlaw04_StoreTurns.j1
   repeat' first
   | (with_reducible exact ih0 _ _ _ _ _ _)
   | (with_reducible exact ih1 _ _ _ _ _ _ _ _ _)
   | (with_reducible exact foghornlaw04_alive.mono _)
   | (with_reducible exact foghornlaw04_few.mono _ _ _)
   | (with_reducible exact foghornref04_Texts.mono _ _ _)
   | (with_reducible exact store_Boot.mono _ _)
   | (with_reducible exact LeO.refl _)
   | (with_reducible exact LeO.none _)
   | (with_reducible refine LeO.ite ?_ ?_)
   | (with_reducible refine LeO.bind ?_ (fun _ => ?_))
   | exact ih0 _ _ _ _ _ _
   | exact ih1 _ _ _ _ _ _ _ _ _
   | exact foghornlaw04_alive.mono _
   | exact foghornlaw04_few.mono _ _ _
   | exact foghornref04_Texts.mono _ _ _
   | exact store_Boot.mono _ _
   | exact LeO.none _
   | refine LeO.ite ?_ ?_
   | refine LeO.bind ?_ (fun _ => ?_)
def foghornlaw04_StoreTurns.T1 : Bool × List (List Nat × List Nat) := (true, [([], []), ([0], [0]), ([1], [1]), ([2], [2]), ([], []), ([], []), ([5], [5]), ([6], [6]), ([4, 7], [4, 7]), ([3, 2, 0, 1, 2, 3], [3]), ([8, 9, 0, 1, 2, 3, 4, 5, 6, 7, 8, 9], [4, 5, 8])])
def foghornlaw04_StoreTurns.B1 : List Nat := [0, 1, 3, 7, 0, 0, 32, 96, 240, 15, 1023]
theorem foghornlaw04_StoreTurns.tab1 : rtab .any (opsOf Try.f8 1) = foghornlaw04_StoreTurns.T1 := by kernel_rfl
theorem foghornlaw04_StoreTurns.bits1 : waitsOk foghornlaw04_StoreTurns.T1.2 foghornlaw04_StoreTurns.B1 = true := by kernel_rfl
set_option maxHeartbeats 8000000 in
set_option maxRecDepth 100000 in
theorem foghornlaw04_StoreTurns.calls (k : Nat) (A0_0 : Option Addr) (c0_0 : Nat) (l0_0 : List ByteArray) (A1 : Option Addr) (c1 : Nat) (l1 : List ByteArray) (a2 : ByteArray) (r : Bool) (w : World) (hr0_0 : Kd.C Kd.string w A0_0 l0_0.length l0_0) (hc0_0 : l0_0.length ≤ c0_0) (hr1 : Kd.C Kd.string w A1 l1.length l1) (hc1 : l1.length ≤ c1) (h : foghornlaw04_StoreTurns.f k l0_0 l1 a2 = some r) (hrt_ : r = true := by rfl) :
  Calls Try.prog 8 #[.agg #[.slice A0_0 l0_0.length c0_0], .slice A1 l1.length c1, .string a2] w fun e w' => e = .returned (.bool r) ∧ Below w.heap.size w w' := by
 have hu24 := Try.underlying24
 have hu26 := Try.underlying26
 have hu45 := Try.underlying45
 have HR0_0 := aA hr0_0
 have HC0_0 := aA hc0_0
 clear hr0_0 hc0_0
 have HR1 := aA hr1
 have HC1 := aA hc1
 clear hr1 hc1
 have HB := aA (Below.refl w.heap.size w)
 have H : ((foghornlaw04_few.f k l0_0 132).bind fun t637 => (if 0 ≤ (mn (a2.size : Int) 96) then (if (mn (a2.size : Int) 96) ≤ (a2.size : Int) then ((foghornlaw04_few.f k l1 64).bind fun t640 => (foghornlaw04_StoreTurns.l0 k (a2.extract 0 ((mn (a2.size : Int) 96) : Int).toNat) ([] : List ByteArray) t640 (t640.length : Int) 0 t637)) else (none)) else (none))) = some r := h
 clear h
 replace H := Option.bind_eq_some_iff.mp H
 obtain ⟨t637, A40, H⟩ := H
 have A4 := aA A40
 clear A40
 obtain ⟨ji5, hji5⟩ : ∃ j_ : Int, (mn (a2.size : Int) 96) = j_ := ⟨_, rfl⟩
 replace H : (if 0 ≤ (ji5) then (if (ji5) ≤ (a2.size : Int) then ((foghornlaw04_few.f k l1 64).bind fun t640 => (foghornlaw04_StoreTurns.l0 k (a2.extract 0 ((ji5) : Int).toNat) ([] : List ByteArray) t640 (t640.length : Int) 0 t637)) else (none)) else (none)) = some r := by first | (rw [hji5] at H; exact H) | (simp only [hji5] at H ⊢; exact H)
 (try rw [hji5] at A4)
 (try (have hji5h : ji5 ≤ 96 := by (rw [← hji5]; unfold mn; (repeat' split) <;> omega)))
 (try (have hji5g : ji5 ≤ 64 := by omega))
 (try (have hji5l : 0 ≤ ji5 := by (rw [← hji5]; unfold mn; (repeat' split) <;> omega)))
 (try (have hji5m : 0 ≤ ji5 := by omega))
 have hji5_ : (if 96 < (a2.size : Int) then 96 else (a2.size : Int)) = ji5 := hji5
 by_cases c6 : 0 ≤ (ji5)
 ·rw [if_pos c6] at H
  have c6b0 := eq_true c6
  have c6b1 := decide_eq_true c6
  clear c6
  by_cases c7 : (ji5) ≤ (a2.size : Int)
  ·rw [if_pos c7] at H
   have c7b0 := eq_true c7
   have c7b1 := decide_eq_true c7
   clear c7
   replace H := Option.bind_eq_some_iff.mp H
   obtain ⟨t640, A80, H⟩ := H
   have A8 := aA A80
   clear A80
   have H' := aA H
   clear H
   go_enter Try.func8, Try.ntmps8
   try go_wp2_with (first | ((with_reducible refine gate_dst (N := 3) rfl ?_); (try (refine gate_guard (by rfl) ?_; dsimp only)); refine box_event ?hg (N := 3) ?hd (cs := #[.slice A0_0 l0_0.length c0_0]) (t := 24) ?hr ?_; (case hd => rfl); (case hg => rfl); (case hr => first | (go_simp; done) | (go_simp; rfl)); intro gb636 hg w9 hbox hb; have n0_ := aA (below_step mB hb); have n1_ := aA (hbox); have n2_ := aA ((bZ hg mB)); have n3_ := aA ((bZ hg mB)); clear HB; have HB := n0_; have BK636 := n1_; have GW636 := n2_; have GE636 := n3_; clear n0_ n1_ n2_ n3_ hb hbox hg))
   have n0_ := aA (blk_drew BK636.out)
   have n1_ := aA (below_drew1 HB.out)
   clear BK636
   clear HB
   have BK636 := n0_
   have HB := n1_
   clear n0_ n1_
   refine start_ (n := 11) (S := fun w' => w'.cell? ⟨gb636, 0, none⟩ = some (.slice A0_0 l0_0.length c0_0)) (ds := [9]) #[false, false, false, false, false, false, false, false, false, false, false] (by kernel_rfl) rfl rfl ((blk_cell BK636.out 0).trans rfl) (fun hHeld => ?_); refine with_tabW foghornlaw04_StoreTurns.tab1 foghornlaw04_StoreTurns.bits1 (fun HT_ HW_ => ?_)
   generalize w9.drew = w10 at BK636 HB hHeld ⊢
   refine pure_ (i := 0) (N := some 21) (v := ?_) (a' := ?_) #[true, false, false, false, false, false, false, false, false, false, false] rfl rfl (any_of HT_.out (by kernel_rfl)) (fun _ _ _ h => h) (Or.inl ⟨by rfl, ?_⟩) ?_ ?_
   rotate_left
   ·intro w'
    go_simp
    with_reducible rfl
   rotate_left
   ·exact mP
   refine pure_ (i := 4) (N := some 25) (v := ?_) (a' := ?_) #[true, false, false, false, true, false, false, false, false, false, false] rfl rfl (any_of HT_.out (by kernel_rfl)) (fun _ _ _ h => h) (Or.inl ⟨by rfl, ?_⟩) ?_ ?_
   rotate_left
   ·intro w'
    go_simp
    with_reducible rfl
   rotate_left
   ·exact mP
   refine pure_ (i := 5) (N := some 26) (v := ?_) (a' := ?_) #[true, false, false, false, true, true, false, false, false, false, false] rfl rfl (any_of HT_.out (by kernel_rfl)) (fun _ _ _ h => h) (Or.inl ⟨by rfl, ?_⟩) ?_ ?_
   rotate_left
   ·intro w'
    go_simp
    with_reducible rfl
   rotate_left
   ·exact mP
   refine pure_ (i := 6) (N := some 27) (v := ?_) (a' := ?_) #[true, false, false, false, true, true, true, false, false, false, false] rfl rfl (any_of HT_.out (by kernel_rfl)) (fun _ _ _ h => h) (Or.inl ⟨by rfl, ?_⟩) ?_ ?_
   rotate_left
   ·intro w'
    go_simp
    with_reducible rfl
   rotate_left
   ·exact mP
   refine pure_ (i := 7) (N := some 28) (v := ?_) (a' := ?_) #[true, false, false, false, true, true, true, true, false, false, false] rfl rfl (any_of HT_.out (by kernel_rfl)) (fun _ _ _ h => h) (Or.inl ⟨by rfl, ?_⟩) ?_ ?_
   rotate_left
   ·intro w'
    go_simp
    with_reducible rfl
   rotate_left
   ·exact mP
   refine pure_ (i := 8) (N := some 29) (v := ?_) (a' := ?_) #[true, false, false, false, true, true, true, true, true, false, false] rfl rfl (any_of HT_.out (by kernel_rfl)) (fun _ _ _ h => h) (Or.inl ⟨by rfl, ?_⟩) ?_ ?_
   rotate_left
   ·intro w'
    go_simp
    with_reducible rfl
   rotate_left
   ·exact mP
   refine take_ (i := 1) (N := some 22) (v := ?_) (a' := ?_) #[true, true, false, false, true, true, true, true, true, false, false] rfl rfl (take_ofW HT_.out HW_.out (by kernel_rfl)) (fun _ _ _ h => h) (Or.inl ⟨by rfl, ?_⟩) hHeld ?_ ?_
   rotate_left
   ·intro w' s0
    go_simp
    with_reducible rfl
   rotate_left
   ·exact mP
   refine one_ (i := 2) (N := some 23) #[true, true, true, false, true, true, true, true, true, false, false] rfl rfl (one_of HT_.out (by kernel_rfl)) (by decide) (fun K hK => ?_)
   refine goes_ Try.func10 (by kernel_rfl) rfl #[.slice A0_0 l0_0.length c0_0, .int .i64 132] (by rfl) rfl rfl mS ?_
   with_reducible refine (foghornlaw04_few.calls k _ _ l0_0 132 t637 _ ?side1 ?side2 A4.out).mono ?_
   (case side1 => exact mC ((Kd.C_below HR0_0.out HB.out)))
   (case side2 => exact HC0_0.out)
   rintro e w11 ⟨v638, rfl, ho0, hb⟩
   refine ⟨_, rfl, ?_⟩
   have n0_ := aA (Kd.R_lower ho0 (below_size (mD1 GE636.out)))
   have n1_ := aA (bB BK636.out hb)
   have n2_ := aA (below_step (mD1 GE636.out) hb)
   clear BK636
   clear HB
   have HO639 := n0_
   have BK636 := n1_
   have HB := n2_
   clear n0_ n1_ n2_
   (try clear hb)
   (try clear hb2)
   (try clear hk)
   (try clear hi)
   (try clear ho0)
   obtain ⟨Ao12, co12, eo12⟩ := Kd.R_slice HO639.out
   (first | subst eo12 | (injection eo12 with f1_ f2_ f3_; have f4_ := f1_.symm; have f5_ := f3_.symm; clear f1_ f2_ f3_; subst f4_; subst f5_))
   refine hK.out _ _ ((blk_cell BK636.out 0).trans rfl) (fun hHeld => ?_)
   clear hK K
   refine norm_ (a' := ?_) ?_ ?_
   rotate_left
   ·show Act.put _ (some 23) _ = _
    simp only [Act.put, List.setIfInBounds_toArray, List.set_cons_zero, List.set_cons_succ, i64_w, i32_w]
    rfl
   refine pure_ (i := 3) (N := some 24) (v := ?_) (a' := ?_) #[true, true, true, true, true, true, true, true, true, false, false] rfl rfl (any_of HT_.out (by kernel_rfl)) (fun _ _ _ h => h) (Or.inl ⟨by rfl, ?_⟩) ?_ ?_
   rotate_left
   ·intro w'
    go_simp
    with_reducible rfl
   rotate_left
   ·exact mP
   refine last_ (i := 9) (N := none) #[true, true, true, true, true, true, true, true, true, true, false] rfl rfl (one_of HT_.out (by kernel_rfl)) (by decide) (fun K hK => ?_)
   have hs13 : w11.cell? ⟨gb636, 0, none⟩ = some (.slice A0_0 l0_0.length c0_0) := (blk_cell BK636.out 0).trans rfl
   have hfs13 := blk_frozen BK636.out 0
   refine skip_ (w1 := ?_) (by rfl) rfl ?_ ?_
   rotate_left
   ·go_simp
    rfl
   refine hK.out _ _ ?_
   clear hK K
   refine pure_ (i := 10) (N := some 2) (v := ?_) (a' := ?_) #[true, true, true, true, true, true, true, true, true, true, true] rfl rfl (any_of HT_.out (by kernel_rfl)) (fun _ _ _ h => h) (Or.inl ⟨by rfl, ?_⟩) ?_ ?_
   rotate_left
   ·intro w'
    go_simp
    with_reducible rfl
   rotate_left
   ·exact mP
   refine done_ (done_of HT_.out (by kernel_rfl)) ?_
   try go_wp2_with (first | ((with_reducible refine gate_callee (f := 10) rfl ?_); refine goesL_ (some 31) rfl rfl Try.func10 (by kernel_rfl) rfl #[.slice A1 l1.length c1, .int .i64 64] rfl mS ?_; (with_reducible refine (foghornlaw04_few.calls k _ _ l1 64 t640 _ ?side1 ?side2 A8.out).mono ?_); (case side1 => exact Kd.C_below HR1.out (mD1 GE636.out)); (case side2 => exact HC1.out); rintro e w14 ⟨v641, rfl, ho0, hb⟩; refine ⟨_, rfl, ?_⟩; have n0_ := aA (Kd.R_elder' (by (with_reducible repeat (first | apply Kd.R_alloc | apply Kd.R_drewN | apply Kd.R_drew)); exact (Kd.R_mono (rF 0 (Kd.R_types HO639.out BK636.out (by decide))) (fun _ h_ => h_.1))) (Kd.R_base ho0) hb); have n1_ := aA (Kd.R_lower (Kd.R_new' ho0 (Kd.R_lt (by (with_reducible repeat (first | apply Kd.R_alloc | apply Kd.R_drewN | apply Kd.R_drew)); exact (Kd.R_mono (rF 0 (Kd.R_types HO639.out BK636.out (by decide))) (fun _ h_ => h_.1))))) (below_size (mD1 GE636.out))); have n2_ := aA (blk_below (g := gb636) (o := .cells #[.slice Ao12 t637.length co12] 24 (0, 0)) (by (with_reducible repeat (first | refine blk_drewN ?_ _ | refine blk_drew ?_ | refine blk_alloc ?_ _)); have h_ := BK636.out; exact pK 0 (h_)) hb); have n3_ := aA (below_step (mD1 GE636.out) hb); clear HO639 BK636 HB; have HO639 := n0_; have HO642 := n1_; have BK636 := n2_; have HB := n3_; clear n0_ n1_ n2_ n3_; (try clear hb); (try clear hb2); (try clear hk); (try clear hi); (try clear ho0); obtain ⟨Ao15, co15, eo15⟩ := Kd.R_slice HO642.out; subst eo15))
   go_loopg [7, 33] k (fun kq v7 v33 w' => ∃ (x7_1 : List ByteArray) (x33_1 : Int), v33 = .int .i64 x33_1 ∧ Aside0 (foghornlaw04_StoreTurns.l0 kq (a2.extract 0 ((ji5) : Int).toNat) x7_1 t640 (t640.length : Int) x33_1 t637 = some r) ∧ Aside0 (kq ≤ k) ∧ Aside0 (Kd.R Kd.string 9 w' w.heap.size (fun k_ => some k_ ≠ ((.slice Ao15 t640.length co15) : Value).ownBlock ∧ some k_ ≠ ((.slice Ao12 t637.length co12) : Value).ownBlock) v7 x7_1) ∧ Aside0 (Kd.R Kd.string 9 w' w.heap.size (fun k_ => some k_ ≠ (v7 : Value).ownBlock ∧ some k_ ≠ ((.slice Ao12 t637.length co12) : Value).ownBlock) (.slice Ao15 t640.length co15) t640) ∧ Aside0 (Kd.R Kd.string 9 w' w.heap.size (fun k_ => some k_ ≠ (v7 : Value).ownBlock ∧ some k_ ≠ ((.slice Ao15 t640.length co15) : Value).ownBlock) (.slice Ao12 t637.length co12) t637) ∧ Aside0 (w'.heap[gb636]? = some (.cells #[(.slice Ao12 t637.length co12)] 24 (0, 0))) ∧ Aside0 (Below w.heap.size w w'))
   case atStart => exact ⟨(([] : List ByteArray)), (0), (by first | rfl | (simp; done) | (simp [*]; done)), H', ⟨Nat.le_refl _⟩, ⟨by first | exact Kd.R_nil _ _ _ _ _ | exact Kd.N_nil _ _ _ _ _ | exact Kd.V_nil _ _ _ _ _ | exact Kd.Q_nil _ _ _ _ _ | exact Kd.S_nil _ _ _ _ _⟩, ⟨by (with_reducible repeat (first | apply Kd.R_alloc | apply Kd.R_drewN | apply Kd.R_drew)); exact Kd.R_mono HO642.out (fun _ hk => ⟨(by simp [Value.ownBlock]), hk.2⟩)⟩, ⟨by (with_reducible repeat (first | apply Kd.R_alloc | apply Kd.R_drewN | apply Kd.R_drew)); exact Kd.R_mono HO639.out (fun _ hk => ⟨(by simp [Value.ownBlock]), hk.2⟩)⟩, ⟨by (with_reducible repeat (first | refine blk_drewN ?_ _ | refine blk_drew ?_ | refine blk_alloc ?_ _)); exact BK636.out⟩, ⟨by repeat (first | (with_reducible first | exact HB.out | apply below_alloc | apply pw_below_drewN | apply below_drew1 | refine below_set ?_ GE636.out) | exact HB.out)⟩⟩
   case round =>
    clear H'
    try clear c1
    try clear p2
    try clear c6
    try clear c6b0
    try clear c6b1
    try clear c7
    try clear c7b0
    try clear c7b1
    try clear c8
    try clear c10
    obtain ⟨x7_1, x33_1, rfl, HA, HK1, HO_7, HO_31, HO_637000, BK636, HB⟩ := hrel
    cases gk with
    | zero => exact absurd HA.out (by simp [foghornlaw04_StoreTurns.l0])
    | succ k1 =>
     have H := HA.out
     clear HA
     simp only [foghornlaw04_StoreTurns.l0] at H
     by_cases c16 : x33_1 < (t640.length : Int)
     ·rw [if_pos c16] at H
      have c16b0 : decide (x33_1 < (t640.length : Int)) = true := decide_eq_true c16
      clear c16
      by_cases c17 : 0 ≤ x33_1
      ·rw [if_pos c17] at H
       have c17b0 : decide (0 ≤ x33_1) = true := decide_eq_true c17
       clear c17
       by_cases c18 : x33_1 < (t640.length : Int)
       ·rw [if_pos c18] at H
        have c18b0 : decide (x33_1 < (t640.length : Int)) = true := decide_eq_true c18
        clear c18
        obtain ⟨ji19, hji19⟩ : ∃ j_ : Int, (mn ((rdOf ByteArray.empty t640 x33_1).size : Int) 96) = j_ := ⟨_, rfl⟩
        replace H : (if 0 ≤ (ji19) then (if (ji19) ≤ ((rdOf ByteArray.empty t640 x33_1).size : Int) then (if x7_1.length < 8796093022208 then (foghornlaw04_StoreTurns.l0 k1 (a2.extract 0 ((ji5) : Int).toNat) (x7_1 ++ [(rdOf ByteArray.empty t640 x33_1).extract 0 ((ji19) : Int).toNat]) t640 (t640.length : Int) (wrap64 (x33_1 + 1)) t637) else (none)) else (none)) else (none)) = some r := by first | (rw [hji19] at H; exact H) | (simp only [hji19] at H ⊢; exact H)
        have hji19_ : (if 96 < ((rdOf ByteArray.empty t640 x33_1).size : Int) then 96 else ((rdOf ByteArray.empty t640 x33_1).size : Int)) = ji19 := hji19
        by_cases c20 : 0 ≤ (ji19)
        ·rw [if_pos c20] at H
         have c20b0 := eq_true c20
         have c20b1 := decide_eq_true c20
         clear c20
         by_cases c21 : (ji19) ≤ ((rdOf ByteArray.empty t640 x33_1).size : Int)
         ·rw [if_pos c21] at H
          have c21b0 := eq_true c21
          have c21b1 := decide_eq_true c21
          clear c21
          by_cases c22 : x7_1.length < 8796093022208
          ·rw [if_pos c22] at H
           have LMc22 := aA c22
           clear c22
           obtain ⟨y644, hy644⟩ : ∃ y_ : List ByteArray, y_ = (x7_1 ++ [(rdOf ByteArray.empty t640 x33_1).extract 0 ((ji19) : Int).toNat]) := ⟨_, rfl⟩
           replace H : (foghornlaw04_StoreTurns.l0 k1 (a2.extract 0 ((ji5) : Int).toNat) y644 t640 (t640.length : Int) (wrap64 (x33_1 + 1)) t637) = some r := by first | (rw [hy644]; with_reducible exact H) | (have H2_ := (Option.bind_some _ _).symm.trans H; rw [hy644]; with_reducible exact H2_) | (have H2_ := (Option.bind_some _ _).symm.trans H; with_reducible exact H2_) | with_reducible exact H | (rw [hy644]; exact H) | exact H
           have Ny644 := aA hy644
           clear hy644
           have H' := aA H
           clear H
           have p643 : 0 ≤ (x33_1 : Int) := of_decide_eq_true (by first | (with_reducible assumption) | assumption)
           have q643 : x33_1 < (t640.length : Int) := of_decide_eq_true (by first | (with_reducible assumption) | assumption)
           obtain ⟨ad643, e643, hx643_0⟩ := Kd.at_string (Kd.R_reads' HO_31.out).2.2 x33_1 p643 q643
           cases e643
           replace p643 := eq_true p643
           replace q643 := eq_true q643
           go_wp2_with (first | ((with_reducible refine gate_builtin (b := .append) (xs := #[.tmp 37, .tmp 43]) rfl ?_); (try (refine gate_guard (by rfl) ?_; dsimp only)); at_builtin; refine Kd.R_append Kd.string (w0 := w) w.heap.size rfl (.tmp 37) (.tmp 43) 22 9 (.string ⟨#[]⟩) 16 rfl Try.underlying22 info9 rfl (by decide) (by omega) u7 x7_1 ((rdOf ByteArray.empty t640 x33_1).extract 0 ((ji19) : Int).toNat) [.string ((rdOf ByteArray.empty t640 x33_1).extract 0 ((ji19) : Int).toNat)] (fun k_ => some k_ ≠ (.slice (some ad643) t640.length co15 : Value).ownBlock ∧ some k_ ≠ (.slice Ao12 t637.length co12 : Value).ownBlock) (fun _ => False) rfl rfl ?aP (fun _ hk => hk.elim) ?aF ?aO ?aB ?aS ?aL ?_; (case aP => exact rfl); (case aB => exact (mD1 GE636.out)); (case aF => exact (fun k_ hk => ⟨Kd.fresh' (Kd.R_lt (mR HO_31.out)) k_ hk, Kd.fresh' (Kd.R_lt (mR HO_637000.out)) k_ hk⟩)); (case aO => exact (mR HO_7.out)); (case aS => exact (below_size (mD1 GE636.out))); (case aL => have := LMc22.out; omega); intro v645 w23 ho hb hg hat; rw [← Ny644.out] at ho; have n0_ := aA (Kd.R_after (ok := (fun k_ => some k_ ≠ (.slice Ao12 t637.length co12 : Value).ownBlock)) (by (with_reducible repeat (first | apply Kd.R_alloc | apply Kd.R_drewN | apply Kd.R_drew)); exact Kd.R_mono HO_31.out (fun _ hk => ⟨hk.2, hk.1⟩)) hg hat); have n1_ := aA (Kd.R_after (ok := (fun k_ => some k_ ≠ (.slice (some ad643) t640.length co15 : Value).ownBlock)) (by (with_reducible repeat (first | apply Kd.R_alloc | apply Kd.R_drewN | apply Kd.R_drew)); exact Kd.R_mono HO_637000.out (fun _ hk => ⟨hk.2, hk.1⟩)) hg hat); have n2_ := aA (blk_grown (g := gb636) (o := .cells #[.slice Ao12 t637.length co12] 24 (0, 0)) (mK BK636.out) hg (Kd.R_ne HO_7.out BK636.out (by decide))); have n3_ := aA (hb); have n4_ := aA (ho); clear HO_31 HO_637000 BK636 HB HO_7; have HO_31 := n0_; have HO_637000 := n1_; have BK636 := n2_; have HB := n3_; have HO646 := n4_; clear n0_ n1_ n2_ n3_ n4_ ho hb hg hat))
           go_roundg k1
           case measure => have := HK1.out; omega
           case rel => exact ⟨(y644), (wrap64 (x33_1 + 1)), (by first | rfl | (simp; done) | (simp [*]; done)), H', ⟨by have := HK1.out; omega⟩, ⟨by (with_reducible repeat (first | apply Kd.R_alloc | apply Kd.R_drewN | apply Kd.R_drew)); exact HO646.out⟩, ⟨by (with_reducible repeat (first | apply Kd.R_alloc | apply Kd.R_drewN | apply Kd.R_drew)); exact Kd.R_mono HO_31.out (fun _ hk => ⟨hk.2, hk.1⟩)⟩, ⟨by (with_reducible repeat (first | apply Kd.R_alloc | apply Kd.R_drewN | apply Kd.R_drew)); exact Kd.R_mono HO_637000.out (fun _ hk => ⟨hk.2, hk.1⟩)⟩, ⟨by (with_reducible repeat (first | refine blk_drewN ?_ _ | refine blk_drew ?_ | refine blk_alloc ?_ _)); exact BK636.out⟩, ⟨by repeat (first | (with_reducible first | exact HB.out | apply below_alloc | apply pw_below_drewN | apply below_drew1 | refine below_set ?_ GE636.out) | exact HB.out)⟩⟩
          ·rw [if_neg c22] at H
           exact absurd H (by simp)
         ·rw [if_neg c21] at H
          exact absurd H (by simp)
        ·rw [if_neg c20] at H
         exact absurd H (by simp)
       ·rw [if_neg c18] at H
        exact absurd H (by simp)
      ·rw [if_neg c17] at H
       exact absurd H (by simp)
     ·rw [if_neg c16] at H
      have c16b0 : decide (x33_1 < (t640.length : Int)) = false := decide_eq_false c16
      clear c16
      replace H := Option.bind_eq_some_iff.mp H
      obtain ⟨⟨t647, t650, t651, t652, t653, t654, t657⟩, A240, H⟩ := H
      have A24 := aA A240
      clear A240
      by_cases c25 : t657 = 0
      ·rw [if_pos c25] at H
       have c25b0 : (t657 == 0) = true := beq_iff_eq.mpr c25
       have c25b1 : (t657 != 0) = false := bne_eq_false_iff_eq.mpr c25
       clear c25
       replace H := Option.bind_eq_some_iff.mp H
       obtain ⟨⟨t660, t663, t664, t665, t666, t667⟩, A260, H⟩ := H
       have A26 := aA A260
       clear A260
       by_cases c27 : t667 = 0
       ·rw [if_pos c27] at H
        have c27b0 : (t667 == 0) = true := beq_iff_eq.mpr c27
        have c27b1 : (t667 != 0) = false := bne_eq_false_iff_eq.mpr c27
        clear c27
        have HC28 := aA H
        clear H
        have hcz29_0 : wr.cell? ⟨gb636, 0, none⟩ = some (.slice Ao12 t637.length co12) := (blk_cell BK636.out 0).trans rfl
        have hfz29_0 := blk_frozen BK636.out 0
        go_upto_region 15 with (first | ((with_reducible refine gate_callee (f := 12) rfl ?_); refine goesL_ (some 48) rfl rfl Try.func12 (by kernel_rfl) rfl #[.agg #[.slice Ao12 t637.length co12]] rfl mS ?_; (with_reducible refine (store_Boot.calls k1 (fun k_ => some k_ = (.slice Ao12 t637.length co12 : Value).ownBlock) _ _ t637 t647 t650 t651 t652 t653 t654 t657 _ ?side1 A24.out).mono ?_); (case side1 => exact Kd.R_V (Kd.R_tight rfl (Kd.R_types (HO_637000.out) BK636.out (by decide)))); rintro e w30 ⟨v648, v655, rfl, ho0, ho1, hb⟩; refine ⟨_, rfl, ?_⟩; have n0_ := aA (Kd.R_elder' (mR HO_7.out) (Kd.R_base ho1) hb); have n1_ := aA (Kd.R_elder' (mR HO_31.out) (Kd.R_base ho1) hb); have n2_ := aA (Kd.R_elder' (mR HO_637000.out) (Kd.R_base ho1) hb); have n3_ := aA (Kd.V_lower (Kd.V_mono (ok' := fun k_ => some k_ ≠ (v655 : Value).ownBlock ∧ some k_ ≠ (u7 : Value).ownBlock ∧ some k_ ≠ (.slice Ao15 t640.length co15 : Value).ownBlock ∧ k_ ≠ gb636) ho0 (fun k_ hk_ => ⟨hk_.2, Or.elim hk_.1 (fun hs_ => ((Kd.R_types (HO_637000.out) BK636.out (by decide)).1 k_ hs_.symm).1.1) (fun hn_ => (Kd.fresh' (Kd.R_lt (mR HO_7.out)) k_ hn_)), Or.elim hk_.1 (fun hs_ => ((Kd.R_types (HO_637000.out) BK636.out (by decide)).1 k_ hs_.symm).1.2) (fun hn_ => (Kd.fresh' (Kd.R_lt (mR HO_31.out)) k_ hn_)), Or.elim hk_.1 (fun hs_ => ((Kd.R_types (HO_637000.out) BK636.out (by decide)).1 k_ hs_.symm).2) (fun hn_ => (Kd.freshB (g := gb636) (o := .cells #[.slice Ao12 t637.length co12] 24 (0, 0)) (mK BK636.out) k_ hn_))⟩)) (below_size (mD1 GE636.out))); have n4_ := aA (Kd.R_lower (Kd.R_new' (Kd.R_new' (Kd.R_new' (Kd.R_mono (ok' := fun k_ => True) ho1 (fun _ hk_ => trivial)) (Kd.R_lt (mR HO_7.out))) (Kd.R_lt (mR HO_31.out))) (Kd.R_lt (mR HO_637000.out))) (below_size (mD1 GE636.out))); have n5_ := aA (bB BK636.out hb); have n6_ := aA (below_step (mD1 GE636.out) hb); clear HO_7 HO_31 HO_637000 BK636 HB; have HO_7 := n0_; have HO_31 := n1_; have HO_637000 := n2_; have HO649 := n3_; have HO656 := n4_; have BK636 := n5_; have HB := n6_; clear n0_ n1_ n2_ n3_ n4_ n5_ n6_; (try clear hb); (try clear hb2); (try clear hk); (try clear hi); (try clear ho0); (try clear ho1)) | ((with_reducible refine gate_dst (N := 10) rfl ?_); (try (refine gate_guard (by rfl) ?_; dsimp only)); refine box_event ?hg (N := 10) ?hd (cs := #[.slice none 0 0, .int .i64 0, .int .i64 0, .int .i64 0, .bool false]) (t := 26) ?hr ?_; (case hd => rfl); (case hg => rfl); (case hr => first | (go_simp; done) | (go_simp; rfl)); intro gb658 hg w31 hbox hb; have n0_ := aA (Kd.R_below (mR HO_7.out) hb); have n1_ := aA (Kd.R_below (mR HO_31.out) hb); have n2_ := aA (Kd.R_below (mR HO_637000.out) hb); have n3_ := aA (Kd.V_below (Kd.V_elderB (by (with_reducible repeat (first | apply Kd.V_alloc | apply Kd.V_drewN | apply Kd.V_drew)); exact HO649.out) gb658 (Nat.le_of_eq hg.symm)) hb); have n4_ := aA (Kd.R_below (mR HO656.out) hb); have n5_ := aA (bB BK636.out hb); have n6_ := aA (below_step (mD1 GE636.out) hb); have n7_ := aA (hbox); have n8_ := aA ((bZ hg (mD1 GE636.out))); have n9_ := aA ((bZ hg (mD1 GE636.out))); have n10_ := aA ((bL hg BK636.out)); have n11_ := aA ((bG hg BK636.out)); clear HO_7 HO_31 HO_637000 HO649 HO656 BK636 HB; have HO_7 := n0_; have HO_31 := n1_; have HO_637000 := n2_; have HO649 := n3_; have HO656 := n4_; have BK636 := n5_; have HB := n6_; have BK658 := n7_; have GW658 := n8_; have GE658 := n9_; have NB636_658 := n10_; have NB658_636 := n11_; clear n0_ n1_ n2_ n3_ n4_ n5_ n6_ n7_ n8_ n9_ n10_ n11_ hb hbox hg; obtain ⟨Ao32, co32, eo32⟩ := Kd.V_slice HO649.out; subst eo32; have hnb33 := NB658_636.out; have hnc33 := NB636_658.out; obtain ⟨hcz34_0, hcz34_1, hcz34_2, hcz34_3, hcz34_4⟩ := bC5 BK658.out; obtain ⟨hfz34_0, hfz34_1, hfz34_2, hfz34_3, hfz34_4⟩ := bF5 BK658.out) | ((with_reducible refine gate_store (t := 26) (p := 10) rfl ?_); refine store_event (t := 26) (p := 10) (v := ?vo_w35) (w1 := (((((w31.setCell ⟨gb658, 0, none⟩ (.slice Ao32 t647.length co32)).setCell ⟨gb658, 1, none⟩ (.int .i64 t650)).setCell ⟨gb658, 2, none⟩ (.int .i64 t651)).setCell ⟨gb658, 3, none⟩ (.int .i64 t652)).setCell ⟨gb658, 4, none⟩ (.bool t653))) ?hg ?ho ?hn ?hr ?_; (case ho => rfl); (case hg => rfl); (case hn => rfl); (case hr => first | (go_simp; done) | (go_simp; rfl)); intro w35 hw; have n0_ : Aside0 (Kd.R Kd.string 9 w35 w.heap.size (fun k_ => some k_ ≠ (.slice Ao15 t640.length co15 : Value).ownBlock ∧ some k_ ≠ (.slice Ao12 t637.length co12 : Value).ownBlock ∧ some k_ ≠ (v655 : Value).ownBlock) u7 x7_1) := ⟨(by rw [hw]; exact (by (with_reducible repeat (first | apply Kd.R_alloc | apply Kd.R_drewN | apply Kd.R_drew)); exact Kd.R_mono (rF 4 (rF 3 (rF 2 (rF 1 (rF 0 (Kd.R_types HO_7.out BK658.out (by decide))))))) (fun _ hk => ⟨hk.1.1.1, ⟨hk.1.1.2, hk.1.2⟩⟩)))⟩; have n1_ : Aside0 (Kd.R Kd.string 9 w35 w.heap.size (fun k_ => some k_ ≠ (u7 : Value).ownBlock ∧ some k_ ≠ (.slice Ao12 t637.length co12 : Value).ownBlock ∧ some k_ ≠ (v655 : Value).ownBlock) (.slice Ao15 t640.length co15) t640) := ⟨(by rw [hw]; exact (by (with_reducible repeat (first | apply Kd.R_alloc | apply Kd.R_drewN | apply Kd.R_drew)); exact Kd.R_mono (rF 4 (rF 3 (rF 2 (rF 1 (rF 0 (Kd.R_types HO_31.out BK658.out (by decide))))))) (fun _ hk => ⟨hk.1.1.1, ⟨hk.1.1.2, hk.1.2⟩⟩)))⟩; have n2_ : Aside0 (Kd.R Kd.string 9 w35 w.heap.size (fun k_ => some k_ ≠ (u7 : Value).ownBlock ∧ some k_ ≠ (.slice Ao15 t640.length co15 : Value).ownBlock ∧ some k_ ≠ (v655 : Value).ownBlock) (.slice Ao12 t637.length co12) t637) := ⟨(by rw [hw]; exact (by (with_reducible repeat (first | apply Kd.R_alloc | apply Kd.R_drewN | apply Kd.R_drew)); exact Kd.R_mono (rF 4 (rF 3 (rF 2 (rF 1 (rF 0 (Kd.R_types HO_637000.out BK658.out (by decide))))))) (fun _ hk => ⟨hk.1.1.1, ⟨hk.1.1.2, hk.1.2⟩⟩)))⟩; have n3_ : Aside0 (Kd.V Kd.string 9 w35 w.heap.size (fun k_ => some k_ ≠ (u7 : Value).ownBlock ∧ some k_ ≠ (.slice Ao15 t640.length co15 : Value).ownBlock ∧ some k_ ≠ (v655 : Value).ownBlock ∧ k_ ≠ gb636 ∧ k_ ≠ gb658) (.slice Ao32 t647.length co32) t647) := ⟨(by rw [hw]; exact (by (with_reducible repeat (first | apply Kd.V_alloc | apply Kd.V_drewN | apply Kd.V_drew)); exact Kd.V_mono (Kd.V_far (p := ⟨gb658, 4, none⟩) (Kd.V_far (p := ⟨gb658, 3, none⟩) (Kd.V_far (p := ⟨gb658, 2, none⟩) (Kd.V_far (p := ⟨gb658, 1, none⟩) (Kd.V_far (p := ⟨gb658, 0, none⟩) (Kd.V_mono HO649.out (fun k_ hk => (⟨hk, hk.2⟩ : _ ∧ k_ ≠ gb658))) (fun _ hk => hk.2) (.slice Ao32 t647.length co32)) (fun _ hk => hk.2) (.int .i64 t650)) (fun _ hk => hk.2) (.int .i64 t651)) (fun _ hk => hk.2) (.int .i64 t652)) (fun _ hk => hk.2) (.bool t653)) (fun _ hk => ⟨hk.1.1.2.1, ⟨hk.1.1.2.2.1, ⟨hk.1.1.1, ⟨hk.1.1.2.2.2, hk.1.2⟩⟩⟩⟩)))⟩; have n4_ : Aside0 (Kd.R Kd.string 9 w35 w.heap.size (fun k_ => some k_ ≠ (u7 : Value).ownBlock ∧ some k_ ≠ (.slice Ao15 t640.length co15 : Value).ownBlock ∧ some k_ ≠ (.slice Ao12 t637.length co12 : Value).ownBlock) v655 t654) := ⟨(by rw [hw]; exact (by (with_reducible repeat (first | apply Kd.R_alloc | apply Kd.R_drewN | apply Kd.R_drew)); exact Kd.R_mono (rF 4 (rF 3 (rF 2 (rF 1 (rF 0 (Kd.R_types HO656.out BK658.out (by decide))))))) (fun _ hk => ⟨hk.1.1.1.2, ⟨hk.1.1.2, hk.1.2⟩⟩)))⟩; have n5_ : Aside0 (w35.heap[gb636]? = some (.cells #[.slice Ao12 t637.length co12] 24 (0, 0))) := ⟨(by rw [hw]; exact (by (with_reducible repeat (first | refine blk_drewN ?_ _ | refine blk_drew ?_ | refine blk_alloc ?_ _)); refine blk_far ?_ NB636_658.out _; (with_reducible repeat (first | refine blk_drewN ?_ _ | refine blk_drew ?_ | refine blk_alloc ?_ _)); refine blk_far ?_ NB636_658.out _; (with_reducible repeat (first | refine blk_drewN ?_ _ | refine blk_drew ?_ | refine blk_alloc ?_ _)); refine blk_far ?_ NB636_658.out _; (with_reducible repeat (first | refine blk_drewN ?_ _ | refine blk_drew ?_ | refine blk_alloc ?_ _)); refine blk_far ?_ NB636_658.out _; (with_reducible repeat (first | refine blk_drewN ?_ _ | refine blk_drew ?_ | refine blk_alloc ?_ _)); refine blk_far ?_ NB636_658.out _; (with_reducible repeat (first | refine blk_drewN ?_ _ | refine blk_drew ?_ | refine blk_alloc ?_ _)); exact BK636.out))⟩; have n6_ : Aside0 (w35.heap[gb658]? = some (.cells #[.slice Ao32 t647.length co32, .int .i64 t650, .int .i64 t651, .int .i64 t652, .bool t653] 26 (0, 0))) := ⟨(by rw [hw]; exact (by (with_reducible repeat (first | refine blk_drewN ?_ _ | refine blk_drew ?_ | refine blk_alloc ?_ _)); have h_ := BK658.out; exact pK 4 (pK 3 (pK 2 (pK 1 (pK 0 (h_)))))))⟩; have n7_ : Aside0 (Below w.heap.size w w35) := ⟨(by rw [hw]; exact (mD2 GE636.out GE658.out))⟩; clear hw HO_7 HO_31 HO_637000 HO649 HO656 BK636 BK658 HB; have HO_7 := n0_; have HO_31 := n1_; have HO_637000 := n2_; have HO649 := n3_; have HO656 := n4_; have BK636 := n5_; have BK658 := n6_; have HB := n7_; clear n0_ n1_ n2_ n3_ n4_ n5_ n6_ n7_; obtain ⟨hcz36_0, hcz36_1, hcz36_2, hcz36_3, hcz36_4⟩ := bC5 BK658.out; obtain ⟨hfz36_0, hfz36_1, hfz36_2, hfz36_3, hfz36_4⟩ := bF5 BK658.out; obtain ⟨Ao37, co37, eo37⟩ := Kd.R_slice HO_7.out; subst eo37) | ((with_reducible refine gate_callee (f := 22) rfl ?_); refine goesL_ (some 62) rfl rfl Try.func22 (by kernel_rfl) rfl #[.agg #[.slice Ao32 t647.length co32, .int .i64 t650, .int .i64 t651, .int .i64 t652, .bool t653], .slice Ao37 x7_1.length co37, .slice none 0 0] rfl mS ?_; (refine (store_Turn.calls (fun k_ => (some k_ ≠ (.slice Ao37 x7_1.length co37 : Value).ownBlock ∧ (some k_ ≠ (.slice Ao15 t640.length co15 : Value).ownBlock ∧ (some k_ ≠ (v655 : Value).ownBlock ∧ (k_ ≠ gb636 ∧ k_ ≠ gb658))))) _ _ t647 t650 t651 t652 t653 _ _ x7_1 _ _ ([] : List (S45)) t660 t663 t664 t665 t666 t667 _ ?side1 ?side2 ?side3 ?side4 ?side5 A26.out).mono ?_); (case side1 => exact HO649.out); (case side2 => exact mC ((Kd.R_reads' HO_7.out).2.2)); (case side3 => exact (Kd.R_reads' HO_7.out).2.1); (case side4 => exact Kd.C_nil _ _); (case side5 => exact Nat.le_refl _); rintro e w38 ⟨v661, rfl, ho0, hb⟩; refine ⟨_, rfl, ?_⟩; have n0_ := aA (Kd.R_below (mR HO_7.out) hb); have n1_ := aA (Kd.R_below (mR HO_31.out) hb); have n2_ := aA (Kd.R_below (mR HO_637000.out) hb); have n3_ := aA (Kd.V_below (by (with_reducible repeat (first | apply Kd.V_alloc | apply Kd.V_drewN | apply Kd.V_drew)); exact HO649.out) hb); have n4_ := aA (Kd.R_below (mR HO656.out) hb); have n5_ := aA (Kd.V_lower (Kd.V_mono (ok' := fun k_ => some k_ ≠ (.slice Ao37 x7_1.length co37 : Value).ownBlock ∧ some k_ ≠ (.slice Ao15 t640.length co15 : Value).ownBlock ∧ some k_ ≠ (v655 : Value).ownBlock ∧ k_ ≠ gb636 ∧ k_ ≠ gb658) ho0 (fun k_ hk_ => ⟨Or.elim hk_ (fun hs_ => hs_.1) (fun hn_ => (Kd.fresh' (Kd.R_lt (mR HO_7.out)) k_ hn_)), Or.elim hk_ (fun hs_ => hs_.2.1) (fun hn_ => (Kd.fresh' (Kd.R_lt (mR HO_31.out)) k_ hn_)), Or.elim hk_ (fun hs_ => hs_.2.2.1) (fun hn_ => (Kd.fresh' (Kd.R_lt (mR HO656.out)) k_ hn_)), Or.elim hk_ (fun hs_ => hs_.2.2.2.1) (fun hn_ => (Kd.freshB (g := gb636) (o := .cells #[.slice Ao12 t637.length co12] 24 (0, 0)) (mK BK636.out) k_ hn_)), Or.elim hk_ (fun hs_ => hs_.2.2.2.2) (fun hn_ => (Kd.freshB (g := gb658) (o := .cells #[.slice Ao32 t647.length co32, .int .i64 t650, .int .i64 t651, .int .i64 t652, .bool t653] 26 (0, 0)) (mK BK658.out) k_ hn_))⟩)) (below_size (mD2 GE636.out GE658.out))); have n6_ := aA (bB BK636.out hb); have n7_ := aA (bB BK658.out hb); have n8_ := aA (below_step (mD2 GE636.out GE658.out) hb); clear HO_7 HO_31 HO_637000 HO649 HO656 BK636 BK658 HB; have HO_7 := n0_; have HO_31 := n1_; have HO_637000 := n2_; have HO649 := n3_; have HO656 := n4_; have HO662 := n5_; have BK636 := n6_; have BK658 := n7_; have HB := n8_; clear n0_ n1_ n2_ n3_ n4_ n5_ n6_ n7_ n8_; (try clear hb); (try clear hb2); (try clear hk); (try clear hi); (try clear ho0)) | ((with_reducible refine gate_dst (N := 13) rfl ?_); (try (refine gate_guard (by rfl) ?_; dsimp only)); refine box_event ?hg (N := 13) ?hd (cs := #[.slice none 0 0, .int .i64 0, .int .i64 0, .int .i64 0, .bool false]) (t := 26) ?hr ?_; (case hd => rfl); (case hg => rfl); (case hr => first | (go_simp; done) | (go_simp; rfl)); intro gb668 hg w39 hbox hb; have n0_ := aA (Kd.R_below (mR HO_7.out) hb); have n1_ := aA (Kd.R_below (mR HO_31.out) hb); have n2_ := aA (Kd.R_below (mR HO_637000.out) hb); have n3_ := aA (Kd.V_below (Kd.V_elderB (by (with_reducible repeat (first | apply Kd.V_alloc | apply Kd.V_drewN | apply Kd.V_drew)); exact HO649.out) gb668 (Nat.le_of_eq hg.symm)) hb); have n4_ := aA (Kd.R_below (mR HO656.out) hb); have n5_ := aA (Kd.V_below (Kd.V_elderB (by (with_reducible repeat (first | apply Kd.V_alloc | apply Kd.V_drewN | apply Kd.V_drew)); exact HO662.out) gb668 (Nat.le_of_eq hg.symm)) hb); have n6_ := aA (bB BK636.out hb); have n7_ := aA (bB BK658.out hb); have n8_ := aA (below_step (mD2 GE636.out GE658.out) hb); have n9_ := aA (hbox); have n10_ := aA ((bZ hg (mD2 GE636.out GE658.out))); have n11_ := aA ((bZ hg (mD2 GE636.out GE658.out))); have n12_ := aA ((bL hg BK636.out)); have n13_ := aA ((bG hg BK636.out)); have n14_ := aA ((bL hg BK658.out)); have n15_ := aA ((bG hg BK658.out)); clear HO_7 HO_31 HO_637000 HO649 HO656 HO662 BK636 BK658 HB; have HO_7 := n0_; have HO_31 := n1_; have HO_637000 := n2_; have HO649 := n3_; have HO656 := n4_; have HO662 := n5_; have BK636 := n6_; have BK658 := n7_; have HB := n8_; have BK668 := n9_; have GW668 := n10_; have GE668 := n11_; have NB636_668 := n12_; have NB668_636 := n13_; have NB658_668 := n14_; have NB668_658 := n15_; clear n0_ n1_ n2_ n3_ n4_ n5_ n6_ n7_ n8_ n9_ n10_ n11_ n12_ n13_ n14_ n15_ hb hbox hg; obtain ⟨Ao40, co40, eo40⟩ := Kd.V_slice HO662.out; subst eo40; have hnb41 := NB668_636.out; have hnc41 := NB636_668.out; have hnb42 := NB668_658.out; have hnc42 := NB658_668.out; obtain ⟨hcz43_0, hcz43_1, hcz43_2, hcz43_3, hcz43_4⟩ := bC5 BK668.out; obtain ⟨hfz43_0, hfz43_1, hfz43_2, hfz43_3, hfz43_4⟩ := bF5 BK668.out; have hcz44_0 : w39.cell? ⟨gb636, 0, none⟩ = some (.slice Ao12 t637.length co12) := (blk_cell BK636.out 0).trans rfl; have hfz44_0 := blk_frozen BK636.out 0))
        (try simp only [Act.put, List.setIfInBounds_toArray, List.set_cons_zero, List.set_cons_succ])
        go_cut [124] (fun v124 wc => ∃ (kq : Nat) (x124_27 : Bool), v124 = .bool x124_27 ∧ Aside0 (foghornlaw04_StoreTurns.j1 kq (a2.extract 0 ((ji5) : Int).toNat) x7_1 (wrap64 ((wrap64 ((t637.length : Int) / 2)) - 1)) x124_27 t660 t663 t664 t665 t666 = some r) ∧ Aside0 (kq ≤ k1) ∧ Aside0 (Kd.R Kd.string 9 wc w.heap.size (fun k_ => some k_ ≠ ((.slice Ao12 t637.length co12) : Value).ownBlock) (.slice Ao37 x7_1.length co37) x7_1) ∧ Aside0 (Kd.R Kd.string 9 wc w.heap.size (fun k_ => some k_ ≠ ((.slice Ao37 x7_1.length co37) : Value).ownBlock) (.slice Ao12 t637.length co12) t637) ∧ Aside0 (Kd.V Kd.string 9 wc w.heap.size (fun k_ => some k_ ≠ ((.slice Ao37 x7_1.length co37) : Value).ownBlock ∧ k_ ≠ gb636 ∧ k_ ≠ gb658 ∧ k_ ≠ gb668) (.slice Ao32 t647.length co32) t647) ∧ Aside0 (Kd.V Kd.string 9 wc w.heap.size (fun k_ => some k_ ≠ ((.slice Ao37 x7_1.length co37) : Value).ownBlock ∧ k_ ≠ gb636 ∧ k_ ≠ gb658 ∧ k_ ≠ gb668) (.slice Ao40 t660.length co40) t660) ∧ Aside0 (wc.heap[gb636]? = some (.cells #[(.slice Ao12 t637.length co12)] 24 (0, 0))) ∧ Aside0 (wc.heap[gb658]? = some (.cells #[(.slice Ao32 t647.length co32), .int .i64 t650, .int .i64 t651, .int .i64 t652, .bool t653] 26 (0, 0))) ∧ Aside0 (wc.heap[gb668]? = some (.cells #[(.slice Ao40 t660.length co40), .int .i64 t663, .int .i64 t664, .int .i64 t665, .bool t666] 26 (0, 0))) ∧ Aside0 (Below w.heap.size w wc))
        case first =>
         have H := HC28.out
         clear HC28
         by_cases c45 : t663 ≤ t652
         ·rw [if_pos c45] at H
          have c45b0 : decide (t663 ≤ t652) = true := decide_eq_true c45
          clear c45
          (first | rw [c45b0] | (simp only [i64_w, i32_w]; rw [c45b0]) | skip)
          have H' := aA H
          clear H
          have hnb46 := NB668_636.out
          have hnc46 := NB636_668.out
          have hnb47 := NB668_658.out
          have hnc47 := NB658_668.out
          obtain ⟨hcz48_0, hcz48_1, hcz48_2, hcz48_3, hcz48_4⟩ := bC5 BK668.out
          obtain ⟨hfz48_0, hfz48_1, hfz48_2, hfz48_3, hfz48_4⟩ := bF5 BK668.out
          have hnb49 := NB658_636.out
          have hnc49 := NB636_658.out
          obtain ⟨hcz50_0, hcz50_1, hcz50_2, hcz50_3, hcz50_4⟩ := bC5 BK658.out
          obtain ⟨hfz50_0, hfz50_1, hfz50_2, hfz50_3, hfz50_4⟩ := bF5 BK658.out
          go_wp2
          go_meet
          case rel => exact ⟨_, (true), (by first | rfl | (simp; done) | (simp [*]; done)), H', ⟨by have := HK1.out; first | omega | exact Nat.le_refl _⟩, ⟨by (with_reducible repeat (first | apply Kd.R_alloc | apply Kd.R_drewN | apply Kd.R_drew)); exact Kd.R_mono (rF 4 (rF 3 (rF 2 (rF 1 (rF 0 (Kd.R_types HO_7.out BK668.out (by decide))))))) (fun _ hk => hk.1.2.1)⟩, ⟨by (with_reducible repeat (first | apply Kd.R_alloc | apply Kd.R_drewN | apply Kd.R_drew)); exact Kd.R_mono (rF 4 (rF 3 (rF 2 (rF 1 (rF 0 (Kd.R_types HO_637000.out BK668.out (by decide))))))) (fun _ hk => hk.1.1)⟩, ⟨by (with_reducible repeat (first | apply Kd.V_alloc | apply Kd.V_drewN | apply Kd.V_drew)); exact Kd.V_mono (Kd.V_far (p := ⟨gb668, 4, none⟩) (Kd.V_far (p := ⟨gb668, 3, none⟩) (Kd.V_far (p := ⟨gb668, 2, none⟩) (Kd.V_far (p := ⟨gb668, 1, none⟩) (Kd.V_far (p := ⟨gb668, 0, none⟩) (Kd.V_mono HO649.out (fun k_ hk => (⟨hk, hk.2⟩ : _ ∧ k_ ≠ gb668))) (fun _ hk => hk.2) (.slice Ao40 t660.length co40)) (fun _ hk => hk.2) (.int .i64 t663)) (fun _ hk => hk.2) (.int .i64 t664)) (fun _ hk => hk.2) (.int .i64 t665)) (fun _ hk => hk.2) (.bool t666)) (fun _ hk => ⟨hk.1.1.1, ⟨hk.1.1.2.2.2.1, ⟨hk.1.1.2.2.2.2, hk.1.2⟩⟩⟩)⟩, ⟨by (with_reducible repeat (first | apply Kd.V_alloc | apply Kd.V_drewN | apply Kd.V_drew)); exact Kd.V_mono (Kd.V_far (p := ⟨gb668, 4, none⟩) (Kd.V_far (p := ⟨gb668, 3, none⟩) (Kd.V_far (p := ⟨gb668, 2, none⟩) (Kd.V_far (p := ⟨gb668, 1, none⟩) (Kd.V_far (p := ⟨gb668, 0, none⟩) (Kd.V_mono HO662.out (fun k_ hk => (⟨hk, hk.2⟩ : _ ∧ k_ ≠ gb668))) (fun _ hk => hk.2) (.slice Ao40 t660.length co40)) (fun _ hk => hk.2) (.int .i64 t663)) (fun _ hk => hk.2) (.int .i64 t664)) (fun _ hk => hk.2) (.int .i64 t665)) (fun _ hk => hk.2) (.bool t666)) (fun _ hk => ⟨hk.1.1.1, ⟨hk.1.1.2.2.2.1, ⟨hk.1.1.2.2.2.2, hk.1.2⟩⟩⟩)⟩, ⟨by (with_reducible repeat (first | refine blk_drewN ?_ _ | refine blk_drew ?_ | refine blk_alloc ?_ _)); refine blk_far ?_ NB636_668.out _; (with_reducible repeat (first | refine blk_drewN ?_ _ | refine blk_drew ?_ | refine blk_alloc ?_ _)); refine blk_far ?_ NB636_668.out _; (with_reducible repeat (first | refine blk_drewN ?_ _ | refine blk_drew ?_ | refine blk_alloc ?_ _)); refine blk_far ?_ NB636_668.out _; (with_reducible repeat (first | refine blk_drewN ?_ _ | refine blk_drew ?_ | refine blk_alloc ?_ _)); refine blk_far ?_ NB636_668.out _; (with_reducible repeat (first | refine blk_drewN ?_ _ | refine blk_drew ?_ | refine blk_alloc ?_ _)); refine blk_far ?_ NB636_668.out _; (with_reducible repeat (first | refine blk_drewN ?_ _ | refine blk_drew ?_ | refine blk_alloc ?_ _)); exact BK636.out⟩, ⟨by (with_reducible repeat (first | refine blk_drewN ?_ _ | refine blk_drew ?_ | refine blk_alloc ?_ _)); refine blk_far ?_ NB658_668.out _; (with_reducible repeat (first | refine blk_drewN ?_ _ | refine blk_drew ?_ | refine blk_alloc ?_ _)); refine blk_far ?_ NB658_668.out _; (with_reducible repeat (first | refine blk_drewN ?_ _ | refine blk_drew ?_ | refine blk_alloc ?_ _)); refine blk_far ?_ NB658_668.out _; (with_reducible repeat (first | refine blk_drewN ?_ _ | refine blk_drew ?_ | refine blk_alloc ?_ _)); refine blk_far ?_ NB658_668.out _; (with_reducible repeat (first | refine blk_drewN ?_ _ | refine blk_drew ?_ | refine blk_alloc ?_ _)); refine blk_far ?_ NB658_668.out _; (with_reducible repeat (first | refine blk_drewN ?_ _ | refine blk_drew ?_ | refine blk_alloc ?_ _)); exact BK658.out⟩, ⟨by (with_reducible repeat (first | refine blk_drewN ?_ _ | refine blk_drew ?_ | refine blk_alloc ?_ _)); refine blk_put (cs := #[.slice Ao40 t660.length co40, .int .i64 t663, .int .i64 t664, .int .i64 t665, .bool false]) ?_ 4 _ rfl; (with_reducible repeat (first | refine blk_drewN ?_ _ | refine blk_drew ?_ | refine blk_alloc ?_ _)); refine blk_put (cs := #[.slice Ao40 t660.length co40, .int .i64 t663, .int .i64 t664, .int .i64 0, .bool false]) ?_ 3 _ rfl; (with_reducible repeat (first | refine blk_drewN ?_ _ | refine blk_drew ?_ | refine blk_alloc ?_ _)); refine blk_put (cs := #[.slice Ao40 t660.length co40, .int .i64 t663, .int .i64 0, .int .i64 0, .bool false]) ?_ 2 _ rfl; (with_reducible repeat (first | refine blk_drewN ?_ _ | refine blk_drew ?_ | refine blk_alloc ?_ _)); refine blk_put (cs := #[.slice Ao40 t660.length co40, .int .i64 0, .int .i64 0, .int .i64 0, .bool false]) ?_ 1 _ rfl; (with_reducible repeat (first | refine blk_drewN ?_ _ | refine blk_drew ?_ | refine blk_alloc ?_ _)); refine blk_put (cs := #[.slice none 0 0, .int .i64 0, .int .i64 0, .int .i64 0, .bool false]) ?_ 0 _ rfl; (with_reducible repeat (first | refine blk_drewN ?_ _ | refine blk_drew ?_ | refine blk_alloc ?_ _)); exact BK668.out⟩, ⟨by repeat (first | (with_reducible first | exact HB.out | apply below_alloc | apply pw_below_drewN | apply below_drew1 | refine below_set ?_ GE636.out | refine below_set ?_ GE658.out | refine below_set ?_ GE668.out) | exact HB.out)⟩⟩
         ·rw [if_neg c45] at H
          have c45b0 : decide (t663 ≤ t652) = false := decide_eq_false c45
          clear c45
          (first | rw [c45b0] | (simp only [i64_w, i32_w]; rw [c45b0]) | skip)
          by_cases c51 : t663 > (wrap64 (t652 + 2))
          ·rw [if_pos c51] at H
           have c51b0 : decide ((wrap64 (t652 + 2)) < t663) = true := decide_eq_true c51
           clear c51
           have H' := aA H
           clear H
           have hnb52 := NB668_636.out
           have hnc52 := NB636_668.out
           have hnb53 := NB668_658.out
           have hnc53 := NB658_668.out
           obtain ⟨hcz54_0, hcz54_1, hcz54_2, hcz54_3, hcz54_4⟩ := bC5 BK668.out
           obtain ⟨hfz54_0, hfz54_1, hfz54_2, hfz54_3, hfz54_4⟩ := bF5 BK668.out
           have hnb55 := NB658_636.out
           have hnc55 := NB636_658.out
           obtain ⟨hcz56_0, hcz56_1, hcz56_2, hcz56_3, hcz56_4⟩ := bC5 BK658.out
           obtain ⟨hfz56_0, hfz56_1, hfz56_2, hfz56_3, hfz56_4⟩ := bF5 BK658.out
           go_wp2
           go_meet
           case rel => exact ⟨_, (true), (by first | rfl | (simp; done) | (simp [*]; done)), H', ⟨by have := HK1.out; first | omega | exact Nat.le_refl _⟩, ⟨by (with_reducible repeat (first | apply Kd.R_alloc | apply Kd.R_drewN | apply Kd.R_drew)); exact Kd.R_mono (rF 4 (rF 3 (rF 2 (rF 1 (rF 0 (Kd.R_types HO_7.out BK668.out (by decide))))))) (fun _ hk => hk.1.2.1)⟩, ⟨by (with_reducible repeat (first | apply Kd.R_alloc | apply Kd.R_drewN | apply Kd.R_drew)); exact Kd.R_mono (rF 4 (rF 3 (rF 2 (rF 1 (rF 0 (Kd.R_types HO_637000.out BK668.out (by decide))))))) (fun _ hk => hk.1.1)⟩, ⟨by (with_reducible repeat (first | apply Kd.V_alloc | apply Kd.V_drewN | apply Kd.V_drew)); exact Kd.V_mono (Kd.V_far (p := ⟨gb668, 4, none⟩) (Kd.V_far (p := ⟨gb668, 3, none⟩) (Kd.V_far (p := ⟨gb668, 2, none⟩) (Kd.V_far (p := ⟨gb668, 1, none⟩) (Kd.V_far (p := ⟨gb668, 0, none⟩) (Kd.V_mono HO649.out (fun k_ hk => (⟨hk, hk.2⟩ : _ ∧ k_ ≠ gb668))) (fun _ hk => hk.2) (.slice Ao40 t660.length co40)) (fun _ hk => hk.2) (.int .i64 t663)) (fun _ hk => hk.2) (.int .i64 t664)) (fun _ hk => hk.2) (.int .i64 t665)) (fun _ hk => hk.2) (.bool t666)) (fun _ hk => ⟨hk.1.1.1, ⟨hk.1.1.2.2.2.1, ⟨hk.1.1.2.2.2.2, hk.1.2⟩⟩⟩)⟩, ⟨by (with_reducible repeat (first | apply Kd.V_alloc | apply Kd.V_drewN | apply Kd.V_drew)); exact Kd.V_mono (Kd.V_far (p := ⟨gb668, 4, none⟩) (Kd.V_far (p := ⟨gb668, 3, none⟩) (Kd.V_far (p := ⟨gb668, 2, none⟩) (Kd.V_far (p := ⟨gb668, 1, none⟩) (Kd.V_far (p := ⟨gb668, 0, none⟩) (Kd.V_mono HO662.out (fun k_ hk => (⟨hk, hk.2⟩ : _ ∧ k_ ≠ gb668))) (fun _ hk => hk.2) (.slice Ao40 t660.length co40)) (fun _ hk => hk.2) (.int .i64 t663)) (fun _ hk => hk.2) (.int .i64 t664)) (fun _ hk => hk.2) (.int .i64 t665)) (fun _ hk => hk.2) (.bool t666)) (fun _ hk => ⟨hk.1.1.1, ⟨hk.1.1.2.2.2.1, ⟨hk.1.1.2.2.2.2, hk.1.2⟩⟩⟩)⟩, ⟨by (with_reducible repeat (first | refine blk_drewN ?_ _ | refine blk_drew ?_ | refine blk_alloc ?_ _)); refine blk_far ?_ NB636_668.out _; (with_reducible repeat (first | refine blk_drewN ?_ _ | refine blk_drew ?_ | refine blk_alloc ?_ _)); refine blk_far ?_ NB636_668.out _; (with_reducible repeat (first | refine blk_drewN ?_ _ | refine blk_drew ?_ | refine blk_alloc ?_ _)); refine blk_far ?_ NB636_668.out _; (with_reducible repeat (first | refine blk_drewN ?_ _ | refine blk_drew ?_ | refine blk_alloc ?_ _)); refine blk_far ?_ NB636_668.out _; (with_reducible repeat (first | refine blk_drewN ?_ _ | refine blk_drew ?_ | refine blk_alloc ?_ _)); refine blk_far ?_ NB636_668.out _; (with_reducible repeat (first | refine blk_drewN ?_ _ | refine blk_drew ?_ | refine blk_alloc ?_ _)); exact BK636.out⟩, ⟨by (with_reducible repeat (first | refine blk_drewN ?_ _ | refine blk_drew ?_ | refine blk_alloc ?_ _)); refine blk_far ?_ NB658_668.out _; (with_reducible repeat (first | refine blk_drewN ?_ _ | refine blk_drew ?_ | refine blk_alloc ?_ _)); refine blk_far ?_ NB658_668.out _; (with_reducible repeat (first | refine blk_drewN ?_ _ | refine blk_drew ?_ | refine blk_alloc ?_ _)); refine blk_far ?_ NB658_668.out _; (with_reducible repeat (first | refine blk_drewN ?_ _ | refine blk_drew ?_ | refine blk_alloc ?_ _)); refine blk_far ?_ NB658_668.out _; (with_reducible repeat (first | refine blk_drewN ?_ _ | refine blk_drew ?_ | refine blk_alloc ?_ _)); refine blk_far ?_ NB658_668.out _; (with_reducible repeat (first | refine blk_drewN ?_ _ | refine blk_drew ?_ | refine blk_alloc ?_ _)); exact BK658.out⟩, ⟨by (with_reducible repeat (first | refine blk_drewN ?_ _ | refine blk_drew ?_ | refine blk_alloc ?_ _)); refine blk_put (cs := #[.slice Ao40 t660.length co40, .int .i64 t663, .int .i64 t664, .int .i64 t665, .bool false]) ?_ 4 _ rfl; (with_reducible repeat (first | refine blk_drewN ?_ _ | refine blk_drew ?_ | refine blk_alloc ?_ _)); refine blk_put (cs := #[.slice Ao40 t660.length co40, .int .i64 t663, .int .i64 t664, .int .i64 0, .bool false]) ?_ 3 _ rfl; (with_reducible repeat (first | refine blk_drewN ?_ _ | refine blk_drew ?_ | refine blk_alloc ?_ _)); refine blk_put (cs := #[.slice Ao40 t660.length co40, .int .i64 t663, .int .i64 0, .int .i64 0, .bool false]) ?_ 2 _ rfl; (with_reducible repeat (first | refine blk_drewN ?_ _ | refine blk_drew ?_ | refine blk_alloc ?_ _)); refine blk_put (cs := #[.slice Ao40 t660.length co40, .int .i64 0, .int .i64 0, .int .i64 0, .bool false]) ?_ 1 _ rfl; (with_reducible repeat (first | refine blk_drewN ?_ _ | refine blk_drew ?_ | refine blk_alloc ?_ _)); refine blk_put (cs := #[.slice none 0 0, .int .i64 0, .int .i64 0, .int .i64 0, .bool false]) ?_ 0 _ rfl; (with_reducible repeat (first | refine blk_drewN ?_ _ | refine blk_drew ?_ | refine blk_alloc ?_ _)); exact BK668.out⟩, ⟨by repeat (first | (with_reducible first | exact HB.out | apply below_alloc | apply pw_below_drewN | apply below_drew1 | refine below_set ?_ GE636.out | refine below_set ?_ GE658.out | refine below_set ?_ GE668.out) | exact HB.out)⟩⟩
          ·rw [if_neg c51] at H
           have c51b0 : decide ((wrap64 (t652 + 2)) < t663) = false := decide_eq_false c51
           clear c51
           by_cases c57 : t665 = t663
           ·rw [if_pos c57] at H
            have c57b0 : (t665 == t663) = true := beq_iff_eq.mpr c57
            have c57b1 : (t665 != t663) = false := bne_eq_false_iff_eq.mpr c57
            clear c57
            by_cases c58 : t664 = (x7_1.length : Int)
            ·rw [if_pos c58] at H
             have c58b0 : (t664 == (x7_1.length : Int)) = true := beq_iff_eq.mpr c58
             have c58b1 : (t664 != (x7_1.length : Int)) = false := bne_eq_false_iff_eq.mpr c58
             clear c58
             by_cases c59 : (Int.tmod (wrap64 (t663 - t650)) 2) = 0
             ·rw [if_pos c59] at H
              have c59b0 : ((Int.tmod (wrap64 (t663 - t650)) 2) == 0) = true := beq_iff_eq.mpr c59
              have c59b1 : ((Int.tmod (wrap64 (t663 - t650)) 2) != 0) = false := bne_eq_false_iff_eq.mpr c59
              clear c59
              have H' := aA H
              clear H
              have hnb60 := NB668_636.out
              have hnc60 := NB636_668.out
              have hnb61 := NB668_658.out
              have hnc61 := NB658_668.out
              obtain ⟨hcz62_0, hcz62_1, hcz62_2, hcz62_3, hcz62_4⟩ := bC5 BK668.out
              obtain ⟨hfz62_0, hfz62_1, hfz62_2, hfz62_3, hfz62_4⟩ := bF5 BK668.out
              have hnb63 := NB658_636.out
              have hnc63 := NB636_658.out
              obtain ⟨hcz64_0, hcz64_1, hcz64_2, hcz64_3, hcz64_4⟩ := bC5 BK658.out
              obtain ⟨hfz64_0, hfz64_1, hfz64_2, hfz64_3, hfz64_4⟩ := bF5 BK658.out
              go_wp2
              go_meet
              case rel => exact ⟨_, (true), (by first | rfl | (simp; done) | (simp [*]; done)), H', ⟨by have := HK1.out; first | omega | exact Nat.le_refl _⟩, ⟨by (with_reducible repeat (first | apply Kd.R_alloc | apply Kd.R_drewN | apply Kd.R_drew)); exact Kd.R_mono (rF 4 (rF 3 (rF 2 (rF 1 (rF 0 (Kd.R_types HO_7.out BK668.out (by decide))))))) (fun _ hk => hk.1.2.1)⟩, ⟨by (with_reducible repeat (first | apply Kd.R_alloc | apply Kd.R_drewN | apply Kd.R_drew)); exact Kd.R_mono (rF 4 (rF 3 (rF 2 (rF 1 (rF 0 (Kd.R_types HO_637000.out BK668.out (by decide))))))) (fun _ hk => hk.1.1)⟩, ⟨by (with_reducible repeat (first | apply Kd.V_alloc | apply Kd.V_drewN | apply Kd.V_drew)); exact Kd.V_mono (Kd.V_far (p := ⟨gb668, 4, none⟩) (Kd.V_far (p := ⟨gb668, 3, none⟩) (Kd.V_far (p := ⟨gb668, 2, none⟩) (Kd.V_far (p := ⟨gb668, 1, none⟩) (Kd.V_far (p := ⟨gb668, 0, none⟩) (Kd.V_mono HO649.out (fun k_ hk => (⟨hk, hk.2⟩ : _ ∧ k_ ≠ gb668))) (fun _ hk => hk.2) (.slice Ao40 t660.length co40)) (fun _ hk => hk.2) (.int .i64 t663)) (fun _ hk => hk.2) (.int .i64 t664)) (fun _ hk => hk.2) (.int .i64 t665)) (fun _ hk => hk.2) (.bool t666)) (fun _ hk => ⟨hk.1.1.1, ⟨hk.1.1.2.2.2.1, ⟨hk.1.1.2.2.2.2, hk.1.2⟩⟩⟩)⟩, ⟨by (with_reducible repeat (first | apply Kd.V_alloc | apply Kd.V_drewN | apply Kd.V_drew)); exact Kd.V_mono (Kd.V_far (p := ⟨gb668, 4, none⟩) (Kd.V_far (p := ⟨gb668, 3, none⟩) (Kd.V_far (p := ⟨gb668, 2, none⟩) (Kd.V_far (p := ⟨gb668, 1, none⟩) (Kd.V_far (p := ⟨gb668, 0, none⟩) (Kd.V_mono HO662.out (fun k_ hk => (⟨hk, hk.2⟩ : _ ∧ k_ ≠ gb668))) (fun _ hk => hk.2) (.slice Ao40 t660.length co40)) (fun _ hk => hk.2) (.int .i64 t663)) (fun _ hk => hk.2) (.int .i64 t664)) (fun _ hk => hk.2) (.int .i64 t665)) (fun _ hk => hk.2) (.bool t666)) (fun _ hk => ⟨hk.1.1.1, ⟨hk.1.1.2.2.2.1, ⟨hk.1.1.2.2.2.2, hk.1.2⟩⟩⟩)⟩, ⟨by (with_reducible repeat (first | refine blk_drewN ?_ _ | refine blk_drew ?_ | refine blk_alloc ?_ _)); refine blk_far ?_ NB636_668.out _; (with_reducible repeat (first | refine blk_drewN ?_ _ | refine blk_drew ?_ | refine blk_alloc ?_ _)); refine blk_far ?_ NB636_668.out _; (with_reducible repeat (first | refine blk_drewN ?_ _ | refine blk_drew ?_ | refine blk_alloc ?_ _)); refine blk_far ?_ NB636_668.out _; (with_reducible repeat (first | refine blk_drewN ?_ _ | refine blk_drew ?_ | refine blk_alloc ?_ _)); refine blk_far ?_ NB636_668.out _; (with_reducible repeat (first | refine blk_drewN ?_ _ | refine blk_drew ?_ | refine blk_alloc ?_ _)); refine blk_far ?_ NB636_668.out _; (with_reducible repeat (first | refine blk_drewN ?_ _ | refine blk_drew ?_ | refine blk_alloc ?_ _)); exact BK636.out⟩, ⟨by (with_reducible repeat (first | refine blk_drewN ?_ _ | refine blk_drew ?_ | refine blk_alloc ?_ _)); refine blk_far ?_ NB658_668.out _; (with_reducible repeat (first | refine blk_drewN ?_ _ | refine blk_drew ?_ | refine blk_alloc ?_ _)); refine blk_far ?_ NB658_668.out _; (with_reducible repeat (first | refine blk_drewN ?_ _ | refine blk_drew ?_ | refine blk_alloc ?_ _)); refine blk_far ?_ NB658_668.out _; (with_reducible repeat (first | refine blk_drewN ?_ _ | refine blk_drew ?_ | refine blk_alloc ?_ _)); refine blk_far ?_ NB658_668.out _; (with_reducible repeat (first | refine blk_drewN ?_ _ | refine blk_drew ?_ | refine blk_alloc ?_ _)); refine blk_far ?_ NB658_668.out _; (with_reducible repeat (first | refine blk_drewN ?_ _ | refine blk_drew ?_ | refine blk_alloc ?_ _)); exact BK658.out⟩, ⟨by (with_reducible repeat (first | refine blk_drewN ?_ _ | refine blk_drew ?_ | refine blk_alloc ?_ _)); refine blk_put (cs := #[.slice Ao40 t660.length co40, .int .i64 t663, .int .i64 t664, .int .i64 t665, .bool false]) ?_ 4 _ rfl; (with_reducible repeat (first | refine blk_drewN ?_ _ | refine blk_drew ?_ | refine blk_alloc ?_ _)); refine blk_put (cs := #[.slice Ao40 t660.length co40, .int .i64 t663, .int .i64 t664, .int .i64 0, .bool false]) ?_ 3 _ rfl; (with_reducible repeat (first | refine blk_drewN ?_ _ | refine blk_drew ?_ | refine blk_alloc ?_ _)); refine blk_put (cs := #[.slice Ao40 t660.length co40, .int .i64 t663, .int .i64 0, .int .i64 0, .bool false]) ?_ 2 _ rfl; (with_reducible repeat (first | refine blk_drewN ?_ _ | refine blk_drew ?_ | refine blk_alloc ?_ _)); refine blk_put (cs := #[.slice Ao40 t660.length co40, .int .i64 0, .int .i64 0, .int .i64 0, .bool false]) ?_ 1 _ rfl; (with_reducible repeat (first | refine blk_drewN ?_ _ | refine blk_drew ?_ | refine blk_alloc ?_ _)); refine blk_put (cs := #[.slice none 0 0, .int .i64 0, .int .i64 0, .int .i64 0, .bool false]) ?_ 0 _ rfl; (with_reducible repeat (first | refine blk_drewN ?_ _ | refine blk_drew ?_ | refine blk_alloc ?_ _)); exact BK668.out⟩, ⟨by repeat (first | (with_reducible first | exact HB.out | apply below_alloc | apply pw_below_drewN | apply below_drew1 | refine below_set ?_ GE636.out | refine below_set ?_ GE658.out | refine below_set ?_ GE668.out) | exact HB.out)⟩⟩
             ·rw [if_neg c59] at H
              have c59b0 : ((Int.tmod (wrap64 (t663 - t650)) 2) == 0) = false := beq_eq_false_iff_ne.mpr c59
              have c59b1 : ((Int.tmod (wrap64 (t663 - t650)) 2) != 0) = true := bne_iff_ne.mpr c59
              replace H := Option.bind_eq_some_iff.mp H
              obtain ⟨t669, A650, H⟩ := H
              have A65 := aA A650
              clear A650
              have H' := aA H
              clear H
              have hnb66 := NB668_636.out
              have hnc66 := NB636_668.out
              have hnb67 := NB668_658.out
              have hnc67 := NB658_668.out
              obtain ⟨hcz68_0, hcz68_1, hcz68_2, hcz68_3, hcz68_4⟩ := bC5 BK668.out
              obtain ⟨hfz68_0, hfz68_1, hfz68_2, hfz68_3, hfz68_4⟩ := bF5 BK668.out
              have hnb69 := NB658_636.out
              have hnc69 := NB636_658.out
              obtain ⟨hcz70_0, hcz70_1, hcz70_2, hcz70_3, hcz70_4⟩ := bC5 BK658.out
              obtain ⟨hfz70_0, hfz70_1, hfz70_2, hfz70_3, hfz70_4⟩ := bF5 BK658.out
              go_wp2_with (first | (go_at_call 15; (with_reducible refine (foghornlaw04_alive.calls k1  t669 _ A65.out).mono ?_); rintro e w71 ⟨rfl, hb⟩; have n0_ := aA (Kd.R_below (by (with_reducible repeat (first | apply Kd.R_alloc | apply Kd.R_drewN | apply Kd.R_drew)); exact (Kd.R_mono (rF 4 (rF 3 (rF 2 (rF 1 (rF 0 (Kd.R_types HO_7.out BK668.out (by decide))))))) (fun _ h_ => h_.1))) hb); have n1_ := aA (Kd.R_below (by (with_reducible repeat (first | apply Kd.R_alloc | apply Kd.R_drewN | apply Kd.R_drew)); exact (Kd.R_mono (rF 4 (rF 3 (rF 2 (rF 1 (rF 0 (Kd.R_types HO_31.out BK668.out (by decide))))))) (fun _ h_ => h_.1))) hb); have n2_ := aA (Kd.R_below (by (with_reducible repeat (first | apply Kd.R_alloc | apply Kd.R_drewN | apply Kd.R_drew)); exact (Kd.R_mono (rF 4 (rF 3 (rF 2 (rF 1 (rF 0 (Kd.R_types HO_637000.out BK668.out (by decide))))))) (fun _ h_ => h_.1))) hb); have n3_ := aA (Kd.V_below (by (with_reducible repeat (first | apply Kd.V_alloc | apply Kd.V_drewN | apply Kd.V_drew)); exact (Kd.V_mono (Kd.V_far (p := ⟨gb668, 4, none⟩) (Kd.V_far (p := ⟨gb668, 3, none⟩) (Kd.V_far (p := ⟨gb668, 2, none⟩) (Kd.V_far (p := ⟨gb668, 1, none⟩) (Kd.V_far (p := ⟨gb668, 0, none⟩) (Kd.V_mono HO649.out (fun k_ hk => (⟨hk, hk.2⟩ : _ ∧ k_ ≠ gb668))) (fun _ hk => hk.2) (.slice Ao40 t660.length co40)) (fun _ hk => hk.2) (.int .i64 t663)) (fun _ hk => hk.2) (.int .i64 t664)) (fun _ hk => hk.2) (.int .i64 t665)) (fun _ hk => hk.2) (.bool t666)) (fun _ h_ => h_.1))) hb); have n4_ := aA (Kd.R_below (by (with_reducible repeat (first | apply Kd.R_alloc | apply Kd.R_drewN | apply Kd.R_drew)); exact (Kd.R_mono (rF 4 (rF 3 (rF 2 (rF 1 (rF 0 (Kd.R_types HO656.out BK668.out (by decide))))))) (fun _ h_ => h_.1))) hb); have n5_ := aA (Kd.V_below (by (with_reducible repeat (first | apply Kd.V_alloc | apply Kd.V_drewN | apply Kd.V_drew)); exact (Kd.V_mono (Kd.V_far (p := ⟨gb668, 4, none⟩) (Kd.V_far (p := ⟨gb668, 3, none⟩) (Kd.V_far (p := ⟨gb668, 2, none⟩) (Kd.V_far (p := ⟨gb668, 1, none⟩) (Kd.V_far (p := ⟨gb668, 0, none⟩) (Kd.V_mono HO662.out (fun k_ hk => (⟨hk, hk.2⟩ : _ ∧ k_ ≠ gb668))) (fun _ hk => hk.2) (.slice Ao40 t660.length co40)) (fun _ hk => hk.2) (.int .i64 t663)) (fun _ hk => hk.2) (.int .i64 t664)) (fun _ hk => hk.2) (.int .i64 t665)) (fun _ hk => hk.2) (.bool t666)) (fun _ h_ => h_.1))) hb); have n6_ := aA (blk_below (g := gb636) (o := .cells #[.slice Ao12 t637.length co12] 24 (0, 0)) (by (with_reducible repeat (first | refine blk_drewN ?_ _ | refine blk_drew ?_ | refine blk_alloc ?_ _)); refine blk_far ?_ NB636_668.out _; (with_reducible repeat (first | refine blk_drewN ?_ _ | refine blk_drew ?_ | refine blk_alloc ?_ _)); refine blk_far ?_ NB636_668.out _; (with_reducible repeat (first | refine blk_drewN ?_ _ | refine blk_drew ?_ | refine blk_alloc ?_ _)); refine blk_far ?_ NB636_668.out _; (with_reducible repeat (first | refine blk_drewN ?_ _ | refine blk_drew ?_ | refine blk_alloc ?_ _)); refine blk_far ?_ NB636_668.out _; (with_reducible repeat (first | refine blk_drewN ?_ _ | refine blk_drew ?_ | refine blk_alloc ?_ _)); refine blk_far ?_ NB636_668.out _; (with_reducible repeat (first | refine blk_drewN ?_ _ | refine blk_drew ?_ | refine blk_alloc ?_ _)); exact BK636.out) hb); have n7_ := aA (blk_below (g := gb658) (o := .cells #[.slice Ao32 t647.length co32, .int .i64 t650, .int .i64 t651, .int .i64 t652, .bool t653] 26 (0, 0)) (by (with_reducible repeat (first | refine blk_drewN ?_ _ | refine blk_drew ?_ | refine blk_alloc ?_ _)); refine blk_far ?_ NB658_668.out _; (with_reducible repeat (first | refine blk_drewN ?_ _ | refine blk_drew ?_ | refine blk_alloc ?_ _)); refine blk_far ?_ NB658_668.out _; (with_reducible repeat (first | refine blk_drewN ?_ _ | refine blk_drew ?_ | refine blk_alloc ?_ _)); refine blk_far ?_ NB658_668.out _; (with_reducible repeat (first | refine blk_drewN ?_ _ | refine blk_drew ?_ | refine blk_alloc ?_ _)); refine blk_far ?_ NB658_668.out _; (with_reducible repeat (first | refine blk_drewN ?_ _ | refine blk_drew ?_ | refine blk_alloc ?_ _)); refine blk_far ?_ NB658_668.out _; (with_reducible repeat (first | refine blk_drewN ?_ _ | refine blk_drew ?_ | refine blk_alloc ?_ _)); exact BK658.out) hb); have n8_ := aA (blk_below (g := gb668) (o := .cells #[.slice Ao40 t660.length co40, .int .i64 t663, .int .i64 t664, .int .i64 t665, .bool t666] 26 (0, 0)) (by (with_reducible repeat (first | refine blk_drewN ?_ _ | refine blk_drew ?_ | refine blk_alloc ?_ _)); have h_ := BK668.out; exact pK 4 (pK 3 (pK 2 (pK 1 (pK 0 (h_)))))) hb); have n9_ := aA (below_step (mD3 GE636.out GE658.out GE668.out) hb); clear HO_7 HO_31 HO_637000 HO649 HO656 HO662 BK636 BK658 BK668 HB; have HO_7 := n0_; have HO_31 := n1_; have HO_637000 := n2_; have HO649 := n3_; have HO656 := n4_; have HO662 := n5_; have BK636 := n6_; have BK658 := n7_; have BK668 := n8_; have HB := n9_; clear n0_ n1_ n2_ n3_ n4_ n5_ n6_ n7_ n8_ n9_; (try clear hb); (try clear hb2); (try clear hk); (try clear hi)))
              go_meet
              case rel => exact ⟨_, (!t669), (by first | rfl | (simp; done) | (simp [*]; done)), H', ⟨by have := HK1.out; first | omega | exact Nat.le_refl _⟩, ⟨by (with_reducible repeat (first | apply Kd.R_alloc | apply Kd.R_drewN | apply Kd.R_drew)); exact Kd.R_mono HO_7.out (fun _ hk => hk.2.1)⟩, ⟨by (with_reducible repeat (first | apply Kd.R_alloc | apply Kd.R_drewN | apply Kd.R_drew)); exact Kd.R_mono HO_637000.out (fun _ hk => hk.1)⟩, ⟨by (with_reducible repeat (first | apply Kd.V_alloc | apply Kd.V_drewN | apply Kd.V_drew)); exact Kd.V_mono HO649.out (fun _ hk => ⟨hk.1.1, ⟨hk.1.2.2.2.1, ⟨hk.1.2.2.2.2, hk.2⟩⟩⟩)⟩, ⟨by (with_reducible repeat (first | apply Kd.V_alloc | apply Kd.V_drewN | apply Kd.V_drew)); exact Kd.V_mono HO662.out (fun _ hk => ⟨hk.1.1, ⟨hk.1.2.2.2.1, ⟨hk.1.2.2.2.2, hk.2⟩⟩⟩)⟩, ⟨by (with_reducible repeat (first | refine blk_drewN ?_ _ | refine blk_drew ?_ | refine blk_alloc ?_ _)); exact BK636.out⟩, ⟨by (with_reducible repeat (first | refine blk_drewN ?_ _ | refine blk_drew ?_ | refine blk_alloc ?_ _)); exact BK658.out⟩, ⟨by (with_reducible repeat (first | refine blk_drewN ?_ _ | refine blk_drew ?_ | refine blk_alloc ?_ _)); exact BK668.out⟩, ⟨by repeat (first | (with_reducible first | exact HB.out | apply below_alloc | apply pw_below_drewN | apply below_drew1 | refine below_set ?_ GE636.out | refine below_set ?_ GE658.out | refine below_set ?_ GE668.out) | exact HB.out)⟩⟩
            ·rw [if_neg c58] at H
             have c58b0 : (t664 == (x7_1.length : Int)) = false := beq_eq_false_iff_ne.mpr c58
             have c58b1 : (t664 != (x7_1.length : Int)) = true := bne_iff_ne.mpr c58
             have H' := aA H
             clear H
             have hnb72 := NB668_636.out
             have hnc72 := NB636_668.out
             have hnb73 := NB668_658.out
             have hnc73 := NB658_668.out
             obtain ⟨hcz74_0, hcz74_1, hcz74_2, hcz74_3, hcz74_4⟩ := bC5 BK668.out
             obtain ⟨hfz74_0, hfz74_1, hfz74_2, hfz74_3, hfz74_4⟩ := bF5 BK668.out
             have hnb75 := NB658_636.out
             have hnc75 := NB636_658.out
             obtain ⟨hcz76_0, hcz76_1, hcz76_2, hcz76_3, hcz76_4⟩ := bC5 BK658.out
             obtain ⟨hfz76_0, hfz76_1, hfz76_2, hfz76_3, hfz76_4⟩ := bF5 BK658.out
             go_wp2
             go_meet
             case rel => exact ⟨_, (true), (by first | rfl | (simp; done) | (simp [*]; done)), H', ⟨by have := HK1.out; first | omega | exact Nat.le_refl _⟩, ⟨by (with_reducible repeat (first | apply Kd.R_alloc | apply Kd.R_drewN | apply Kd.R_drew)); exact Kd.R_mono (rF 4 (rF 3 (rF 2 (rF 1 (rF 0 (Kd.R_types HO_7.out BK668.out (by decide))))))) (fun _ hk => hk.1.2.1)⟩, ⟨by (with_reducible repeat (first | apply Kd.R_alloc | apply Kd.R_drewN | apply Kd.R_drew)); exact Kd.R_mono (rF 4 (rF 3 (rF 2 (rF 1 (rF 0 (Kd.R_types HO_637000.out BK668.out (by decide))))))) (fun _ hk => hk.1.1)⟩, ⟨by (with_reducible repeat (first | apply Kd.V_alloc | apply Kd.V_drewN | apply Kd.V_drew)); exact Kd.V_mono (Kd.V_far (p := ⟨gb668, 4, none⟩) (Kd.V_far (p := ⟨gb668, 3, none⟩) (Kd.V_far (p := ⟨gb668, 2, none⟩) (Kd.V_far (p := ⟨gb668, 1, none⟩) (Kd.V_far (p := ⟨gb668, 0, none⟩) (Kd.V_mono HO649.out (fun k_ hk => (⟨hk, hk.2⟩ : _ ∧ k_ ≠ gb668))) (fun _ hk => hk.2) (.slice Ao40 t660.length co40)) (fun _ hk => hk.2) (.int .i64 t663)) (fun _ hk => hk.2) (.int .i64 t664)) (fun _ hk => hk.2) (.int .i64 t665)) (fun _ hk => hk.2) (.bool t666)) (fun _ hk => ⟨hk.1.1.1, ⟨hk.1.1.2.2.2.1, ⟨hk.1.1.2.2.2.2, hk.1.2⟩⟩⟩)⟩, ⟨by (with_reducible repeat (first | apply Kd.V_alloc | apply Kd.V_drewN | apply Kd.V_drew)); exact Kd.V_mono (Kd.V_far (p := ⟨gb668, 4, none⟩) (Kd.V_far (p := ⟨gb668, 3, none⟩) (Kd.V_far (p := ⟨gb668, 2, none⟩) (Kd.V_far (p := ⟨gb668, 1, none⟩) (Kd.V_far (p := ⟨gb668, 0, none⟩) (Kd.V_mono HO662.out (fun k_ hk => (⟨hk, hk.2⟩ : _ ∧ k_ ≠ gb668))) (fun _ hk => hk.2) (.slice Ao40 t660.length co40)) (fun _ hk => hk.2) (.int .i64 t663)) (fun _ hk => hk.2) (.int .i64 t664)) (fun _ hk => hk.2) (.int .i64 t665)) (fun _ hk => hk.2) (.bool t666)) (fun _ hk => ⟨hk.1.1.1, ⟨hk.1.1.2.2.2.1, ⟨hk.1.1.2.2.2.2, hk.1.2⟩⟩⟩)⟩, ⟨by (with_reducible repeat (first | refine blk_drewN ?_ _ | refine blk_drew ?_ | refine blk_alloc ?_ _)); refine blk_far ?_ NB636_668.out _; (with_reducible repeat (first | refine blk_drewN ?_ _ | refine blk_drew ?_ | refine blk_alloc ?_ _)); refine blk_far ?_ NB636_668.out _; (with_reducible repeat (first | refine blk_drewN ?_ _ | refine blk_drew ?_ | refine blk_alloc ?_ _)); refine blk_far ?_ NB636_668.out _; (with_reducible repeat (first | refine blk_drewN ?_ _ | refine blk_drew ?_ | refine blk_alloc ?_ _)); refine blk_far ?_ NB636_668.out _; (with_reducible repeat (first | refine blk_drewN ?_ _ | refine blk_drew ?_ | refine blk_alloc ?_ _)); refine blk_far ?_ NB636_668.out _; (with_reducible repeat (first | refine blk_drewN ?_ _ | refine blk_drew ?_ | refine blk_alloc ?_ _)); exact BK636.out⟩, ⟨by (with_reducible repeat (first | refine blk_drewN ?_ _ | refine blk_drew ?_ | refine blk_alloc ?_ _)); refine blk_far ?_ NB658_668.out _; (with_reducible repeat (first | refine blk_drewN ?_ _ | refine blk_drew ?_ | refine blk_alloc ?_ _)); refine blk_far ?_ NB658_668.out _; (with_reducible repeat (first | refine blk_drewN ?_ _ | refine blk_drew ?_ | refine blk_alloc ?_ _)); refine blk_far ?_ NB658_668.out _; (with_reducible repeat (first | refine blk_drewN ?_ _ | refine blk_drew ?_ | refine blk_alloc ?_ _)); refine blk_far ?_ NB658_668.out _; (with_reducible repeat (first | refine blk_drewN ?_ _ | refine blk_drew ?_ | refine blk_alloc ?_ _)); refine blk_far ?_ NB658_668.out _; (with_reducible repeat (first | refine blk_drewN ?_ _ | refine blk_drew ?_ | refine blk_alloc ?_ _)); exact BK658.out⟩, ⟨by (with_reducible repeat (first | refine blk_drewN ?_ _ | refine blk_drew ?_ | refine blk_alloc ?_ _)); refine blk_put (cs := #[.slice Ao40 t660.length co40, .int .i64 t663, .int .i64 t664, .int .i64 t665, .bool false]) ?_ 4 _ rfl; (with_reducible repeat (first | refine blk_drewN ?_ _ | refine blk_drew ?_ | refine blk_alloc ?_ _)); refine blk_put (cs := #[.slice Ao40 t660.length co40, .int .i64 t663, .int .i64 t664, .int .i64 0, .bool false]) ?_ 3 _ rfl; (with_reducible repeat (first | refine blk_drewN ?_ _ | refine blk_drew ?_ | refine blk_alloc ?_ _)); refine blk_put (cs := #[.slice Ao40 t660.length co40, .int .i64 t663, .int .i64 0, .int .i64 0, .bool false]) ?_ 2 _ rfl; (with_reducible repeat (first | refine blk_drewN ?_ _ | refine blk_drew ?_ | refine blk_alloc ?_ _)); refine blk_put (cs := #[.slice Ao40 t660.length co40, .int .i64 0, .int .i64 0, .int .i64 0, .bool false]) ?_ 1 _ rfl; (with_reducible repeat (first | refine blk_drewN ?_ _ | refine blk_drew ?_ | refine blk_alloc ?_ _)); refine blk_put (cs := #[.slice none 0 0, .int .i64 0, .int .i64 0, .int .i64 0, .bool false]) ?_ 0 _ rfl; (with_reducible repeat (first | refine blk_drewN ?_ _ | refine blk_drew ?_ | refine blk_alloc ?_ _)); exact BK668.out⟩, ⟨by repeat (first | (with_reducible first | exact HB.out | apply below_alloc | apply pw_below_drewN | apply below_drew1 | refine below_set ?_ GE636.out | refine below_set ?_ GE658.out | refine below_set ?_ GE668.out) | exact HB.out)⟩⟩
           ·rw [if_neg c57] at H
            have c57b0 : (t665 == t663) = false := beq_eq_false_iff_ne.mpr c57
            have c57b1 : (t665 != t663) = true := bne_iff_ne.mpr c57
            have H' := aA H
            clear H
            have hnb77 := NB668_636.out
            have hnc77 := NB636_668.out
            have hnb78 := NB668_658.out
            have hnc78 := NB658_668.out
            obtain ⟨hcz79_0, hcz79_1, hcz79_2, hcz79_3, hcz79_4⟩ := bC5 BK668.out
            obtain ⟨hfz79_0, hfz79_1, hfz79_2, hfz79_3, hfz79_4⟩ := bF5 BK668.out
            have hnb80 := NB658_636.out
            have hnc80 := NB636_658.out
            obtain ⟨hcz81_0, hcz81_1, hcz81_2, hcz81_3, hcz81_4⟩ := bC5 BK658.out
            obtain ⟨hfz81_0, hfz81_1, hfz81_2, hfz81_3, hfz81_4⟩ := bF5 BK658.out
            go_wp2
            go_meet
            case rel => exact ⟨_, (true), (by first | rfl | (simp; done) | (simp [*]; done)), H', ⟨by have := HK1.out; first | omega | exact Nat.le_refl _⟩, ⟨by (with_reducible repeat (first | apply Kd.R_alloc | apply Kd.R_drewN | apply Kd.R_drew)); exact Kd.R_mono (rF 4 (rF 3 (rF 2 (rF 1 (rF 0 (Kd.R_types HO_7.out BK668.out (by decide))))))) (fun _ hk => hk.1.2.1)⟩, ⟨by (with_reducible repeat (first | apply Kd.R_alloc | apply Kd.R_drewN | apply Kd.R_drew)); exact Kd.R_mono (rF 4 (rF 3 (rF 2 (rF 1 (rF 0 (Kd.R_types HO_637000.out BK668.out (by decide))))))) (fun _ hk => hk.1.1)⟩, ⟨by (with_reducible repeat (first | apply Kd.V_alloc | apply Kd.V_drewN | apply Kd.V_drew)); exact Kd.V_mono (Kd.V_far (p := ⟨gb668, 4, none⟩) (Kd.V_far (p := ⟨gb668, 3, none⟩) (Kd.V_far (p := ⟨gb668, 2, none⟩) (Kd.V_far (p := ⟨gb668, 1, none⟩) (Kd.V_far (p := ⟨gb668, 0, none⟩) (Kd.V_mono HO649.out (fun k_ hk => (⟨hk, hk.2⟩ : _ ∧ k_ ≠ gb668))) (fun _ hk => hk.2) (.slice Ao40 t660.length co40)) (fun _ hk => hk.2) (.int .i64 t663)) (fun _ hk => hk.2) (.int .i64 t664)) (fun _ hk => hk.2) (.int .i64 t665)) (fun _ hk => hk.2) (.bool t666)) (fun _ hk => ⟨hk.1.1.1, ⟨hk.1.1.2.2.2.1, ⟨hk.1.1.2.2.2.2, hk.1.2⟩⟩⟩)⟩, ⟨by (with_reducible repeat (first | apply Kd.V_alloc | apply Kd.V_drewN | apply Kd.V_drew)); exact Kd.V_mono (Kd.V_far (p := ⟨gb668, 4, none⟩) (Kd.V_far (p := ⟨gb668, 3, none⟩) (Kd.V_far (p := ⟨gb668, 2, none⟩) (Kd.V_far (p := ⟨gb668, 1, none⟩) (Kd.V_far (p := ⟨gb668, 0, none⟩) (Kd.V_mono HO662.out (fun k_ hk => (⟨hk, hk.2⟩ : _ ∧ k_ ≠ gb668))) (fun _ hk => hk.2) (.slice Ao40 t660.length co40)) (fun _ hk => hk.2) (.int .i64 t663)) (fun _ hk => hk.2) (.int .i64 t664)) (fun _ hk => hk.2) (.int .i64 t665)) (fun _ hk => hk.2) (.bool t666)) (fun _ hk => ⟨hk.1.1.1, ⟨hk.1.1.2.2.2.1, ⟨hk.1.1.2.2.2.2, hk.1.2⟩⟩⟩)⟩, ⟨by (with_reducible repeat (first | refine blk_drewN ?_ _ | refine blk_drew ?_ | refine blk_alloc ?_ _)); refine blk_far ?_ NB636_668.out _; (with_reducible repeat (first | refine blk_drewN ?_ _ | refine blk_drew ?_ | refine blk_alloc ?_ _)); refine blk_far ?_ NB636_668.out _; (with_reducible repeat (first | refine blk_drewN ?_ _ | refine blk_drew ?_ | refine blk_alloc ?_ _)); refine blk_far ?_ NB636_668.out _; (with_reducible repeat (first | refine blk_drewN ?_ _ | refine blk_drew ?_ | refine blk_alloc ?_ _)); refine blk_far ?_ NB636_668.out _; (with_reducible repeat (first | refine blk_drewN ?_ _ | refine blk_drew ?_ | refine blk_alloc ?_ _)); refine blk_far ?_ NB636_668.out _; (with_reducible repeat (first | refine blk_drewN ?_ _ | refine blk_drew ?_ | refine blk_alloc ?_ _)); exact BK636.out⟩, ⟨by (with_reducible repeat (first | refine blk_drewN ?_ _ | refine blk_drew ?_ | refine blk_alloc ?_ _)); refine blk_far ?_ NB658_668.out _; (with_reducible repeat (first | refine blk_drewN ?_ _ | refine blk_drew ?_ | refine blk_alloc ?_ _)); refine blk_far ?_ NB658_668.out _; (with_reducible repeat (first | refine blk_drewN ?_ _ | refine blk_drew ?_ | refine blk_alloc ?_ _)); refine blk_far ?_ NB658_668.out _; (with_reducible repeat (first | refine blk_drewN ?_ _ | refine blk_drew ?_ | refine blk_alloc ?_ _)); refine blk_far ?_ NB658_668.out _; (with_reducible repeat (first | refine blk_drewN ?_ _ | refine blk_drew ?_ | refine blk_alloc ?_ _)); refine blk_far ?_ NB658_668.out _; (with_reducible repeat (first | refine blk_drewN ?_ _ | refine blk_drew ?_ | refine blk_alloc ?_ _)); exact BK658.out⟩, ⟨by (with_reducible repeat (first | refine blk_drewN ?_ _ | refine blk_drew ?_ | refine blk_alloc ?_ _)); refine blk_put (cs := #[.slice Ao40 t660.length co40, .int .i64 t663, .int .i64 t664, .int .i64 t665, .bool false]) ?_ 4 _ rfl; (with_reducible repeat (first | refine blk_drewN ?_ _ | refine blk_drew ?_ | refine blk_alloc ?_ _)); refine blk_put (cs := #[.slice Ao40 t660.length co40, .int .i64 t663, .int .i64 t664, .int .i64 0, .bool false]) ?_ 3 _ rfl; (with_reducible repeat (first | refine blk_drewN ?_ _ | refine blk_drew ?_ | refine blk_alloc ?_ _)); refine blk_put (cs := #[.slice Ao40 t660.length co40, .int .i64 t663, .int .i64 0, .int .i64 0, .bool false]) ?_ 2 _ rfl; (with_reducible repeat (first | refine blk_drewN ?_ _ | refine blk_drew ?_ | refine blk_alloc ?_ _)); refine blk_put (cs := #[.slice Ao40 t660.length co40, .int .i64 0, .int .i64 0, .int .i64 0, .bool false]) ?_ 1 _ rfl; (with_reducible repeat (first | refine blk_drewN ?_ _ | refine blk_drew ?_ | refine blk_alloc ?_ _)); refine blk_put (cs := #[.slice none 0 0, .int .i64 0, .int .i64 0, .int .i64 0, .bool false]) ?_ 0 _ rfl; (with_reducible repeat (first | refine blk_drewN ?_ _ | refine blk_drew ?_ | refine blk_alloc ?_ _)); exact BK668.out⟩, ⟨by repeat (first | (with_reducible first | exact HB.out | apply below_alloc | apply pw_below_drewN | apply below_drew1 | refine below_set ?_ GE636.out | refine below_set ?_ GE658.out | refine below_set ?_ GE668.out) | exact HB.out)⟩⟩
        case rest =>
         clear HC28
         try clear c1
         try clear c2
         try clear p2
         try clear c3
         try clear c4
         try clear c5
         try clear c6
         try clear c6b0
         try clear c6b1
         try clear p6
         try clear q6
         try clear hx6
         try clear c7
         try clear c7b0
         try clear c7b1
         try clear c8
         try clear c10
         try clear c12
         try clear c16
         try clear c16b0
         try clear c17
         try clear c17b0
         try clear c18
         try clear c18b0
         try clear c20
         try clear c20b0
         try clear c20b1
         try clear c21
         try clear c21b0
         try clear c21b1
         try clear c22
         try clear c25
         try clear c25b0
         try clear c25b1
         try clear c27
         try clear c27b0
         try clear c27b1
         try clear c33
         try clear c41
         try clear c42
         try clear c45
         try clear c45b0
         try clear c46
         try clear c47
         try clear c49
         try clear c51
         try clear c51b0
         try clear c52
         try clear c53
         try clear c55
         try clear c57
         try clear c57b0
         try clear c57b1
         try clear c58
         try clear c58b0
         try clear c58b1
         try clear c59
         try clear c59b0
         try clear c59b1
         try clear c60
         try clear c61
         try clear c63
         try clear p64
         try clear q64
         try clear hx64
         try clear c66
         try clear c67
         try clear c69
         try clear c72
         try clear c73
         try clear c75
         try clear c77
         try clear c78
         try clear c80
         try clear hcz29_0
         try clear hcz34_0 hcz34_1 hcz34_2 hcz34_3 hcz34_4
         try clear hcz36_0 hcz36_1 hcz36_2 hcz36_3 hcz36_4
         try clear hcz43_0 hcz43_1 hcz43_2 hcz43_3 hcz43_4
         try clear hcz44_0
         try clear hcz48_0 hcz48_1 hcz48_2 hcz48_3 hcz48_4
         try clear hcz50_0 hcz50_1 hcz50_2 hcz50_3 hcz50_4
         try clear hcz54_0 hcz54_1 hcz54_2 hcz54_3 hcz54_4
         try clear hcz56_0 hcz56_1 hcz56_2 hcz56_3 hcz56_4
         try clear hcz62_0 hcz62_1 hcz62_2 hcz62_3 hcz62_4
         try clear hcz64_0 hcz64_1 hcz64_2 hcz64_3 hcz64_4
         try clear hcz68_0 hcz68_1 hcz68_2 hcz68_3 hcz68_4
         try clear hcz70_0 hcz70_1 hcz70_2 hcz70_3 hcz70_4
         try clear hcz74_0 hcz74_1 hcz74_2 hcz74_3 hcz74_4
         try clear hcz76_0 hcz76_1 hcz76_2 hcz76_3 hcz76_4
         try clear hcz79_0 hcz79_1 hcz79_2 hcz79_3 hcz79_4
         try clear hcz81_0 hcz81_1 hcz81_2 hcz81_3 hcz81_4
         try clear hfz29_0
         try clear hfz34_0 hfz34_1 hfz34_2 hfz34_3 hfz34_4
         try clear hfz36_0 hfz36_1 hfz36_2 hfz36_3 hfz36_4
         try clear hfz43_0 hfz43_1 hfz43_2 hfz43_3 hfz43_4
         try clear hfz44_0
         try clear hfz48_0 hfz48_1 hfz48_2 hfz48_3 hfz48_4
         try clear hfz50_0 hfz50_1 hfz50_2 hfz50_3 hfz50_4
         try clear hfz54_0 hfz54_1 hfz54_2 hfz54_3 hfz54_4
         try clear hfz56_0 hfz56_1 hfz56_2 hfz56_3 hfz56_4
         try clear hfz62_0 hfz62_1 hfz62_2 hfz62_3 hfz62_4
         try clear hfz64_0 hfz64_1 hfz64_2 hfz64_3 hfz64_4
         try clear hfz68_0 hfz68_1 hfz68_2 hfz68_3 hfz68_4
         try clear hfz70_0 hfz70_1 hfz70_2 hfz70_3 hfz70_4
         try clear hfz74_0 hfz74_1 hfz74_2 hfz74_3 hfz74_4
         try clear hfz76_0 hfz76_1 hfz76_2 hfz76_3 hfz76_4
         try clear hfz79_0 hfz79_1 hfz79_2 hfz79_3 hfz79_4
         try clear hfz81_0 hfz81_1 hfz81_2 hfz81_3 hfz81_4
         try clear hx643_0
         try clear p2
         try clear p643
         try clear q643
         obtain ⟨kq, x124_27, rfl, HA, HJ27, HO_7, HO_637000, HO_659000, HO_669000, BK636, BK658, BK668, HB⟩ := hcut
         cases kq with
         | zero => exact absurd HA.out (by simp [foghornlaw04_StoreTurns.j1])
         | succ kj27 =>
          have H := HA.out
          clear HA
          simp only [foghornlaw04_StoreTurns.j1] at H
          by_cases c82 : x124_27 = true
          ·subst c82
           have H1 : (some false) = some r := by rw [if_pos rfl] at H; exact H
           clear H
           have H := H1
           clear H1
           exact absurd (Option.some.inj H) (by rw [hrt_]; decide)
          ·replace c82 := Bool.eq_false_iff.mpr c82
           subst c82
           have H1 : ((store_Append.f t660 t663 t664 t665 t666 (a2.extract 0 ((ji5) : Int).toNat) 0 0).bind fun bt670 => (if (x7_1.length : Int) = (wrap64 ((wrap64 ((t637.length : Int) / 2)) - 1)) then (some (bt670.2.2.2.2.2 == 5)) else ((store_Boot.f kj27 bt670.1).bind fun bt679 => (if bt670.2.2.2.2.2 = 0 then (if bt679.2.2.2.2.2.2 = 0 then (if x7_1.length < 8796093022208 then ((foghornref04_Texts.f kj27 bt679.2.2.2.2.2.1 (x7_1 ++ [(a2.extract 0 ((ji5) : Int).toNat)])).bind fun t694 => (some t694)) else (none)) else (some false)) else (some false))))) = some r := by rw [if_neg (show ¬ (false = true) by decide)] at H; exact H
           clear H
           have H := H1
           clear H1
           replace H := Option.bind_eq_some_iff.mp H
           obtain ⟨⟨t670, t673, t674, t675, t676, t677⟩, A830, H⟩ := H
           have A83 := aA A830
           clear A830
           by_cases c84 : (x7_1.length : Int) = (wrap64 ((wrap64 ((t637.length : Int) / 2)) - 1))
           ·rw [if_pos c84] at H
            have c84b0 : ((x7_1.length : Int) == (wrap64 ((wrap64 ((t637.length : Int) / 2)) - 1))) = true := beq_iff_eq.mpr c84
            have c84b1 : ((x7_1.length : Int) != (wrap64 ((wrap64 ((t637.length : Int) / 2)) - 1))) = false := bne_eq_false_iff_eq.mpr c84
            clear c84
            obtain rfl := Option.some.inj H
            have hnb85 := NB668_636.out
            have hnc85 := NB636_668.out
            have hnb86 := NB668_658.out
            have hnc86 := NB658_668.out
            obtain ⟨hcz87_0, hcz87_1, hcz87_2, hcz87_3, hcz87_4⟩ := bC5 BK668.out
            obtain ⟨hfz87_0, hfz87_1, hfz87_2, hfz87_3, hfz87_4⟩ := bF5 BK668.out
            go_wp2_with (first | ((with_reducible refine gate_callee (f := 21) rfl ?_); refine goesL_ (some 129) rfl rfl Try.func21 (by kernel_rfl) rfl #[.agg #[.slice Ao40 t660.length co40, .int .i64 t663, .int .i64 t664, .int .i64 t665, .bool t666], .string (a2.extract 0 ((ji5) : Int).toNat), .agg #[.int .i64 0, .int .i64 0]] rfl (by (try simp only [List.map_toArray, List.map_cons, List.map_nil]); first | done | (simp only [hji5]; rfl) | rfl | (simp only [List.length_drop, List.length_take]; rfl)) ?_; (with_reducible refine (store_Append.calls (fun k_ => (some k_ ≠ (.slice Ao37 x7_1.length co37 : Value).ownBlock ∧ (k_ ≠ gb636 ∧ (k_ ≠ gb658 ∧ k_ ≠ gb668)))) _ _ t660 t663 t664 t665 t666 (a2.extract 0 ((ji5) : Int).toNat) 0 0 t670 t673 t674 t675 t676 t677 _ ?side1 A83.out).mono ?_); (case side1 => exact HO_669000.out); rintro e w88 ⟨v671, rfl, ho0, hb⟩; refine ⟨_, rfl, ?_⟩; have n0_ := aA (Kd.R_below (mR HO_7.out) hb); have n1_ := aA (Kd.R_below (mR HO_637000.out) hb); have n2_ := aA (Kd.V_below (by (with_reducible repeat (first | apply Kd.V_alloc | apply Kd.V_drewN | apply Kd.V_drew)); exact HO_659000.out) hb); have n3_ := aA (Kd.V_below (by (with_reducible repeat (first | apply Kd.V_alloc | apply Kd.V_drewN | apply Kd.V_drew)); exact HO_669000.out) hb); have n4_ := aA (Kd.V_lower (Kd.V_mono (ok' := fun k_ => some k_ ≠ (.slice Ao37 x7_1.length co37 : Value).ownBlock ∧ k_ ≠ gb636 ∧ k_ ≠ gb658 ∧ k_ ≠ gb668) ho0 (fun k_ hk_ => ⟨Or.elim hk_ (fun hs_ => hs_.1) (fun hn_ => (Kd.fresh' (Kd.R_lt (mR HO_7.out)) k_ hn_)), Or.elim hk_ (fun hs_ => hs_.2.1) (fun hn_ => (Kd.freshB (g := gb636) (o := .cells #[.slice Ao12 t637.length co12] 24 (0, 0)) (mK BK636.out) k_ hn_)), Or.elim hk_ (fun hs_ => hs_.2.2.1) (fun hn_ => (Kd.freshB (g := gb658) (o := .cells #[.slice Ao32 t647.length co32, .int .i64 t650, .int .i64 t651, .int .i64 t652, .bool t653] 26 (0, 0)) (mK BK658.out) k_ hn_)), Or.elim hk_ (fun hs_ => hs_.2.2.2) (fun hn_ => (Kd.freshB (g := gb668) (o := .cells #[.slice Ao40 t660.length co40, .int .i64 t663, .int .i64 t664, .int .i64 t665, .bool t666] 26 (0, 0)) (mK BK668.out) k_ hn_))⟩)) (below_size (mD3 GE636.out GE658.out GE668.out))); have n5_ := aA (bB BK636.out hb); have n6_ := aA (bB BK658.out hb); have n7_ := aA (bB BK668.out hb); have n8_ := aA (below_step (mD3 GE636.out GE658.out GE668.out) hb); clear HO_7 HO_637000 HO_659000 HO_669000 BK636 BK658 BK668 HB; have HO_7 := n0_; have HO_637000 := n1_; have HO_659000 := n2_; have HO_669000 := n3_; have HO672 := n4_; have BK636 := n5_; have BK658 := n6_; have BK668 := n7_; have HB := n8_; clear n0_ n1_ n2_ n3_ n4_ n5_ n6_ n7_ n8_; (try clear hb); (try clear hb2); (try clear hk); (try clear hi); (try clear ho0)) | ((with_reducible refine gate_dst (N := 16) rfl ?_); (try (refine gate_guard (by rfl) ?_; dsimp only)); refine box_event ?hg (N := 16) ?hd (cs := #[.slice none 0 0, .int .i64 0, .int .i64 0, .int .i64 0, .bool false]) (t := 26) ?hr ?_; (case hd => rfl); (case hg => rfl); (case hr => first | (go_simp; done) | (go_simp; rfl)); intro gb678 hg w89 hbox hb; have n0_ := aA (Kd.R_below (mR HO_7.out) hb); have n1_ := aA (Kd.R_below (mR HO_637000.out) hb); have n2_ := aA (Kd.V_below (Kd.V_elderB (by (with_reducible repeat (first | apply Kd.V_alloc | apply Kd.V_drewN | apply Kd.V_drew)); exact HO_659000.out) gb678 (Nat.le_of_eq hg.symm)) hb); have n3_ := aA (Kd.V_below (Kd.V_elderB (by (with_reducible repeat (first | apply Kd.V_alloc | apply Kd.V_drewN | apply Kd.V_drew)); exact HO_669000.out) gb678 (Nat.le_of_eq hg.symm)) hb); have n4_ := aA (Kd.V_below (Kd.V_elderB (by (with_reducible repeat (first | apply Kd.V_alloc | apply Kd.V_drewN | apply Kd.V_drew)); exact HO672.out) gb678 (Nat.le_of_eq hg.symm)) hb); have n5_ := aA (bB BK636.out hb); have n6_ := aA (bB BK658.out hb); have n7_ := aA (bB BK668.out hb); have n8_ := aA (below_step (mD3 GE636.out GE658.out GE668.out) hb); have n9_ := aA (hbox); have n10_ := aA ((bZ hg (mD3 GE636.out GE658.out GE668.out))); have n11_ := aA ((bZ hg (mD3 GE636.out GE658.out GE668.out))); have n12_ := aA ((bL hg BK636.out)); have n13_ := aA ((bG hg BK636.out)); have n14_ := aA ((bL hg BK658.out)); have n15_ := aA ((bG hg BK658.out)); have n16_ := aA ((bL hg BK668.out)); have n17_ := aA ((bG hg BK668.out)); clear HO_7 HO_637000 HO_659000 HO_669000 HO672 BK636 BK658 BK668 HB; have HO_7 := n0_; have HO_637000 := n1_; have HO_659000 := n2_; have HO_669000 := n3_; have HO672 := n4_; have BK636 := n5_; have BK658 := n6_; have BK668 := n7_; have HB := n8_; have BK678 := n9_; have GW678 := n10_; have GE678 := n11_; have NB636_678 := n12_; have NB678_636 := n13_; have NB658_678 := n14_; have NB678_658 := n15_; have NB668_678 := n16_; have NB678_668 := n17_; clear n0_ n1_ n2_ n3_ n4_ n5_ n6_ n7_ n8_ n9_ n10_ n11_ n12_ n13_ n14_ n15_ n16_ n17_ hb hbox hg; obtain ⟨Ao90, co90, eo90⟩ := Kd.V_slice HO672.out; subst eo90; have hnb91 := NB678_636.out; have hnc91 := NB636_678.out; have hnb92 := NB678_658.out; have hnc92 := NB658_678.out; have hnb93 := NB678_668.out; have hnc93 := NB668_678.out; obtain ⟨hcz94_0, hcz94_1, hcz94_2, hcz94_3, hcz94_4⟩ := bC5 BK678.out; obtain ⟨hfz94_0, hfz94_1, hfz94_2, hfz94_3, hfz94_4⟩ := bF5 BK678.out))
            go_ret
            exact ⟨by first | rfl | (simp [errW_none, errW_some] <;> rfl) | (simp only [← hji5]; first | rfl | (simp [errW_none, errW_some] <;> rfl)) | (simp [*, errW_none, errW_some] <;> rfl), by repeat (first | (with_reducible first | exact HB.out | apply below_alloc | apply pw_below_drewN | apply below_drew1 | refine below_set ?_ GE636.out | refine below_set ?_ GE658.out | refine below_set ?_ GE668.out | refine below_set ?_ GE678.out) | exact HB.out)⟩
           ·rw [if_neg c84] at H
            have c84b0 : ((x7_1.length : Int) == (wrap64 ((wrap64 ((t637.length : Int) / 2)) - 1))) = false := beq_eq_false_iff_ne.mpr c84
            have c84b1 : ((x7_1.length : Int) != (wrap64 ((wrap64 ((t637.length : Int) / 2)) - 1))) = true := bne_iff_ne.mpr c84
            replace H := Option.bind_eq_some_iff.mp H
            obtain ⟨⟨t679, t682, t683, t684, t685, t686, t689⟩, A950, H⟩ := H
            have A95 := aA A950
            clear A950
            by_cases c96 : t677 = 0
            ·rw [if_pos c96] at H
             have c96b0 : (t677 == 0) = true := beq_iff_eq.mpr c96
             have c96b1 : (t677 != 0) = false := bne_eq_false_iff_eq.mpr c96
             clear c96
             by_cases c97 : t689 = 0
             ·rw [if_pos c97] at H
              have c97b0 : (t689 == 0) = true := beq_iff_eq.mpr c97
              have c97b1 : (t689 != 0) = false := bne_eq_false_iff_eq.mpr c97
              clear c97
              by_cases c98 : x7_1.length < 8796093022208
              ·rw [if_pos c98] at H
               have LMc98 := aA c98
               clear c98
               obtain ⟨y691, hy691⟩ : ∃ y_ : List ByteArray, y_ = (x7_1 ++ [(a2.extract 0 ((ji5) : Int).toNat)]) := ⟨_, rfl⟩
               replace H : ((foghornref04_Texts.f kj27 t686 y691).bind fun t694 => (some t694)) = some r := by first | (rw [hy691]; with_reducible exact H) | (have H2_ := (Option.bind_some _ _).symm.trans H; rw [hy691]; with_reducible exact H2_) | (have H2_ := (Option.bind_some _ _).symm.trans H; with_reducible exact H2_) | with_reducible exact H | (rw [hy691]; exact H) | exact H
               have Ny691 := aA hy691
               clear hy691
               replace H := Option.bind_eq_some_iff.mp H
               obtain ⟨t694, A990, H⟩ := H
               have A99 := aA A990
               clear A990
               obtain rfl := Option.some.inj H
               have hnb100 := NB668_636.out
               have hnc100 := NB636_668.out
               have hnb101 := NB668_658.out
               have hnc101 := NB658_668.out
               obtain ⟨hcz102_0, hcz102_1, hcz102_2, hcz102_3, hcz102_4⟩ := bC5 BK668.out
               obtain ⟨hfz102_0, hfz102_1, hfz102_2, hfz102_3, hfz102_4⟩ := bF5 BK668.out
               go_wp2_with (first | ((with_reducible refine gate_callee (f := 21) rfl ?_); refine goesL_ (some 129) rfl rfl Try.func21 (by kernel_rfl) rfl #[.agg #[.slice Ao40 t660.length co40, .int .i64 t663, .int .i64 t664, .int .i64 t665, .bool t666], .string (a2.extract 0 ((ji5) : Int).toNat), .agg #[.int .i64 0, .int .i64 0]] rfl (by (try simp only [List.map_toArray, List.map_cons, List.map_nil]); first | done | (simp only [hji5]; rfl) | rfl | (simp only [List.length_drop, List.length_take]; rfl)) ?_; (with_reducible refine (store_Append.calls (fun k_ => (some k_ ≠ (.slice Ao37 x7_1.length co37 : Value).ownBlock ∧ (k_ ≠ gb636 ∧ (k_ ≠ gb658 ∧ k_ ≠ gb668)))) _ _ t660 t663 t664 t665 t666 (a2.extract 0 ((ji5) : Int).toNat) 0 0 t670 t673 t674 t675 t676 t677 _ ?side1 A83.out).mono ?_); (case side1 => exact HO_669000.out); rintro e w103 ⟨v671, rfl, ho0, hb⟩; refine ⟨_, rfl, ?_⟩; have n0_ := aA (Kd.R_below (mR HO_7.out) hb); have n1_ := aA (Kd.R_below (mR HO_637000.out) hb); have n2_ := aA (Kd.V_below (by (with_reducible repeat (first | apply Kd.V_alloc | apply Kd.V_drewN | apply Kd.V_drew)); exact HO_659000.out) hb); have n3_ := aA (Kd.V_below (by (with_reducible repeat (first | apply Kd.V_alloc | apply Kd.V_drewN | apply Kd.V_drew)); exact HO_669000.out) hb); have n4_ := aA (Kd.V_lower (Kd.V_mono (ok' := fun k_ => some k_ ≠ (.slice Ao37 x7_1.length co37 : Value).ownBlock ∧ k_ ≠ gb636 ∧ k_ ≠ gb658 ∧ k_ ≠ gb668) ho0 (fun k_ hk_ => ⟨Or.elim hk_ (fun hs_ => hs_.1) (fun hn_ => (Kd.fresh' (Kd.R_lt (mR HO_7.out)) k_ hn_)), Or.elim hk_ (fun hs_ => hs_.2.1) (fun hn_ => (Kd.freshB (g := gb636) (o := .cells #[.slice Ao12 t637.length co12] 24 (0, 0)) (mK BK636.out) k_ hn_)), Or.elim hk_ (fun hs_ => hs_.2.2.1) (fun hn_ => (Kd.freshB (g := gb658) (o := .cells #[.slice Ao32 t647.length co32, .int .i64 t650, .int .i64 t651, .int .i64 t652, .bool t653] 26 (0, 0)) (mK BK658.out) k_ hn_)), Or.elim hk_ (fun hs_ => hs_.2.2.2) (fun hn_ => (Kd.freshB (g := gb668) (o := .cells #[.slice Ao40 t660.length co40, .int .i64 t663, .int .i64 t664, .int .i64 t665, .bool t666] 26 (0, 0)) (mK BK668.out) k_ hn_))⟩)) (below_size (mD3 GE636.out GE658.out GE668.out))); have n5_ := aA (bB BK636.out hb); have n6_ := aA (bB BK658.out hb); have n7_ := aA (bB BK668.out hb); have n8_ := aA (below_step (mD3 GE636.out GE658.out GE668.out) hb); clear HO_7 HO_637000 HO_659000 HO_669000 BK636 BK658 BK668 HB; have HO_7 := n0_; have HO_637000 := n1_; have HO_659000 := n2_; have HO_669000 := n3_; have HO672 := n4_; have BK636 := n5_; have BK658 := n6_; have BK668 := n7_; have HB := n8_; clear n0_ n1_ n2_ n3_ n4_ n5_ n6_ n7_ n8_; (try clear hb); (try clear hb2); (try clear hk); (try clear hi); (try clear ho0)) | ((with_reducible refine gate_dst (N := 16) rfl ?_); (try (refine gate_guard (by rfl) ?_; dsimp only)); refine box_event ?hg (N := 16) ?hd (cs := #[.slice none 0 0, .int .i64 0, .int .i64 0, .int .i64 0, .bool false]) (t := 26) ?hr ?_; (case hd => rfl); (case hg => rfl); (case hr => first | (go_simp; done) | (go_simp; rfl)); intro gb678 hg w104 hbox hb; have n0_ := aA (Kd.R_below (mR HO_7.out) hb); have n1_ := aA (Kd.R_below (mR HO_637000.out) hb); have n2_ := aA (Kd.V_below (Kd.V_elderB (by (with_reducible repeat (first | apply Kd.V_alloc | apply Kd.V_drewN | apply Kd.V_drew)); exact HO_659000.out) gb678 (Nat.le_of_eq hg.symm)) hb); have n3_ := aA (Kd.V_below (Kd.V_elderB (by (with_reducible repeat (first | apply Kd.V_alloc | apply Kd.V_drewN | apply Kd.V_drew)); exact HO_669000.out) gb678 (Nat.le_of_eq hg.symm)) hb); have n4_ := aA (Kd.V_below (Kd.V_elderB (by (with_reducible repeat (first | apply Kd.V_alloc | apply Kd.V_drewN | apply Kd.V_drew)); exact HO672.out) gb678 (Nat.le_of_eq hg.symm)) hb); have n5_ := aA (bB BK636.out hb); have n6_ := aA (bB BK658.out hb); have n7_ := aA (bB BK668.out hb); have n8_ := aA (below_step (mD3 GE636.out GE658.out GE668.out) hb); have n9_ := aA (hbox); have n10_ := aA ((bZ hg (mD3 GE636.out GE658.out GE668.out))); have n11_ := aA ((bZ hg (mD3 GE636.out GE658.out GE668.out))); have n12_ := aA ((bL hg BK636.out)); have n13_ := aA ((bG hg BK636.out)); have n14_ := aA ((bL hg BK658.out)); have n15_ := aA ((bG hg BK658.out)); have n16_ := aA ((bL hg BK668.out)); have n17_ := aA ((bG hg BK668.out)); clear HO_7 HO_637000 HO_659000 HO_669000 HO672 BK636 BK658 BK668 HB; have HO_7 := n0_; have HO_637000 := n1_; have HO_659000 := n2_; have HO_669000 := n3_; have HO672 := n4_; have BK636 := n5_; have BK658 := n6_; have BK668 := n7_; have HB := n8_; have BK678 := n9_; have GW678 := n10_; have GE678 := n11_; have NB636_678 := n12_; have NB678_636 := n13_; have NB658_678 := n14_; have NB678_658 := n15_; have NB668_678 := n16_; have NB678_668 := n17_; clear n0_ n1_ n2_ n3_ n4_ n5_ n6_ n7_ n8_ n9_ n10_ n11_ n12_ n13_ n14_ n15_ n16_ n17_ hb hbox hg; obtain ⟨Ao105, co105, eo105⟩ := Kd.V_slice HO672.out; subst eo105; have hnb106 := NB678_636.out; have hnc106 := NB636_678.out; have hnb107 := NB678_658.out; have hnc107 := NB658_678.out; have hnb108 := NB678_668.out; have hnc108 := NB668_678.out; obtain ⟨hcz109_0, hcz109_1, hcz109_2, hcz109_3, hcz109_4⟩ := bC5 BK678.out; obtain ⟨hfz109_0, hfz109_1, hfz109_2, hfz109_3, hfz109_4⟩ := bF5 BK678.out) | ((with_reducible refine gate_store (t := 26) (p := 16) rfl ?_); refine store_event (t := 26) (p := 16) (v := ?vo_w110) (w1 := (((((w104.setCell ⟨gb678, 0, none⟩ (.slice Ao105 t670.length co105)).setCell ⟨gb678, 1, none⟩ (.int .i64 t673)).setCell ⟨gb678, 2, none⟩ (.int .i64 t674)).setCell ⟨gb678, 3, none⟩ (.int .i64 t675)).setCell ⟨gb678, 4, none⟩ (.bool t676))) ?hg ?ho ?hn ?hr ?_; (case ho => rfl); (case hg => rfl); (case hn => rfl); (case hr => first | (go_simp; done) | (go_simp; rfl)); intro w110 hw; have n0_ : Aside0 (Kd.R Kd.string 9 w110 w.heap.size (fun k_ => some k_ ≠ (.slice Ao12 t637.length co12 : Value).ownBlock) (.slice Ao37 x7_1.length co37) x7_1) := ⟨(by rw [hw]; exact (by (with_reducible repeat (first | apply Kd.R_alloc | apply Kd.R_drewN | apply Kd.R_drew)); exact Kd.R_mono (rF 4 (rF 3 (rF 2 (rF 1 (rF 0 (Kd.R_types HO_7.out BK678.out (by decide))))))) (fun _ hk => hk.1)))⟩; have n1_ : Aside0 (Kd.R Kd.string 9 w110 w.heap.size (fun k_ => some k_ ≠ (.slice Ao37 x7_1.length co37 : Value).ownBlock) (.slice Ao12 t637.length co12) t637) := ⟨(by rw [hw]; exact (by (with_reducible repeat (first | apply Kd.R_alloc | apply Kd.R_drewN | apply Kd.R_drew)); exact Kd.R_mono (rF 4 (rF 3 (rF 2 (rF 1 (rF 0 (Kd.R_types HO_637000.out BK678.out (by decide))))))) (fun _ hk => hk.1)))⟩; have n2_ : Aside0 (Kd.V Kd.string 9 w110 w.heap.size (fun k_ => some k_ ≠ (.slice Ao37 x7_1.length co37 : Value).ownBlock ∧ k_ ≠ gb636 ∧ k_ ≠ gb658 ∧ k_ ≠ gb668 ∧ k_ ≠ gb678) (.slice Ao32 t647.length co32) t647) := ⟨(by rw [hw]; exact (by (with_reducible repeat (first | apply Kd.V_alloc | apply Kd.V_drewN | apply Kd.V_drew)); exact Kd.V_mono (Kd.V_far (p := ⟨gb678, 4, none⟩) (Kd.V_far (p := ⟨gb678, 3, none⟩) (Kd.V_far (p := ⟨gb678, 2, none⟩) (Kd.V_far (p := ⟨gb678, 1, none⟩) (Kd.V_far (p := ⟨gb678, 0, none⟩) (Kd.V_mono HO_659000.out (fun k_ hk => (⟨hk, hk.2⟩ : _ ∧ k_ ≠ gb678))) (fun _ hk => hk.2) (.slice Ao105 t670.length co105)) (fun _ hk => hk.2) (.int .i64 t673)) (fun _ hk => hk.2) (.int .i64 t674)) (fun _ hk => hk.2) (.int .i64 t675)) (fun _ hk => hk.2) (.bool t676)) (fun _ hk => ⟨hk.1.1.1, ⟨hk.1.1.2.1, ⟨hk.1.1.2.2.1, ⟨hk.1.1.2.2.2, hk.1.2⟩⟩⟩⟩)))⟩; have n3_ : Aside0 (Kd.V Kd.string 9 w110 w.heap.size (fun k_ => some k_ ≠ (.slice Ao37 x7_1.length co37 : Value).ownBlock ∧ k_ ≠ gb636 ∧ k_ ≠ gb658 ∧ k_ ≠ gb668 ∧ k_ ≠ gb678) (.slice Ao40 t660.length co40) t660) := ⟨(by rw [hw]; exact (by (with_reducible repeat (first | apply Kd.V_alloc | apply Kd.V_drewN | apply Kd.V_drew)); exact Kd.V_mono (Kd.V_far (p := ⟨gb678, 4, none⟩) (Kd.V_far (p := ⟨gb678, 3, none⟩) (Kd.V_far (p := ⟨gb678, 2, none⟩) (Kd.V_far (p := ⟨gb678, 1, none⟩) (Kd.V_far (p := ⟨gb678, 0, none⟩) (Kd.V_mono HO_669000.out (fun k_ hk => (⟨hk, hk.2⟩ : _ ∧ k_ ≠ gb678))) (fun _ hk => hk.2) (.slice Ao105 t670.length co105)) (fun _ hk => hk.2) (.int .i64 t673)) (fun _ hk => hk.2) (.int .i64 t674)) (fun _ hk => hk.2) (.int .i64 t675)) (fun _ hk => hk.2) (.bool t676)) (fun _ hk => ⟨hk.1.1.1, ⟨hk.1.1.2.1, ⟨hk.1.1.2.2.1, ⟨hk.1.1.2.2.2, hk.1.2⟩⟩⟩⟩)))⟩; have n4_ : Aside0 (Kd.V Kd.string 9 w110 w.heap.size (fun k_ => some k_ ≠ (.slice Ao37 x7_1.length co37 : Value).ownBlock ∧ k_ ≠ gb636 ∧ k_ ≠ gb658 ∧ k_ ≠ gb668 ∧ k_ ≠ gb678) (.slice Ao105 t670.length co105) t670) := ⟨(by rw [hw]; exact (by (with_reducible repeat (first | apply Kd.V_alloc | apply Kd.V_drewN | apply Kd.V_drew)); exact Kd.V_mono (Kd.V_far (p := ⟨gb678, 4, none⟩) (Kd.V_far (p := ⟨gb678, 3, none⟩) (Kd.V_far (p := ⟨gb678, 2, none⟩) (Kd.V_far (p := ⟨gb678, 1, none⟩) (Kd.V_far (p := ⟨gb678, 0, none⟩) (Kd.V_mono HO672.out (fun k_ hk => (⟨hk, hk.2⟩ : _ ∧ k_ ≠ gb678))) (fun _ hk => hk.2) (.slice Ao105 t670.length co105)) (fun _ hk => hk.2) (.int .i64 t673)) (fun _ hk => hk.2) (.int .i64 t674)) (fun _ hk => hk.2) (.int .i64 t675)) (fun _ hk => hk.2) (.bool t676)) (fun _ hk => ⟨hk.1.1.1, ⟨hk.1.1.2.1, ⟨hk.1.1.2.2.1, ⟨hk.1.1.2.2.2, hk.1.2⟩⟩⟩⟩)))⟩; have n5_ : Aside0 (w110.heap[gb636]? = some (.cells #[.slice Ao12 t637.length co12] 24 (0, 0))) := ⟨(by rw [hw]; exact (by (with_reducible repeat (first | refine blk_drewN ?_ _ | refine blk_drew ?_ | refine blk_alloc ?_ _)); refine blk_far ?_ NB636_678.out _; (with_reducible repeat (first | refine blk_drewN ?_ _ | refine blk_drew ?_ | refine blk_alloc ?_ _)); refine blk_far ?_ NB636_678.out _; (with_reducible repeat (first | refine blk_drewN ?_ _ | refine blk_drew ?_ | refine blk_alloc ?_ _)); refine blk_far ?_ NB636_678.out _; (with_reducible repeat (first | refine blk_drewN ?_ _ | refine blk_drew ?_ | refine blk_alloc ?_ _)); refine blk_far ?_ NB636_678.out _; (with_reducible repeat (first | refine blk_drewN ?_ _ | refine blk_drew ?_ | refine blk_alloc ?_ _)); refine blk_far ?_ NB636_678.out _; (with_reducible repeat (first | refine blk_drewN ?_ _ | refine blk_drew ?_ | refine blk_alloc ?_ _)); exact BK636.out))⟩; have n6_ : Aside0 (w110.heap[gb658]? = some (.cells #[.slice Ao32 t647.length co32, .int .i64 t650, .int .i64 t651, .int .i64 t652, .bool t653] 26 (0, 0))) := ⟨(by rw [hw]; exact (by (with_reducible repeat (first | refine blk_drewN ?_ _ | refine blk_drew ?_ | refine blk_alloc ?_ _)); refine blk_far ?_ NB658_678.out _; (with_reducible repeat (first | refine blk_drewN ?_ _ | refine blk_drew ?_ | refine blk_alloc ?_ _)); refine blk_far ?_ NB658_678.out _; (with_reducible repeat (first | refine blk_drewN ?_ _ | refine blk_drew ?_ | refine blk_alloc ?_ _)); refine blk_far ?_ NB658_678.out _; (with_reducible repeat (first | refine blk_drewN ?_ _ | refine blk_drew ?_ | refine blk_alloc ?_ _)); refine blk_far ?_ NB658_678.out _; (with_reducible repeat (first | refine blk_drewN ?_ _ | refine blk_drew ?_ | refine blk_alloc ?_ _)); refine blk_far ?_ NB658_678.out _; (with_reducible repeat (first | refine blk_drewN ?_ _ | refine blk_drew ?_ | refine blk_alloc ?_ _)); exact BK658.out))⟩; have n7_ : Aside0 (w110.heap[gb668]? = some (.cells #[.slice Ao40 t660.length co40, .int .i64 t663, .int .i64 t664, .int .i64 t665, .bool t666] 26 (0, 0))) := ⟨(by rw [hw]; exact (by (with_reducible repeat (first | refine blk_drewN ?_ _ | refine blk_drew ?_ | refine blk_alloc ?_ _)); refine blk_far ?_ NB668_678.out _; (with_reducible repeat (first | refine blk_drewN ?_ _ | refine blk_drew ?_ | refine blk_alloc ?_ _)); refine blk_far ?_ NB668_678.out _; (with_reducible repeat (first | refine blk_drewN ?_ _ | refine blk_drew ?_ | refine blk_alloc ?_ _)); refine blk_far ?_ NB668_678.out _; (with_reducible repeat (first | refine blk_drewN ?_ _ | refine blk_drew ?_ | refine blk_alloc ?_ _)); refine blk_far ?_ NB668_678.out _; (with_reducible repeat (first | refine blk_drewN ?_ _ | refine blk_drew ?_ | refine blk_alloc ?_ _)); refine blk_far ?_ NB668_678.out _; (with_reducible repeat (first | refine blk_drewN ?_ _ | refine blk_drew ?_ | refine blk_alloc ?_ _)); exact BK668.out))⟩; have n8_ : Aside0 (w110.heap[gb678]? = some (.cells #[.slice Ao105 t670.length co105, .int .i64 t673, .int .i64 t674, .int .i64 t675, .bool t676] 26 (0, 0))) := ⟨(by rw [hw]; exact (by (with_reducible repeat (first | refine blk_drewN ?_ _ | refine blk_drew ?_ | refine blk_alloc ?_ _)); have h_ := BK678.out; exact pK 4 (pK 3 (pK 2 (pK 1 (pK 0 (h_)))))))⟩; have n9_ : Aside0 (Below w.heap.size w w110) := ⟨(by rw [hw]; exact (by repeat (first | (with_reducible first | exact HB.out | apply below_alloc | apply pw_below_drewN | apply below_drew1 | refine below_set ?_ GE636.out | refine below_set ?_ GE658.out | refine below_set ?_ GE668.out | refine below_set ?_ GE678.out) | exact HB.out)))⟩; clear hw HO_7 HO_637000 HO_659000 HO_669000 HO672 BK636 BK658 BK668 BK678 HB; have HO_7 := n0_; have HO_637000 := n1_; have HO_659000 := n2_; have HO_669000 := n3_; have HO672 := n4_; have BK636 := n5_; have BK658 := n6_; have BK668 := n7_; have BK678 := n8_; have HB := n9_; clear n0_ n1_ n2_ n3_ n4_ n5_ n6_ n7_ n8_ n9_; obtain ⟨hcz111_0, hcz111_1, hcz111_2, hcz111_3, hcz111_4⟩ := bC5 BK678.out; obtain ⟨hfz111_0, hfz111_1, hfz111_2, hfz111_3, hfz111_4⟩ := bF5 BK678.out) | ((with_reducible refine gate_callee (f := 12) rfl ?_); refine goesL_ (some 141) rfl rfl Try.func12 (by kernel_rfl) rfl #[.agg #[.slice Ao105 t670.length co105]] rfl mS ?_; (with_reducible refine (store_Boot.calls kj27 (fun k_ => (some k_ ≠ (.slice Ao37 x7_1.length co37 : Value).ownBlock ∧ (k_ ≠ gb636 ∧ (k_ ≠ gb658 ∧ (k_ ≠ gb668 ∧ k_ ≠ gb678))))) _ _ t670 t679 t682 t683 t684 t685 t686 t689 _ ?side1 A95.out).mono ?_); (case side1 => exact HO672.out); rintro e w112 ⟨v680, v687, rfl, ho0, ho1, hb⟩; refine ⟨_, rfl, ?_⟩; have n0_ := aA (Kd.R_elder' (mR HO_7.out) (Kd.R_base ho1) hb); have n1_ := aA (Kd.R_elder' (mR HO_637000.out) (Kd.R_base ho1) hb); have n2_ := aA (Kd.V_elder' (by (with_reducible repeat (first | apply Kd.V_alloc | apply Kd.V_drewN | apply Kd.V_drew)); exact HO_659000.out) (Kd.R_base ho1) hb); have n3_ := aA (Kd.V_elder' (by (with_reducible repeat (first | apply Kd.V_alloc | apply Kd.V_drewN | apply Kd.V_drew)); exact HO_669000.out) (Kd.R_base ho1) hb); have n4_ := aA (Kd.V_elder' (by (with_reducible repeat (first | apply Kd.V_alloc | apply Kd.V_drewN | apply Kd.V_drew)); exact HO672.out) (Kd.R_base ho1) hb); have n5_ := aA (Kd.V_lower (Kd.V_mono (ok' := fun k_ => some k_ ≠ (v687 : Value).ownBlock ∧ some k_ ≠ (.slice Ao37 x7_1.length co37 : Value).ownBlock ∧ k_ ≠ gb636 ∧ k_ ≠ gb658 ∧ k_ ≠ gb668 ∧ k_ ≠ gb678) ho0 (fun k_ hk_ => ⟨hk_.2, Or.elim hk_.1 (fun hs_ => hs_.1) (fun hn_ => (Kd.fresh' (Kd.R_lt (mR HO_7.out)) k_ hn_)), Or.elim hk_.1 (fun hs_ => hs_.2.1) (fun hn_ => (Kd.freshB (g := gb636) (o := .cells #[.slice Ao12 t637.length co12] 24 (0, 0)) (mK BK636.out) k_ hn_)), Or.elim hk_.1 (fun hs_ => hs_.2.2.1) (fun hn_ => (Kd.freshB (g := gb658) (o := .cells #[.slice Ao32 t647.length co32, .int .i64 t650, .int .i64 t651, .int .i64 t652, .bool t653] 26 (0, 0)) (mK BK658.out) k_ hn_)), Or.elim hk_.1 (fun hs_ => hs_.2.2.2.1) (fun hn_ => (Kd.freshB (g := gb668) (o := .cells #[.slice Ao40 t660.length co40, .int .i64 t663, .int .i64 t664, .int .i64 t665, .bool t666] 26 (0, 0)) (mK BK668.out) k_ hn_)), Or.elim hk_.1 (fun hs_ => hs_.2.2.2.2) (fun hn_ => (Kd.freshB (g := gb678) (o := .cells #[.slice Ao105 t670.length co105, .int .i64 t673, .int .i64 t674, .int .i64 t675, .bool t676] 26 (0, 0)) (mK BK678.out) k_ hn_))⟩)) (below_size (by repeat (first | (with_reducible first | exact HB.out | apply below_alloc | apply pw_below_drewN | apply below_drew1 | refine below_set ?_ GE636.out | refine below_set ?_ GE658.out | refine below_set ?_ GE668.out | refine below_set ?_ GE678.out) | exact HB.out)))); have n6_ := aA (Kd.R_lower (Kd.R_new' (Kd.R_new' (Kd.R_mono (ok' := fun k_ => True) ho1 (fun _ hk_ => trivial)) (Kd.R_lt (mR HO_7.out))) (Kd.R_lt (mR HO_637000.out))) (below_size (by repeat (first | (with_reducible first | exact HB.out | apply below_alloc | apply pw_below_drewN | apply below_drew1 | refine below_set ?_ GE636.out | refine below_set ?_ GE658.out | refine below_set ?_ GE668.out | refine below_set ?_ GE678.out) | exact HB.out)))); have n7_ := aA (bB BK636.out hb); have n8_ := aA (bB BK658.out hb); have n9_ := aA (bB BK668.out hb); have n10_ := aA (bB BK678.out hb); have n11_ := aA (below_step (by repeat (first | (with_reducible first | exact HB.out | apply below_alloc | apply pw_below_drewN | apply below_drew1 | refine below_set ?_ GE636.out | refine below_set ?_ GE658.out | refine below_set ?_ GE668.out | refine below_set ?_ GE678.out) | exact HB.out)) hb); clear HO_7 HO_637000 HO_659000 HO_669000 HO672 BK636 BK658 BK668 BK678 HB; have HO_7 := n0_; have HO_637000 := n1_; have HO_659000 := n2_; have HO_669000 := n3_; have HO672 := n4_; have HO681 := n5_; have HO688 := n6_; have BK636 := n7_; have BK658 := n8_; have BK668 := n9_; have BK678 := n10_; have HB := n11_; clear n0_ n1_ n2_ n3_ n4_ n5_ n6_ n7_ n8_ n9_ n10_ n11_; (try clear hb); (try clear hb2); (try clear hk); (try clear hi); (try clear ho0); (try clear ho1)) | ((with_reducible refine gate_dst (N := 18) rfl ?_); (try (refine gate_guard (by rfl) ?_; dsimp only)); refine box_event ?hg (N := 18) ?hd (cs := #[.slice none 0 0, .int .i64 0, .int .i64 0, .int .i64 0, .bool false]) (t := 26) ?hr ?_; (case hd => rfl); (case hg => rfl); (case hr => first | (go_simp; done) | (go_simp; rfl)); intro gb690 hg w113 hbox hb; have n0_ := aA (Kd.R_below (mR HO_7.out) hb); have n1_ := aA (Kd.R_below (mR HO_637000.out) hb); have n2_ := aA (Kd.V_below (Kd.V_elderB (by (with_reducible repeat (first | apply Kd.V_alloc | apply Kd.V_drewN | apply Kd.V_drew)); exact HO_659000.out) gb690 (Nat.le_of_eq hg.symm)) hb); have n3_ := aA (Kd.V_below (Kd.V_elderB (by (with_reducible repeat (first | apply Kd.V_alloc | apply Kd.V_drewN | apply Kd.V_drew)); exact HO_669000.out) gb690 (Nat.le_of_eq hg.symm)) hb); have n4_ := aA (Kd.V_below (Kd.V_elderB (by (with_reducible repeat (first | apply Kd.V_alloc | apply Kd.V_drewN | apply Kd.V_drew)); exact HO672.out) gb690 (Nat.le_of_eq hg.symm)) hb); have n5_ := aA (Kd.V_below (Kd.V_elderB (by (with_reducible repeat (first | apply Kd.V_alloc | apply Kd.V_drewN | apply Kd.V_drew)); exact HO681.out) gb690 (Nat.le_of_eq hg.symm)) hb); have n6_ := aA (Kd.R_below (mR HO688.out) hb); have n7_ := aA (bB BK636.out hb); have n8_ := aA (bB BK658.out hb); have n9_ := aA (bB BK668.out hb); have n10_ := aA (bB BK678.out hb); have n11_ := aA (below_step (by repeat (first | (with_reducible first | exact HB.out | apply below_alloc | apply pw_below_drewN | apply below_drew1 | refine below_set ?_ GE636.out | refine below_set ?_ GE658.out | refine below_set ?_ GE668.out | refine below_set ?_ GE678.out) | exact HB.out)) hb); have n12_ := aA (hbox); have n13_ := aA ((by rw [hg]; exact (below_size (by repeat (first | (with_reducible first | exact HB.out | apply below_alloc | apply pw_below_drewN | apply below_drew1 | refine below_set ?_ GE636.out | refine below_set ?_ GE658.out | refine below_set ?_ GE668.out | refine below_set ?_ GE678.out) | exact HB.out))) : w.heap.size ≤ gb690)); have n14_ := aA ((by rw [hg]; exact (below_size (by repeat (first | (with_reducible first | exact HB.out | apply below_alloc | apply pw_below_drewN | apply below_drew1 | refine below_set ?_ GE636.out | refine below_set ?_ GE658.out | refine below_set ?_ GE668.out | refine below_set ?_ GE678.out) | exact HB.out))) : w.heap.size ≤ gb690)); have n15_ := aA ((bL hg BK636.out)); have n16_ := aA ((bG hg BK636.out)); have n17_ := aA ((bL hg BK658.out)); have n18_ := aA ((bG hg BK658.out)); have n19_ := aA ((bL hg BK668.out)); have n20_ := aA ((bG hg BK668.out)); have n21_ := aA ((bL hg BK678.out)); have n22_ := aA ((bG hg BK678.out)); clear HO_7 HO_637000 HO_659000 HO_669000 HO672 HO681 HO688 BK636 BK658 BK668 BK678 HB; have HO_7 := n0_; have HO_637000 := n1_; have HO_659000 := n2_; have HO_669000 := n3_; have HO672 := n4_; have HO681 := n5_; have HO688 := n6_; have BK636 := n7_; have BK658 := n8_; have BK668 := n9_; have BK678 := n10_; have HB := n11_; have BK690 := n12_; have GW690 := n13_; have GE690 := n14_; have NB636_690 := n15_; have NB690_636 := n16_; have NB658_690 := n17_; have NB690_658 := n18_; have NB668_690 := n19_; have NB690_668 := n20_; have NB678_690 := n21_; have NB690_678 := n22_; clear n0_ n1_ n2_ n3_ n4_ n5_ n6_ n7_ n8_ n9_ n10_ n11_ n12_ n13_ n14_ n15_ n16_ n17_ n18_ n19_ n20_ n21_ n22_ hb hbox hg; obtain ⟨Ao114, co114, eo114⟩ := Kd.V_slice HO681.out; subst eo114; have hnb115 := NB690_636.out; have hnc115 := NB636_690.out; have hnb116 := NB690_658.out; have hnc116 := NB658_690.out; have hnb117 := NB690_668.out; have hnc117 := NB668_690.out; have hnb118 := NB690_678.out; have hnc118 := NB678_690.out; obtain ⟨hcz119_0, hcz119_1, hcz119_2, hcz119_3, hcz119_4⟩ := bC5 BK690.out; obtain ⟨hfz119_0, hfz119_1, hfz119_2, hfz119_3, hfz119_4⟩ := bF5 BK690.out) | ((with_reducible refine gate_builtin (b := .append) (xs := #[.tmp 153, .tmp 155]) rfl ?_); (try (refine gate_guard (by rfl) ?_; dsimp only)); at_builtin; refine Kd.R_append Kd.string (w0 := w) w.heap.size rfl (.tmp 153) (.tmp 155) 22 9 (.string ⟨#[]⟩) 16 rfl Try.underlying22 info9 rfl (by decide) (by omega) (.slice Ao37 x7_1.length co37) x7_1 (a2.extract 0 ((ji5) : Int).toNat) [.string (a2.extract 0 ((ji5) : Int).toNat)] (fun k_ => some k_ ≠ (.slice Ao12 t637.length co12 : Value).ownBlock ∧ some k_ ≠ (v687 : Value).ownBlock) (fun _ => False) rfl (by first | (go_simp; done) | (go_simp; rfl)) ?aP (fun _ hk => hk.elim) ?aF ?aO ?aB ?aS ?aL ?_; (case aP => exact rfl); (case aB => exact (by repeat (first | (with_reducible first | exact HB.out | apply below_alloc | apply pw_below_drewN | apply below_drew1 | refine below_set ?_ GE636.out | refine below_set ?_ GE658.out | refine below_set ?_ GE668.out | refine below_set ?_ GE678.out | refine below_set ?_ GE690.out) | exact HB.out))); (case aF => exact (fun k_ hk => ⟨Kd.fresh' (Kd.R_lt (by (with_reducible repeat (first | apply Kd.R_alloc | apply Kd.R_drewN | apply Kd.R_drew)); exact (Kd.R_mono (rF 4 (rF 3 (rF 2 (rF 1 (rF 0 (Kd.R_types HO_637000.out BK690.out (by decide))))))) (fun _ h_ => h_.1)))) k_ hk, Kd.fresh' (Kd.R_lt (by (with_reducible repeat (first | apply Kd.R_alloc | apply Kd.R_drewN | apply Kd.R_drew)); exact (Kd.R_mono (rF 4 (rF 3 (rF 2 (rF 1 (rF 0 (Kd.R_types HO688.out BK690.out (by decide))))))) (fun _ h_ => h_.1)))) k_ hk⟩)); (case aO => exact (by (with_reducible repeat (first | apply Kd.R_alloc | apply Kd.R_drewN | apply Kd.R_drew)); exact Kd.R_mono (rF 4 (rF 3 (rF 2 (rF 1 (rF 0 (Kd.R_types HO_7.out BK690.out (by decide))))))) (fun _ hk => ⟨hk.1.1, hk.1.2⟩))); (case aS => exact (below_size (by repeat (first | (with_reducible first | exact HB.out | apply below_alloc | apply pw_below_drewN | apply below_drew1 | refine below_set ?_ GE636.out | refine below_set ?_ GE658.out | refine below_set ?_ GE668.out | refine below_set ?_ GE678.out | refine below_set ?_ GE690.out) | exact HB.out)))); (case aL => have := LMc98.out; omega); intro v692 w120 ho hb hg hat; rw [← Ny691.out] at ho; have n0_ := aA (Kd.R_after (ok := (fun k_ => some k_ ≠ (v687 : Value).ownBlock)) (by (with_reducible repeat (first | apply Kd.R_alloc | apply Kd.R_drewN | apply Kd.R_drew)); exact Kd.R_mono (rF 4 (rF 3 (rF 2 (rF 1 (rF 0 (Kd.R_types HO_637000.out BK690.out (by decide))))))) (fun _ hk => ⟨hk.1.2, hk.1.1⟩)) hg hat); have n1_ := aA (Kd.V_afterv (ok := (fun k_ => some k_ ≠ (v687 : Value).ownBlock ∧ k_ ≠ gb636 ∧ k_ ≠ gb658 ∧ k_ ≠ gb668 ∧ k_ ≠ gb678 ∧ k_ ≠ gb690)) (by (with_reducible repeat (first | apply Kd.V_alloc | apply Kd.V_drewN | apply Kd.V_drew)); exact Kd.V_mono (Kd.V_far (p := ⟨gb690, 4, none⟩) (Kd.V_far (p := ⟨gb690, 3, none⟩) (Kd.V_far (p := ⟨gb690, 2, none⟩) (Kd.V_far (p := ⟨gb690, 1, none⟩) (Kd.V_far (p := ⟨gb690, 0, none⟩) (Kd.V_mono HO_659000.out (fun k_ hk => (⟨hk, hk.2⟩ : _ ∧ k_ ≠ gb690))) (fun _ hk => hk.2) (.slice Ao114 t679.length co114)) (fun _ hk => hk.2) (.int .i64 t682)) (fun _ hk => hk.2) (.int .i64 t683)) (fun _ hk => hk.2) (.int .i64 t684)) (fun _ hk => hk.2) (.bool t685)) (fun _ hk => ⟨⟨hk.1.1.2, ⟨hk.1.1.1.2.1, ⟨hk.1.1.1.2.2.1, ⟨hk.1.1.1.2.2.2.1, ⟨hk.1.1.1.2.2.2.2, hk.1.2⟩⟩⟩⟩⟩, hk.1.1.1.1⟩)) hg hat); have n2_ := aA (Kd.V_afterv (ok := (fun k_ => some k_ ≠ (v687 : Value).ownBlock ∧ k_ ≠ gb636 ∧ k_ ≠ gb658 ∧ k_ ≠ gb668 ∧ k_ ≠ gb678 ∧ k_ ≠ gb690)) (by (with_reducible repeat (first | apply Kd.V_alloc | apply Kd.V_drewN | apply Kd.V_drew)); exact Kd.V_mono (Kd.V_far (p := ⟨gb690, 4, none⟩) (Kd.V_far (p := ⟨gb690, 3, none⟩) (Kd.V_far (p := ⟨gb690, 2, none⟩) (Kd.V_far (p := ⟨gb690, 1, none⟩) (Kd.V_far (p := ⟨gb690, 0, none⟩) (Kd.V_mono HO_669000.out (fun k_ hk => (⟨hk, hk.2⟩ : _ ∧ k_ ≠ gb690))) (fun _ hk => hk.2) (.slice Ao114 t679.length co114)) (fun _ hk => hk.2) (.int .i64 t682)) (fun _ hk => hk.2) (.int .i64 t683)) (fun _ hk => hk.2) (.int .i64 t684)) (fun _ hk => hk.2) (.bool t685)) (fun _ hk => ⟨⟨hk.1.1.2, ⟨hk.1.1.1.2.1, ⟨hk.1.1.1.2.2.1, ⟨hk.1.1.1.2.2.2.1, ⟨hk.1.1.1.2.2.2.2, hk.1.2⟩⟩⟩⟩⟩, hk.1.1.1.1⟩)) hg hat); have n3_ := aA (blk_grown (g := gb636) (o := .cells #[.slice Ao12 t637.length co12] 24 (0, 0)) (by (with_reducible repeat (first | refine blk_drewN ?_ _ | refine blk_drew ?_ | refine blk_alloc ?_ _)); refine blk_far ?_ NB636_690.out _; (with_reducible repeat (first | refine blk_drewN ?_ _ | refine blk_drew ?_ | refine blk_alloc ?_ _)); refine blk_far ?_ NB636_690.out _; (with_reducible repeat (first | refine blk_drewN ?_ _ | refine blk_drew ?_ | refine blk_alloc ?_ _)); refine blk_far ?_ NB636_690.out _; (with_reducible repeat (first | refine blk_drewN ?_ _ | refine blk_drew ?_ | refine blk_alloc ?_ _)); refine blk_far ?_ NB636_690.out _; (with_reducible repeat (first | refine blk_drewN ?_ _ | refine blk_drew ?_ | refine blk_alloc ?_ _)); refine blk_far ?_ NB636_690.out _; (with_reducible repeat (first | refine blk_drewN ?_ _ | refine blk_drew ?_ | refine blk_alloc ?_ _)); exact BK636.out) hg (Kd.R_ne HO_7.out BK636.out (by decide))); have n4_ := aA (blk_grown (g := gb658) (o := .cells #[.slice Ao32 t647.length co32, .int .i64 t650, .int .i64 t651, .int .i64 t652, .bool t653] 26 (0, 0)) (by (with_reducible repeat (first | refine blk_drewN ?_ _ | refine blk_drew ?_ | refine blk_alloc ?_ _)); refine blk_far ?_ NB658_690.out _; (with_reducible repeat (first | refine blk_drewN ?_ _ | refine blk_drew ?_ | refine blk_alloc ?_ _)); refine blk_far ?_ NB658_690.out _; (with_reducible repeat (first | refine blk_drewN ?_ _ | refine blk_drew ?_ | refine blk_alloc ?_ _)); refine blk_far ?_ NB658_690.out _; (with_reducible repeat (first | refine blk_drewN ?_ _ | refine blk_drew ?_ | refine blk_alloc ?_ _)); refine blk_far ?_ NB658_690.out _; (with_reducible repeat (first | refine blk_drewN ?_ _ | refine blk_drew ?_ | refine blk_alloc ?_ _)); refine blk_far ?_ NB658_690.out _; (with_reducible repeat (first | refine blk_drewN ?_ _ | refine blk_drew ?_ | refine blk_alloc ?_ _)); exact BK658.out) hg (Kd.R_ne HO_7.out BK658.out (by decide))); have n5_ := aA (blk_grown (g := gb668) (o := .cells #[.slice Ao40 t660.length co40, .int .i64 t663, .int .i64 t664, .int .i64 t665, .bool t666] 26 (0, 0)) (by (with_reducible repeat (first | refine blk_drewN ?_ _ | refine blk_drew ?_ | refine blk_alloc ?_ _)); refine blk_far ?_ NB668_690.out _; (with_reducible repeat (first | refine blk_drewN ?_ _ | refine blk_drew ?_ | refine blk_alloc ?_ _)); refine blk_far ?_ NB668_690.out _; (with_reducible repeat (first | refine blk_drewN ?_ _ | refine blk_drew ?_ | refine blk_alloc ?_ _)); refine blk_far ?_ NB668_690.out _; (with_reducible repeat (first | refine blk_drewN ?_ _ | refine blk_drew ?_ | refine blk_alloc ?_ _)); refine blk_far ?_ NB668_690.out _; (with_reducible repeat (first | refine blk_drewN ?_ _ | refine blk_drew ?_ | refine blk_alloc ?_ _)); refine blk_far ?_ NB668_690.out _; (with_reducible repeat (first | refine blk_drewN ?_ _ | refine blk_drew ?_ | refine blk_alloc ?_ _)); exact BK668.out) hg (Kd.R_ne HO_7.out BK668.out (by decide))); have n6_ := aA (Kd.V_afterv (ok := (fun k_ => some k_ ≠ (v687 : Value).ownBlock ∧ k_ ≠ gb636 ∧ k_ ≠ gb658 ∧ k_ ≠ gb668 ∧ k_ ≠ gb678 ∧ k_ ≠ gb690)) (by (with_reducible repeat (first | apply Kd.V_alloc | apply Kd.V_drewN | apply Kd.V_drew)); exact Kd.V_mono (Kd.V_far (p := ⟨gb690, 4, none⟩) (Kd.V_far (p := ⟨gb690, 3, none⟩) (Kd.V_far (p := ⟨gb690, 2, none⟩) (Kd.V_far (p := ⟨gb690, 1, none⟩) (Kd.V_far (p := ⟨gb690, 0, none⟩) (Kd.V_mono HO672.out (fun k_ hk => (⟨hk, hk.2⟩ : _ ∧ k_ ≠ gb690))) (fun _ hk => hk.2) (.slice Ao114 t679.length co114)) (fun _ hk => hk.2) (.int .i64 t682)) (fun _ hk => hk.2) (.int .i64 t683)) (fun _ hk => hk.2) (.int .i64 t684)) (fun _ hk => hk.2) (.bool t685)) (fun _ hk => ⟨⟨hk.1.1.2, ⟨hk.1.1.1.2.1, ⟨hk.1.1.1.2.2.1, ⟨hk.1.1.1.2.2.2.1, ⟨hk.1.1.1.2.2.2.2, hk.1.2⟩⟩⟩⟩⟩, hk.1.1.1.1⟩)) hg hat); have n7_ := aA (blk_grown (g := gb678) (o := .cells #[.slice Ao105 t670.length co105, .int .i64 t673, .int .i64 t674, .int .i64 t675, .bool t676] 26 (0, 0)) (by (with_reducible repeat (first | refine blk_drewN ?_ _ | refine blk_drew ?_ | refine blk_alloc ?_ _)); refine blk_far ?_ NB678_690.out _; (with_reducible repeat (first | refine blk_drewN ?_ _ | refine blk_drew ?_ | refine blk_alloc ?_ _)); refine blk_far ?_ NB678_690.out _; (with_reducible repeat (first | refine blk_drewN ?_ _ | refine blk_drew ?_ | refine blk_alloc ?_ _)); refine blk_far ?_ NB678_690.out _; (with_reducible repeat (first | refine blk_drewN ?_ _ | refine blk_drew ?_ | refine blk_alloc ?_ _)); refine blk_far ?_ NB678_690.out _; (with_reducible repeat (first | refine blk_drewN ?_ _ | refine blk_drew ?_ | refine blk_alloc ?_ _)); refine blk_far ?_ NB678_690.out _; (with_reducible repeat (first | refine blk_drewN ?_ _ | refine blk_drew ?_ | refine blk_alloc ?_ _)); exact BK678.out) hg (Kd.R_ne HO_7.out BK678.out (by decide))); have n8_ := aA (Kd.V_afterv (ok := (fun k_ => some k_ ≠ (v687 : Value).ownBlock ∧ k_ ≠ gb636 ∧ k_ ≠ gb658 ∧ k_ ≠ gb668 ∧ k_ ≠ gb678 ∧ k_ ≠ gb690)) (by (with_reducible repeat (first | apply Kd.V_alloc | apply Kd.V_drewN | apply Kd.V_drew)); exact Kd.V_mono (Kd.V_far (p := ⟨gb690, 4, none⟩) (Kd.V_far (p := ⟨gb690, 3, none⟩) (Kd.V_far (p := ⟨gb690, 2, none⟩) (Kd.V_far (p := ⟨gb690, 1, none⟩) (Kd.V_far (p := ⟨gb690, 0, none⟩) (Kd.V_mono HO681.out (fun k_ hk => (⟨hk, hk.2⟩ : _ ∧ k_ ≠ gb690))) (fun _ hk => hk.2) (.slice Ao114 t679.length co114)) (fun _ hk => hk.2) (.int .i64 t682)) (fun _ hk => hk.2) (.int .i64 t683)) (fun _ hk => hk.2) (.int .i64 t684)) (fun _ hk => hk.2) (.bool t685)) (fun _ hk => ⟨⟨hk.1.1.1, ⟨hk.1.1.2.2.1, ⟨hk.1.1.2.2.2.1, ⟨hk.1.1.2.2.2.2.1, ⟨hk.1.1.2.2.2.2.2, hk.1.2⟩⟩⟩⟩⟩, hk.1.1.2.1⟩)) hg hat); have n9_ := aA (Kd.R_after (ok := (fun k_ => some k_ ≠ (.slice Ao12 t637.length co12 : Value).ownBlock)) (by (with_reducible repeat (first | apply Kd.R_alloc | apply Kd.R_drewN | apply Kd.R_drew)); exact Kd.R_mono (rF 4 (rF 3 (rF 2 (rF 1 (rF 0 (Kd.R_types HO688.out BK690.out (by decide))))))) (fun _ hk => ⟨hk.1.2, hk.1.1.2⟩)) hg hat); have n10_ := aA (blk_grown (g := gb690) (o := .cells #[.slice Ao114 t679.length co114, .int .i64 t682, .int .i64 t683, .int .i64 t684, .bool t685] 26 (0, 0)) (by (with_reducible repeat (first | refine blk_drewN ?_ _ | refine blk_drew ?_ | refine blk_alloc ?_ _)); have h_ := BK690.out; exact pK 4 (pK 3 (pK 2 (pK 1 (pK 0 (h_)))))) hg (Kd.R_ne HO_7.out BK690.out (by decide))); have n11_ := aA (hb); have n12_ := aA (ho); clear HO_637000 HO_659000 HO_669000 BK636 BK658 BK668 HO672 BK678 HO681 HO688 BK690 HB HO_7; have HO_637000 := n0_; have HO_659000 := n1_; have HO_669000 := n2_; have BK636 := n3_; have BK658 := n4_; have BK668 := n5_; have HO672 := n6_; have BK678 := n7_; have HO681 := n8_; have HO688 := n9_; have BK690 := n10_; have HB := n11_; have HO693 := n12_; clear n0_ n1_ n2_ n3_ n4_ n5_ n6_ n7_ n8_ n9_ n10_ n11_ n12_ ho hb hg hat; obtain ⟨Ao121, co121, eo121⟩ := Kd.R_slice HO688.out; subst eo121; obtain ⟨Ao122, co122, eo122⟩ := Kd.R_slice HO693.out; subst eo122) | (go_at_call 20; (with_reducible refine (foghornref04_Texts.calls kj27 _ _ t686 _ _ y691 t694 _ ?side1 ?side2 ?side3 ?side4 A99.out).mono ?_); (case side1 => exact mC ((Kd.R_reads' HO688.out).2.2)); (case side2 => exact (Kd.R_reads' HO688.out).2.1); (case side3 => exact mC ((Kd.R_reads' HO693.out).2.2)); (case side4 => exact (Kd.R_reads' HO693.out).2.1); rintro e w' ⟨rfl, ⟨nd, rfl⟩⟩))
               go_ret
               exact ⟨by first | rfl | (simp [errW_none, errW_some] <;> rfl) | (simp only [← hji5]; first | rfl | (simp [errW_none, errW_some] <;> rfl)) | (simp [*, errW_none, errW_some] <;> rfl), by repeat (first | (with_reducible first | exact HB.out | apply below_alloc | apply pw_below_drewN | apply below_drew1 | refine below_set ?_ GE636.out | refine below_set ?_ GE658.out | refine below_set ?_ GE668.out | refine below_set ?_ GE678.out | refine below_set ?_ GE690.out) | exact HB.out)⟩
              ·rw [if_neg c98] at H
               exact absurd H (by simp)
             ·rw [if_neg c97] at H
              have c97b0 : (t689 == 0) = false := beq_eq_false_iff_ne.mpr c97
              have c97b1 : (t689 != 0) = true := bne_iff_ne.mpr c97
              exact absurd (Option.some.inj H) (by rw [hrt_]; decide)
            ·rw [if_neg c96] at H
             have c96b0 : (t677 == 0) = false := beq_eq_false_iff_ne.mpr c96
             have c96b1 : (t677 != 0) = true := bne_iff_ne.mpr c96
             exact absurd (Option.some.inj H) (by rw [hrt_]; decide)
       ·rw [if_neg c27] at H
        have c27b0 : (t667 == 0) = false := beq_eq_false_iff_ne.mpr c27
        have c27b1 : (t667 != 0) = true := bne_iff_ne.mpr c27
        by_cases c163 : t667 = 5
        ·rw [if_pos c163] at H
         have c163b0 : (t667 == 5) = true := beq_iff_eq.mpr c163
         have c163b1 : (t667 != 5) = false := bne_eq_false_iff_eq.mpr c163
         clear c163
         by_cases c164 : (x7_1.length : Int) > (wrap64 ((wrap64 ((t637.length : Int) / 2)) - 1))
         ·rw [if_pos c164] at H
          have c164b0 : decide ((wrap64 ((wrap64 ((t637.length : Int) / 2)) - 1)) < (x7_1.length : Int)) = true := decide_eq_true c164
          clear c164
          obtain rfl := Option.some.inj H
          have hcz165_0 : wr.cell? ⟨gb636, 0, none⟩ = some (.slice Ao12 t637.length co12) := (blk_cell BK636.out 0).trans rfl
          have hfz165_0 := blk_frozen BK636.out 0
          go_wp2_with (first | ((with_reducible refine gate_callee (f := 12) rfl ?_); refine goesL_ (some 48) rfl rfl Try.func12 (by kernel_rfl) rfl #[.agg #[.slice Ao12 t637.length co12]] rfl mS ?_; (with_reducible refine (store_Boot.calls k1 (fun k_ => some k_ = (.slice Ao12 t637.length co12 : Value).ownBlock) _ _ t637 t647 t650 t651 t652 t653 t654 t657 _ ?side1 A24.out).mono ?_); (case side1 => exact Kd.R_V (Kd.R_tight rfl (Kd.R_types (HO_637000.out) BK636.out (by decide)))); rintro e w166 ⟨v648, v655, rfl, ho0, ho1, hb⟩; refine ⟨_, rfl, ?_⟩; have n0_ := aA (Kd.R_elder' (mR HO_7.out) (Kd.R_base ho1) hb); have n1_ := aA (Kd.R_elder' (mR HO_31.out) (Kd.R_base ho1) hb); have n2_ := aA (Kd.R_elder' (mR HO_637000.out) (Kd.R_base ho1) hb); have n3_ := aA (Kd.V_lower (Kd.V_mono (ok' := fun k_ => some k_ ≠ (v655 : Value).ownBlock ∧ some k_ ≠ (u7 : Value).ownBlock ∧ some k_ ≠ (.slice Ao15 t640.length co15 : Value).ownBlock ∧ k_ ≠ gb636) ho0 (fun k_ hk_ => ⟨hk_.2, Or.elim hk_.1 (fun hs_ => ((Kd.R_types (HO_637000.out) BK636.out (by decide)).1 k_ hs_.symm).1.1) (fun hn_ => (Kd.fresh' (Kd.R_lt (mR HO_7.out)) k_ hn_)), Or.elim hk_.1 (fun hs_ => ((Kd.R_types (HO_637000.out) BK636.out (by decide)).1 k_ hs_.symm).1.2) (fun hn_ => (Kd.fresh' (Kd.R_lt (mR HO_31.out)) k_ hn_)), Or.elim hk_.1 (fun hs_ => ((Kd.R_types (HO_637000.out) BK636.out (by decide)).1 k_ hs_.symm).2) (fun hn_ => (Kd.freshB (g := gb636) (o := .cells #[.slice Ao12 t637.length co12] 24 (0, 0)) (mK BK636.out) k_ hn_))⟩)) (below_size (mD1 GE636.out))); have n4_ := aA (Kd.R_lower (Kd.R_new' (Kd.R_new' (Kd.R_new' (Kd.R_mono (ok' := fun k_ => True) ho1 (fun _ hk_ => trivial)) (Kd.R_lt (mR HO_7.out))) (Kd.R_lt (mR HO_31.out))) (Kd.R_lt (mR HO_637000.out))) (below_size (mD1 GE636.out))); have n5_ := aA (bB BK636.out hb); have n6_ := aA (below_step (mD1 GE636.out) hb); clear HO_7 HO_31 HO_637000 BK636 HB; have HO_7 := n0_; have HO_31 := n1_; have HO_637000 := n2_; have HO649 := n3_; have HO656 := n4_; have BK636 := n5_; have HB := n6_; clear n0_ n1_ n2_ n3_ n4_ n5_ n6_; (try clear hb); (try clear hb2); (try clear hk); (try clear hi); (try clear ho0); (try clear ho1)) | ((with_reducible refine gate_dst (N := 10) rfl ?_); (try (refine gate_guard (by rfl) ?_; dsimp only)); refine box_event ?hg (N := 10) ?hd (cs := #[.slice none 0 0, .int .i64 0, .int .i64 0, .int .i64 0, .bool false]) (t := 26) ?hr ?_; (case hd => rfl); (case hg => rfl); (case hr => first | (go_simp; done) | (go_simp; rfl)); intro gb658 hg w167 hbox hb; have n0_ := aA (Kd.R_below (mR HO_7.out) hb); have n1_ := aA (Kd.R_below (mR HO_31.out) hb); have n2_ := aA (Kd.R_below (mR HO_637000.out) hb); have n3_ := aA (Kd.V_below (Kd.V_elderB (by (with_reducible repeat (first | apply Kd.V_alloc | apply Kd.V_drewN | apply Kd.V_drew)); exact HO649.out) gb658 (Nat.le_of_eq hg.symm)) hb); have n4_ := aA (Kd.R_below (mR HO656.out) hb); have n5_ := aA (bB BK636.out hb); have n6_ := aA (below_step (mD1 GE636.out) hb); have n7_ := aA (hbox); have n8_ := aA ((bZ hg (mD1 GE636.out))); have n9_ := aA ((bZ hg (mD1 GE636.out))); have n10_ := aA ((bL hg BK636.out)); have n11_ := aA ((bG hg BK636.out)); clear HO_7 HO_31 HO_637000 HO649 HO656 BK636 HB; have HO_7 := n0_; have HO_31 := n1_; have HO_637000 := n2_; have HO649 := n3_; have HO656 := n4_; have BK636 := n5_; have HB := n6_; have BK658 := n7_; have GW658 := n8_; have GE658 := n9_; have NB636_658 := n10_; have NB658_636 := n11_; clear n0_ n1_ n2_ n3_ n4_ n5_ n6_ n7_ n8_ n9_ n10_ n11_ hb hbox hg; obtain ⟨Ao168, co168, eo168⟩ := Kd.V_slice HO649.out; subst eo168; have hnb169 := NB658_636.out; have hnc169 := NB636_658.out; obtain ⟨hcz170_0, hcz170_1, hcz170_2, hcz170_3, hcz170_4⟩ := bC5 BK658.out; obtain ⟨hfz170_0, hfz170_1, hfz170_2, hfz170_3, hfz170_4⟩ := bF5 BK658.out) | ((with_reducible refine gate_store (t := 26) (p := 10) rfl ?_); refine store_event (t := 26) (p := 10) (v := ?vo_w171) (w1 := (((((w167.setCell ⟨gb658, 0, none⟩ (.slice Ao168 t647.length co168)).setCell ⟨gb658, 1, none⟩ (.int .i64 t650)).setCell ⟨gb658, 2, none⟩ (.int .i64 t651)).setCell ⟨gb658, 3, none⟩ (.int .i64 t652)).setCell ⟨gb658, 4, none⟩ (.bool t653))) ?hg ?ho ?hn ?hr ?_; (case ho => rfl); (case hg => rfl); (case hn => rfl); (case hr => first | (go_simp; done) | (go_simp; rfl)); intro w171 hw; have n0_ : Aside0 (Kd.R Kd.string 9 w171 w.heap.size (fun k_ => some k_ ≠ (.slice Ao15 t640.length co15 : Value).ownBlock ∧ some k_ ≠ (.slice Ao12 t637.length co12 : Value).ownBlock ∧ some k_ ≠ (v655 : Value).ownBlock) u7 x7_1) := ⟨(by rw [hw]; exact (by (with_reducible repeat (first | apply Kd.R_alloc | apply Kd.R_drewN | apply Kd.R_drew)); exact Kd.R_mono (rF 4 (rF 3 (rF 2 (rF 1 (rF 0 (Kd.R_types HO_7.out BK658.out (by decide))))))) (fun _ hk => ⟨hk.1.1.1, ⟨hk.1.1.2, hk.1.2⟩⟩)))⟩; have n1_ : Aside0 (Kd.R Kd.string 9 w171 w.heap.size (fun k_ => some k_ ≠ (u7 : Value).ownBlock ∧ some k_ ≠ (.slice Ao12 t637.length co12 : Value).ownBlock ∧ some k_ ≠ (v655 : Value).ownBlock) (.slice Ao15 t640.length co15) t640) := ⟨(by rw [hw]; exact (by (with_reducible repeat (first | apply Kd.R_alloc | apply Kd.R_drewN | apply Kd.R_drew)); exact Kd.R_mono (rF 4 (rF 3 (rF 2 (rF 1 (rF 0 (Kd.R_types HO_31.out BK658.out (by decide))))))) (fun _ hk => ⟨hk.1.1.1, ⟨hk.1.1.2, hk.1.2⟩⟩)))⟩; have n2_ : Aside0 (Kd.R Kd.string 9 w171 w.heap.size (fun k_ => some k_ ≠ (u7 : Value).ownBlock ∧ some k_ ≠ (.slice Ao15 t640.length co15 : Value).ownBlock ∧ some k_ ≠ (v655 : Value).ownBlock) (.slice Ao12 t637.length co12) t637) := ⟨(by rw [hw]; exact (by (with_reducible repeat (first | apply Kd.R_alloc | apply Kd.R_drewN | apply Kd.R_drew)); exact Kd.R_mono (rF 4 (rF 3 (rF 2 (rF 1 (rF 0 (Kd.R_types HO_637000.out BK658.out (by decide))))))) (fun _ hk => ⟨hk.1.1.1, ⟨hk.1.1.2, hk.1.2⟩⟩)))⟩; have n3_ : Aside0 (Kd.V Kd.string 9 w171 w.heap.size (fun k_ => some k_ ≠ (u7 : Value).ownBlock ∧ some k_ ≠ (.slice Ao15 t640.length co15 : Value).ownBlock ∧ some k_ ≠ (v655 : Value).ownBlock ∧ k_ ≠ gb636 ∧ k_ ≠ gb658) (.slice Ao168 t647.length co168) t647) := ⟨(by rw [hw]; exact (by (with_reducible repeat (first | apply Kd.V_alloc | apply Kd.V_drewN | apply Kd.V_drew)); exact Kd.V_mono (Kd.V_far (p := ⟨gb658, 4, none⟩) (Kd.V_far (p := ⟨gb658, 3, none⟩) (Kd.V_far (p := ⟨gb658, 2, none⟩) (Kd.V_far (p := ⟨gb658, 1, none⟩) (Kd.V_far (p := ⟨gb658, 0, none⟩) (Kd.V_mono HO649.out (fun k_ hk => (⟨hk, hk.2⟩ : _ ∧ k_ ≠ gb658))) (fun _ hk => hk.2) (.slice Ao168 t647.length co168)) (fun _ hk => hk.2) (.int .i64 t650)) (fun _ hk => hk.2) (.int .i64 t651)) (fun _ hk => hk.2) (.int .i64 t652)) (fun _ hk => hk.2) (.bool t653)) (fun _ hk => ⟨hk.1.1.2.1, ⟨hk.1.1.2.2.1, ⟨hk.1.1.1, ⟨hk.1.1.2.2.2, hk.1.2⟩⟩⟩⟩)))⟩; have n4_ : Aside0 (Kd.R Kd.string 9 w171 w.heap.size (fun k_ => some k_ ≠ (u7 : Value).ownBlock ∧ some k_ ≠ (.slice Ao15 t640.length co15 : Value).ownBlock ∧ some k_ ≠ (.slice Ao12 t637.length co12 : Value).ownBlock) v655 t654) := ⟨(by rw [hw]; exact (by (with_reducible repeat (first | apply Kd.R_alloc | apply Kd.R_drewN | apply Kd.R_drew)); exact Kd.R_mono (rF 4 (rF 3 (rF 2 (rF 1 (rF 0 (Kd.R_types HO656.out BK658.out (by decide))))))) (fun _ hk => ⟨hk.1.1.1.2, ⟨hk.1.1.2, hk.1.2⟩⟩)))⟩; have n5_ : Aside0 (w171.heap[gb636]? = some (.cells #[.slice Ao12 t637.length co12] 24 (0, 0))) := ⟨(by rw [hw]; exact (by (with_reducible repeat (first | refine blk_drewN ?_ _ | refine blk_drew ?_ | refine blk_alloc ?_ _)); refine blk_far ?_ NB636_658.out _; (with_reducible repeat (first | refine blk_drewN ?_ _ | refine blk_drew ?_ | refine blk_alloc ?_ _)); refine blk_far ?_ NB636_658.out _; (with_reducible repeat (first | refine blk_drewN ?_ _ | refine blk_drew ?_ | refine blk_alloc ?_ _)); refine blk_far ?_ NB636_658.out _; (with_reducible repeat (first | refine blk_drewN ?_ _ | refine blk_drew ?_ | refine blk_alloc ?_ _)); refine blk_far ?_ NB636_658.out _; (with_reducible repeat (first | refine blk_drewN ?_ _ | refine blk_drew ?_ | refine blk_alloc ?_ _)); refine blk_far ?_ NB636_658.out _; (with_reducible repeat (first | refine blk_drewN ?_ _ | refine blk_drew ?_ | refine blk_alloc ?_ _)); exact BK636.out))⟩; have n6_ : Aside0 (w171.heap[gb658]? = some (.cells #[.slice Ao168 t647.length co168, .int .i64 t650, .int .i64 t651, .int .i64 t652, .bool t653] 26 (0, 0))) := ⟨(by rw [hw]; exact (by (with_reducible repeat (first | refine blk_drewN ?_ _ | refine blk_drew ?_ | refine blk_alloc ?_ _)); have h_ := BK658.out; exact pK 4 (pK 3 (pK 2 (pK 1 (pK 0 (h_)))))))⟩; have n7_ : Aside0 (Below w.heap.size w w171) := ⟨(by rw [hw]; exact (mD2 GE636.out GE658.out))⟩; clear hw HO_7 HO_31 HO_637000 HO649 HO656 BK636 BK658 HB; have HO_7 := n0_; have HO_31 := n1_; have HO_637000 := n2_; have HO649 := n3_; have HO656 := n4_; have BK636 := n5_; have BK658 := n6_; have HB := n7_; clear n0_ n1_ n2_ n3_ n4_ n5_ n6_ n7_; obtain ⟨hcz172_0, hcz172_1, hcz172_2, hcz172_3, hcz172_4⟩ := bC5 BK658.out; obtain ⟨hfz172_0, hfz172_1, hfz172_2, hfz172_3, hfz172_4⟩ := bF5 BK658.out; obtain ⟨Ao173, co173, eo173⟩ := Kd.R_slice HO_7.out; subst eo173) | ((with_reducible refine gate_callee (f := 22) rfl ?_); refine goesL_ (some 62) rfl rfl Try.func22 (by kernel_rfl) rfl #[.agg #[.slice Ao168 t647.length co168, .int .i64 t650, .int .i64 t651, .int .i64 t652, .bool t653], .slice Ao173 x7_1.length co173, .slice none 0 0] rfl mS ?_; (refine (store_Turn.calls (fun k_ => (some k_ ≠ (.slice Ao173 x7_1.length co173 : Value).ownBlock ∧ (some k_ ≠ (.slice Ao15 t640.length co15 : Value).ownBlock ∧ (some k_ ≠ (v655 : Value).ownBlock ∧ (k_ ≠ gb636 ∧ k_ ≠ gb658))))) _ _ t647 t650 t651 t652 t653 _ _ x7_1 _ _ ([] : List (S45)) t660 t663 t664 t665 t666 t667 _ ?side1 ?side2 ?side3 ?side4 ?side5 A26.out).mono ?_); (case side1 => exact HO649.out); (case side2 => exact mC ((Kd.R_reads' HO_7.out).2.2)); (case side3 => exact (Kd.R_reads' HO_7.out).2.1); (case side4 => exact Kd.C_nil _ _); (case side5 => exact Nat.le_refl _); rintro e w174 ⟨v661, rfl, ho0, hb⟩; refine ⟨_, rfl, ?_⟩; have n0_ := aA (Kd.R_below (mR HO_7.out) hb); have n1_ := aA (Kd.R_below (mR HO_31.out) hb); have n2_ := aA (Kd.R_below (mR HO_637000.out) hb); have n3_ := aA (Kd.V_below (by (with_reducible repeat (first | apply Kd.V_alloc | apply Kd.V_drewN | apply Kd.V_drew)); exact HO649.out) hb); have n4_ := aA (Kd.R_below (mR HO656.out) hb); have n5_ := aA (Kd.V_lower (Kd.V_mono (ok' := fun k_ => some k_ ≠ (.slice Ao173 x7_1.length co173 : Value).ownBlock ∧ some k_ ≠ (.slice Ao15 t640.length co15 : Value).ownBlock ∧ some k_ ≠ (v655 : Value).ownBlock ∧ k_ ≠ gb636 ∧ k_ ≠ gb658) ho0 (fun k_ hk_ => ⟨Or.elim hk_ (fun hs_ => hs_.1) (fun hn_ => (Kd.fresh' (Kd.R_lt (mR HO_7.out)) k_ hn_)), Or.elim hk_ (fun hs_ => hs_.2.1) (fun hn_ => (Kd.fresh' (Kd.R_lt (mR HO_31.out)) k_ hn_)), Or.elim hk_ (fun hs_ => hs_.2.2.1) (fun hn_ => (Kd.fresh' (Kd.R_lt (mR HO656.out)) k_ hn_)), Or.elim hk_ (fun hs_ => hs_.2.2.2.1) (fun hn_ => (Kd.freshB (g := gb636) (o := .cells #[.slice Ao12 t637.length co12] 24 (0, 0)) (mK BK636.out) k_ hn_)), Or.elim hk_ (fun hs_ => hs_.2.2.2.2) (fun hn_ => (Kd.freshB (g := gb658) (o := .cells #[.slice Ao168 t647.length co168, .int .i64 t650, .int .i64 t651, .int .i64 t652, .bool t653] 26 (0, 0)) (mK BK658.out) k_ hn_))⟩)) (below_size (mD2 GE636.out GE658.out))); have n6_ := aA (bB BK636.out hb); have n7_ := aA (bB BK658.out hb); have n8_ := aA (below_step (mD2 GE636.out GE658.out) hb); clear HO_7 HO_31 HO_637000 HO649 HO656 BK636 BK658 HB; have HO_7 := n0_; have HO_31 := n1_; have HO_637000 := n2_; have HO649 := n3_; have HO656 := n4_; have HO662 := n5_; have BK636 := n6_; have BK658 := n7_; have HB := n8_; clear n0_ n1_ n2_ n3_ n4_ n5_ n6_ n7_ n8_; (try clear hb); (try clear hb2); (try clear hk); (try clear hi); (try clear ho0)) | ((with_reducible refine gate_dst (N := 13) rfl ?_); (try (refine gate_guard (by rfl) ?_; dsimp only)); refine box_event ?hg (N := 13) ?hd (cs := #[.slice none 0 0, .int .i64 0, .int .i64 0, .int .i64 0, .bool false]) (t := 26) ?hr ?_; (case hd => rfl); (case hg => rfl); (case hr => first | (go_simp; done) | (go_simp; rfl)); intro gb668 hg w175 hbox hb; have n0_ := aA (Kd.R_below (mR HO_7.out) hb); have n1_ := aA (Kd.R_below (mR HO_31.out) hb); have n2_ := aA (Kd.R_below (mR HO_637000.out) hb); have n3_ := aA (Kd.V_below (Kd.V_elderB (by (with_reducible repeat (first | apply Kd.V_alloc | apply Kd.V_drewN | apply Kd.V_drew)); exact HO649.out) gb668 (Nat.le_of_eq hg.symm)) hb); have n4_ := aA (Kd.R_below (mR HO656.out) hb); have n5_ := aA (Kd.V_below (Kd.V_elderB (by (with_reducible repeat (first | apply Kd.V_alloc | apply Kd.V_drewN | apply Kd.V_drew)); exact HO662.out) gb668 (Nat.le_of_eq hg.symm)) hb); have n6_ := aA (bB BK636.out hb); have n7_ := aA (bB BK658.out hb); have n8_ := aA (below_step (mD2 GE636.out GE658.out) hb); have n9_ := aA (hbox); have n10_ := aA ((bZ hg (mD2 GE636.out GE658.out))); have n11_ := aA ((bZ hg (mD2 GE636.out GE658.out))); have n12_ := aA ((bL hg BK636.out)); have n13_ := aA ((bG hg BK636.out)); have n14_ := aA ((bL hg BK658.out)); have n15_ := aA ((bG hg BK658.out)); clear HO_7 HO_31 HO_637000 HO649 HO656 HO662 BK636 BK658 HB; have HO_7 := n0_; have HO_31 := n1_; have HO_637000 := n2_; have HO649 := n3_; have HO656 := n4_; have HO662 := n5_; have BK636 := n6_; have BK658 := n7_; have HB := n8_; have BK668 := n9_; have GW668 := n10_; have GE668 := n11_; have NB636_668 := n12_; have NB668_636 := n13_; have NB658_668 := n14_; have NB668_658 := n15_; clear n0_ n1_ n2_ n3_ n4_ n5_ n6_ n7_ n8_ n9_ n10_ n11_ n12_ n13_ n14_ n15_ hb hbox hg; obtain ⟨Ao176, co176, eo176⟩ := Kd.V_slice HO662.out; subst eo176; have hnb177 := NB668_636.out; have hnc177 := NB636_668.out; have hnb178 := NB668_658.out; have hnc178 := NB658_668.out; obtain ⟨hcz179_0, hcz179_1, hcz179_2, hcz179_3, hcz179_4⟩ := bC5 BK668.out; obtain ⟨hfz179_0, hfz179_1, hfz179_2, hfz179_3, hfz179_4⟩ := bF5 BK668.out; have hcz180_0 : w175.cell? ⟨gb636, 0, none⟩ = some (.slice Ao12 t637.length co12) := (blk_cell BK636.out 0).trans rfl; have hfz180_0 := blk_frozen BK636.out 0))
          go_ret
          exact ⟨by first | rfl | (simp [errW_none, errW_some] <;> rfl) | (simp only [← hji5]; first | rfl | (simp [errW_none, errW_some] <;> rfl)) | (simp [*, errW_none, errW_some] <;> rfl), by repeat (first | (with_reducible first | exact HB.out | apply below_alloc | apply pw_below_drewN | apply below_drew1 | refine below_set ?_ GE636.out | refine below_set ?_ GE658.out | refine below_set ?_ GE668.out) | exact HB.out)⟩
         ·rw [if_neg c164] at H
          have c164b0 : decide ((wrap64 ((wrap64 ((t637.length : Int) / 2)) - 1)) < (x7_1.length : Int)) = false := decide_eq_false c164
          clear c164
          obtain rfl := Option.some.inj H
          have hcz181_0 : wr.cell? ⟨gb636, 0, none⟩ = some (.slice Ao12 t637.length co12) := (blk_cell BK636.out 0).trans rfl
          have hfz181_0 := blk_frozen BK636.out 0
          go_wp2_with (first | ((with_reducible refine gate_callee (f := 12) rfl ?_); refine goesL_ (some 48) rfl rfl Try.func12 (by kernel_rfl) rfl #[.agg #[.slice Ao12 t637.length co12]] rfl mS ?_; (with_reducible refine (store_Boot.calls k1 (fun k_ => some k_ = (.slice Ao12 t637.length co12 : Value).ownBlock) _ _ t637 t647 t650 t651 t652 t653 t654 t657 _ ?side1 A24.out).mono ?_); (case side1 => exact Kd.R_V (Kd.R_tight rfl (Kd.R_types (HO_637000.out) BK636.out (by decide)))); rintro e w182 ⟨v648, v655, rfl, ho0, ho1, hb⟩; refine ⟨_, rfl, ?_⟩; have n0_ := aA (Kd.R_elder' (mR HO_7.out) (Kd.R_base ho1) hb); have n1_ := aA (Kd.R_elder' (mR HO_31.out) (Kd.R_base ho1) hb); have n2_ := aA (Kd.R_elder' (mR HO_637000.out) (Kd.R_base ho1) hb); have n3_ := aA (Kd.V_lower (Kd.V_mono (ok' := fun k_ => some k_ ≠ (v655 : Value).ownBlock ∧ some k_ ≠ (u7 : Value).ownBlock ∧ some k_ ≠ (.slice Ao15 t640.length co15 : Value).ownBlock ∧ k_ ≠ gb636) ho0 (fun k_ hk_ => ⟨hk_.2, Or.elim hk_.1 (fun hs_ => ((Kd.R_types (HO_637000.out) BK636.out (by decide)).1 k_ hs_.symm).1.1) (fun hn_ => (Kd.fresh' (Kd.R_lt (mR HO_7.out)) k_ hn_)), Or.elim hk_.1 (fun hs_ => ((Kd.R_types (HO_637000.out) BK636.out (by decide)).1 k_ hs_.symm).1.2) (fun hn_ => (Kd.fresh' (Kd.R_lt (mR HO_31.out)) k_ hn_)), Or.elim hk_.1 (fun hs_ => ((Kd.R_types (HO_637000.out) BK636.out (by decide)).1 k_ hs_.symm).2) (fun hn_ => (Kd.freshB (g := gb636) (o := .cells #[.slice Ao12 t637.length co12] 24 (0, 0)) (mK BK636.out) k_ hn_))⟩)) (below_size (mD1 GE636.out))); have n4_ := aA (Kd.R_lower (Kd.R_new' (Kd.R_new' (Kd.R_new' (Kd.R_mono (ok' := fun k_ => True) ho1 (fun _ hk_ => trivial)) (Kd.R_lt (mR HO_7.out))) (Kd.R_lt (mR HO_31.out))) (Kd.R_lt (mR HO_637000.out))) (below_size (mD1 GE636.out))); have n5_ := aA (bB BK636.out hb); have n6_ := aA (below_step (mD1 GE636.out) hb); clear HO_7 HO_31 HO_637000 BK636 HB; have HO_7 := n0_; have HO_31 := n1_; have HO_637000 := n2_; have HO649 := n3_; have HO656 := n4_; have BK636 := n5_; have HB := n6_; clear n0_ n1_ n2_ n3_ n4_ n5_ n6_; (try clear hb); (try clear hb2); (try clear hk); (try clear hi); (try clear ho0); (try clear ho1)) | ((with_reducible refine gate_dst (N := 10) rfl ?_); (try (refine gate_guard (by rfl) ?_; dsimp only)); refine box_event ?hg (N := 10) ?hd (cs := #[.slice none 0 0, .int .i64 0, .int .i64 0, .int .i64 0, .bool false]) (t := 26) ?hr ?_; (case hd => rfl); (case hg => rfl); (case hr => first | (go_simp; done) | (go_simp; rfl)); intro gb658 hg w183 hbox hb; have n0_ := aA (Kd.R_below (mR HO_7.out) hb); have n1_ := aA (Kd.R_below (mR HO_31.out) hb); have n2_ := aA (Kd.R_below (mR HO_637000.out) hb); have n3_ := aA (Kd.V_below (Kd.V_elderB (by (with_reducible repeat (first | apply Kd.V_alloc | apply Kd.V_drewN | apply Kd.V_drew)); exact HO649.out) gb658 (Nat.le_of_eq hg.symm)) hb); have n4_ := aA (Kd.R_below (mR HO656.out) hb); have n5_ := aA (bB BK636.out hb); have n6_ := aA (below_step (mD1 GE636.out) hb); have n7_ := aA (hbox); have n8_ := aA ((bZ hg (mD1 GE636.out))); have n9_ := aA ((bZ hg (mD1 GE636.out))); have n10_ := aA ((bL hg BK636.out)); have n11_ := aA ((bG hg BK636.out)); clear HO_7 HO_31 HO_637000 HO649 HO656 BK636 HB; have HO_7 := n0_; have HO_31 := n1_; have HO_637000 := n2_; have HO649 := n3_; have HO656 := n4_; have BK636 := n5_; have HB := n6_; have BK658 := n7_; have GW658 := n8_; have GE658 := n9_; have NB636_658 := n10_; have NB658_636 := n11_; clear n0_ n1_ n2_ n3_ n4_ n5_ n6_ n7_ n8_ n9_ n10_ n11_ hb hbox hg; obtain ⟨Ao184, co184, eo184⟩ := Kd.V_slice HO649.out; subst eo184; have hnb185 := NB658_636.out; have hnc185 := NB636_658.out; obtain ⟨hcz186_0, hcz186_1, hcz186_2, hcz186_3, hcz186_4⟩ := bC5 BK658.out; obtain ⟨hfz186_0, hfz186_1, hfz186_2, hfz186_3, hfz186_4⟩ := bF5 BK658.out) | ((with_reducible refine gate_store (t := 26) (p := 10) rfl ?_); refine store_event (t := 26) (p := 10) (v := ?vo_w187) (w1 := (((((w183.setCell ⟨gb658, 0, none⟩ (.slice Ao184 t647.length co184)).setCell ⟨gb658, 1, none⟩ (.int .i64 t650)).setCell ⟨gb658, 2, none⟩ (.int .i64 t651)).setCell ⟨gb658, 3, none⟩ (.int .i64 t652)).setCell ⟨gb658, 4, none⟩ (.bool t653))) ?hg ?ho ?hn ?hr ?_; (case ho => rfl); (case hg => rfl); (case hn => rfl); (case hr => first | (go_simp; done) | (go_simp; rfl)); intro w187 hw; have n0_ : Aside0 (Kd.R Kd.string 9 w187 w.heap.size (fun k_ => some k_ ≠ (.slice Ao15 t640.length co15 : Value).ownBlock ∧ some k_ ≠ (.slice Ao12 t637.length co12 : Value).ownBlock ∧ some k_ ≠ (v655 : Value).ownBlock) u7 x7_1) := ⟨(by rw [hw]; exact (by (with_reducible repeat (first | apply Kd.R_alloc | apply Kd.R_drewN | apply Kd.R_drew)); exact Kd.R_mono (rF 4 (rF 3 (rF 2 (rF 1 (rF 0 (Kd.R_types HO_7.out BK658.out (by decide))))))) (fun _ hk => ⟨hk.1.1.1, ⟨hk.1.1.2, hk.1.2⟩⟩)))⟩; have n1_ : Aside0 (Kd.R Kd.string 9 w187 w.heap.size (fun k_ => some k_ ≠ (u7 : Value).ownBlock ∧ some k_ ≠ (.slice Ao12 t637.length co12 : Value).ownBlock ∧ some k_ ≠ (v655 : Value).ownBlock) (.slice Ao15 t640.length co15) t640) := ⟨(by rw [hw]; exact (by (with_reducible repeat (first | apply Kd.R_alloc | apply Kd.R_drewN | apply Kd.R_drew)); exact Kd.R_mono (rF 4 (rF 3 (rF 2 (rF 1 (rF 0 (Kd.R_types HO_31.out BK658.out (by decide))))))) (fun _ hk => ⟨hk.1.1.1, ⟨hk.1.1.2, hk.1.2⟩⟩)))⟩; have n2_ : Aside0 (Kd.R Kd.string 9 w187 w.heap.size (fun k_ => some k_ ≠ (u7 : Value).ownBlock ∧ some k_ ≠ (.slice Ao15 t640.length co15 : Value).ownBlock ∧ some k_ ≠ (v655 : Value).ownBlock) (.slice Ao12 t637.length co12) t637) := ⟨(by rw [hw]; exact (by (with_reducible repeat (first | apply Kd.R_alloc | apply Kd.R_drewN | apply Kd.R_drew)); exact Kd.R_mono (rF 4 (rF 3 (rF 2 (rF 1 (rF 0 (Kd.R_types HO_637000.out BK658.out (by decide))))))) (fun _ hk => ⟨hk.1.1.1, ⟨hk.1.1.2, hk.1.2⟩⟩)))⟩; have n3_ : Aside0 (Kd.V Kd.string 9 w187 w.heap.size (fun k_ => some k_ ≠ (u7 : Value).ownBlock ∧ some k_ ≠ (.slice Ao15 t640.length co15 : Value).ownBlock ∧ some k_ ≠ (v655 : Value).ownBlock ∧ k_ ≠ gb636 ∧ k_ ≠ gb658) (.slice Ao184 t647.length co184) t647) := ⟨(by rw [hw]; exact (by (with_reducible repeat (first | apply Kd.V_alloc | apply Kd.V_drewN | apply Kd.V_drew)); exact Kd.V_mono (Kd.V_far (p := ⟨gb658, 4, none⟩) (Kd.V_far (p := ⟨gb658, 3, none⟩) (Kd.V_far (p := ⟨gb658, 2, none⟩) (Kd.V_far (p := ⟨gb658, 1, none⟩) (Kd.V_far (p := ⟨gb658, 0, none⟩) (Kd.V_mono HO649.out (fun k_ hk => (⟨hk, hk.2⟩ : _ ∧ k_ ≠ gb658))) (fun _ hk => hk.2) (.slice Ao184 t647.length co184)) (fun _ hk => hk.2) (.int .i64 t650)) (fun _ hk => hk.2) (.int .i64 t651)) (fun _ hk => hk.2) (.int .i64 t652)) (fun _ hk => hk.2) (.bool t653)) (fun _ hk => ⟨hk.1.1.2.1, ⟨hk.1.1.2.2.1, ⟨hk.1.1.1, ⟨hk.1.1.2.2.2, hk.1.2⟩⟩⟩⟩)))⟩; have n4_ : Aside0 (Kd.R Kd.string 9 w187 w.heap.size (fun k_ => some k_ ≠ (u7 : Value).ownBlock ∧ some k_ ≠ (.slice Ao15 t640.length co15 : Value).ownBlock ∧ some k_ ≠ (.slice Ao12 t637.length co12 : Value).ownBlock) v655 t654) := ⟨(by rw [hw]; exact (by (with_reducible repeat (first | apply Kd.R_alloc | apply Kd.R_drewN | apply Kd.R_drew)); exact Kd.R_mono (rF 4 (rF 3 (rF 2 (rF 1 (rF 0 (Kd.R_types HO656.out BK658.out (by decide))))))) (fun _ hk => ⟨hk.1.1.1.2, ⟨hk.1.1.2, hk.1.2⟩⟩)))⟩; have n5_ : Aside0 (w187.heap[gb636]? = some (.cells #[.slice Ao12 t637.length co12] 24 (0, 0))) := ⟨(by rw [hw]; exact (by (with_reducible repeat (first | refine blk_drewN ?_ _ | refine blk_drew ?_ | refine blk_alloc ?_ _)); refine blk_far ?_ NB636_658.out _; (with_reducible repeat (first | refine blk_drewN ?_ _ | refine blk_drew ?_ | refine blk_alloc ?_ _)); refine blk_far ?_ NB636_658.out _; (with_reducible repeat (first | refine blk_drewN ?_ _ | refine blk_drew ?_ | refine blk_alloc ?_ _)); refine blk_far ?_ NB636_658.out _; (with_reducible repeat (first | refine blk_drewN ?_ _ | refine blk_drew ?_ | refine blk_alloc ?_ _)); refine blk_far ?_ NB636_658.out _; (with_reducible repeat (first | refine blk_drewN ?_ _ | refine blk_drew ?_ | refine blk_alloc ?_ _)); refine blk_far ?_ NB636_658.out _; (with_reducible repeat (first | refine blk_drewN ?_ _ | refine blk_drew ?_ | refine blk_alloc ?_ _)); exact BK636.out))⟩; have n6_ : Aside0 (w187.heap[gb658]? = some (.cells #[.slice Ao184 t647.length co184, .int .i64 t650, .int .i64 t651, .int .i64 t652, .bool t653] 26 (0, 0))) := ⟨(by rw [hw]; exact (by (with_reducible repeat (first | refine blk_drewN ?_ _ | refine blk_drew ?_ | refine blk_alloc ?_ _)); have h_ := BK658.out; exact pK 4 (pK 3 (pK 2 (pK 1 (pK 0 (h_)))))))⟩; have n7_ : Aside0 (Below w.heap.size w w187) := ⟨(by rw [hw]; exact (mD2 GE636.out GE658.out))⟩; clear hw HO_7 HO_31 HO_637000 HO649 HO656 BK636 BK658 HB; have HO_7 := n0_; have HO_31 := n1_; have HO_637000 := n2_; have HO649 := n3_; have HO656 := n4_; have BK636 := n5_; have BK658 := n6_; have HB := n7_; clear n0_ n1_ n2_ n3_ n4_ n5_ n6_ n7_; obtain ⟨hcz188_0, hcz188_1, hcz188_2, hcz188_3, hcz188_4⟩ := bC5 BK658.out; obtain ⟨hfz188_0, hfz188_1, hfz188_2, hfz188_3, hfz188_4⟩ := bF5 BK658.out; obtain ⟨Ao189, co189, eo189⟩ := Kd.R_slice HO_7.out; subst eo189) | ((with_reducible refine gate_callee (f := 22) rfl ?_); refine goesL_ (some 62) rfl rfl Try.func22 (by kernel_rfl) rfl #[.agg #[.slice Ao184 t647.length co184, .int .i64 t650, .int .i64 t651, .int .i64 t652, .bool t653], .slice Ao189 x7_1.length co189, .slice none 0 0] rfl mS ?_; (refine (store_Turn.calls (fun k_ => (some k_ ≠ (.slice Ao189 x7_1.length co189 : Value).ownBlock ∧ (some k_ ≠ (.slice Ao15 t640.length co15 : Value).ownBlock ∧ (some k_ ≠ (v655 : Value).ownBlock ∧ (k_ ≠ gb636 ∧ k_ ≠ gb658))))) _ _ t647 t650 t651 t652 t653 _ _ x7_1 _ _ ([] : List (S45)) t660 t663 t664 t665 t666 t667 _ ?side1 ?side2 ?side3 ?side4 ?side5 A26.out).mono ?_); (case side1 => exact HO649.out); (case side2 => exact mC ((Kd.R_reads' HO_7.out).2.2)); (case side3 => exact (Kd.R_reads' HO_7.out).2.1); (case side4 => exact Kd.C_nil _ _); (case side5 => exact Nat.le_refl _); rintro e w190 ⟨v661, rfl, ho0, hb⟩; refine ⟨_, rfl, ?_⟩; have n0_ := aA (Kd.R_below (mR HO_7.out) hb); have n1_ := aA (Kd.R_below (mR HO_31.out) hb); have n2_ := aA (Kd.R_below (mR HO_637000.out) hb); have n3_ := aA (Kd.V_below (by (with_reducible repeat (first | apply Kd.V_alloc | apply Kd.V_drewN | apply Kd.V_drew)); exact HO649.out) hb); have n4_ := aA (Kd.R_below (mR HO656.out) hb); have n5_ := aA (Kd.V_lower (Kd.V_mono (ok' := fun k_ => some k_ ≠ (.slice Ao189 x7_1.length co189 : Value).ownBlock ∧ some k_ ≠ (.slice Ao15 t640.length co15 : Value).ownBlock ∧ some k_ ≠ (v655 : Value).ownBlock ∧ k_ ≠ gb636 ∧ k_ ≠ gb658) ho0 (fun k_ hk_ => ⟨Or.elim hk_ (fun hs_ => hs_.1) (fun hn_ => (Kd.fresh' (Kd.R_lt (mR HO_7.out)) k_ hn_)), Or.elim hk_ (fun hs_ => hs_.2.1) (fun hn_ => (Kd.fresh' (Kd.R_lt (mR HO_31.out)) k_ hn_)), Or.elim hk_ (fun hs_ => hs_.2.2.1) (fun hn_ => (Kd.fresh' (Kd.R_lt (mR HO656.out)) k_ hn_)), Or.elim hk_ (fun hs_ => hs_.2.2.2.1) (fun hn_ => (Kd.freshB (g := gb636) (o := .cells #[.slice Ao12 t637.length co12] 24 (0, 0)) (mK BK636.out) k_ hn_)), Or.elim hk_ (fun hs_ => hs_.2.2.2.2) (fun hn_ => (Kd.freshB (g := gb658) (o := .cells #[.slice Ao184 t647.length co184, .int .i64 t650, .int .i64 t651, .int .i64 t652, .bool t653] 26 (0, 0)) (mK BK658.out) k_ hn_))⟩)) (below_size (mD2 GE636.out GE658.out))); have n6_ := aA (bB BK636.out hb); have n7_ := aA (bB BK658.out hb); have n8_ := aA (below_step (mD2 GE636.out GE658.out) hb); clear HO_7 HO_31 HO_637000 HO649 HO656 BK636 BK658 HB; have HO_7 := n0_; have HO_31 := n1_; have HO_637000 := n2_; have HO649 := n3_; have HO656 := n4_; have HO662 := n5_; have BK636 := n6_; have BK658 := n7_; have HB := n8_; clear n0_ n1_ n2_ n3_ n4_ n5_ n6_ n7_ n8_; (try clear hb); (try clear hb2); (try clear hk); (try clear hi); (try clear ho0)) | ((with_reducible refine gate_dst (N := 13) rfl ?_); (try (refine gate_guard (by rfl) ?_; dsimp only)); refine box_event ?hg (N := 13) ?hd (cs := #[.slice none 0 0, .int .i64 0, .int .i64 0, .int .i64 0, .bool false]) (t := 26) ?hr ?_; (case hd => rfl); (case hg => rfl); (case hr => first | (go_simp; done) | (go_simp; rfl)); intro gb668 hg w191 hbox hb; have n0_ := aA (Kd.R_below (mR HO_7.out) hb); have n1_ := aA (Kd.R_below (mR HO_31.out) hb); have n2_ := aA (Kd.R_below (mR HO_637000.out) hb); have n3_ := aA (Kd.V_below (Kd.V_elderB (by (with_reducible repeat (first | apply Kd.V_alloc | apply Kd.V_drewN | apply Kd.V_drew)); exact HO649.out) gb668 (Nat.le_of_eq hg.symm)) hb); have n4_ := aA (Kd.R_below (mR HO656.out) hb); have n5_ := aA (Kd.V_below (Kd.V_elderB (by (with_reducible repeat (first | apply Kd.V_alloc | apply Kd.V_drewN | apply Kd.V_drew)); exact HO662.out) gb668 (Nat.le_of_eq hg.symm)) hb); have n6_ := aA (bB BK636.out hb); have n7_ := aA (bB BK658.out hb); have n8_ := aA (below_step (mD2 GE636.out GE658.out) hb); have n9_ := aA (hbox); have n10_ := aA ((bZ hg (mD2 GE636.out GE658.out))); have n11_ := aA ((bZ hg (mD2 GE636.out GE658.out))); have n12_ := aA ((bL hg BK636.out)); have n13_ := aA ((bG hg BK636.out)); have n14_ := aA ((bL hg BK658.out)); have n15_ := aA ((bG hg BK658.out)); clear HO_7 HO_31 HO_637000 HO649 HO656 HO662 BK636 BK658 HB; have HO_7 := n0_; have HO_31 := n1_; have HO_637000 := n2_; have HO649 := n3_; have HO656 := n4_; have HO662 := n5_; have BK636 := n6_; have BK658 := n7_; have HB := n8_; have BK668 := n9_; have GW668 := n10_; have GE668 := n11_; have NB636_668 := n12_; have NB668_636 := n13_; have NB658_668 := n14_; have NB668_658 := n15_; clear n0_ n1_ n2_ n3_ n4_ n5_ n6_ n7_ n8_ n9_ n10_ n11_ n12_ n13_ n14_ n15_ hb hbox hg; obtain ⟨Ao192, co192, eo192⟩ := Kd.V_slice HO662.out; subst eo192; have hnb193 := NB668_636.out; have hnc193 := NB636_668.out; have hnb194 := NB668_658.out; have hnc194 := NB658_668.out; obtain ⟨hcz195_0, hcz195_1, hcz195_2, hcz195_3, hcz195_4⟩ := bC5 BK668.out; obtain ⟨hfz195_0, hfz195_1, hfz195_2, hfz195_3, hfz195_4⟩ := bF5 BK668.out; have hcz196_0 : w191.cell? ⟨gb636, 0, none⟩ = some (.slice Ao12 t637.length co12) := (blk_cell BK636.out 0).trans rfl; have hfz196_0 := blk_frozen BK636.out 0; obtain ⟨hcz197_0, hcz197_1, hcz197_2, hcz197_3, hcz197_4⟩ := bC5 BK658.out; obtain ⟨hfz197_0, hfz197_1, hfz197_2, hfz197_3, hfz197_4⟩ := bF5 BK658.out))
          go_ret
          exact ⟨by first | rfl | (simp [errW_none, errW_some] <;> rfl) | (simp only [← hji5]; first | rfl | (simp [errW_none, errW_some] <;> rfl)) | (simp [*, errW_none, errW_some] <;> rfl), by repeat (first | (with_reducible first | exact HB.out | apply below_alloc | apply pw_below_drewN | apply below_drew1 | refine below_set ?_ GE636.out | refine below_set ?_ GE658.out | refine below_set ?_ GE668.out) | exact HB.out)⟩
        ·rw [if_neg c163] at H
         have c163b0 : (t667 == 5) = false := beq_eq_false_iff_ne.mpr c163
         have c163b1 : (t667 != 5) = true := bne_iff_ne.mpr c163
         exact absurd (Option.some.inj H) (by rw [hrt_]; decide)
      ·rw [if_neg c25] at H
       have c25b0 : (t657 == 0) = false := beq_eq_false_iff_ne.mpr c25
       have c25b1 : (t657 != 0) = true := bne_iff_ne.mpr c25
       replace H := Option.bind_eq_some_iff.mp H
       obtain ⟨t659, A2140, H⟩ := H
       have A214 := aA A2140
       clear A2140
       by_cases c215 : t659 = true
       ·subst c215
        have H1 : (some (t657 != 5)) = some r := by rw [if_pos rfl] at H; exact H
        clear H
        have H := H1
        clear H1
        obtain rfl := Option.some.inj H
        have hcz216_0 : wr.cell? ⟨gb636, 0, none⟩ = some (.slice Ao12 t637.length co12) := (blk_cell BK636.out 0).trans rfl
        have hfz216_0 := blk_frozen BK636.out 0
        go_wp2_with (first | ((with_reducible refine gate_callee (f := 12) rfl ?_); refine goesL_ (some 48) rfl rfl Try.func12 (by kernel_rfl) rfl #[.agg #[.slice Ao12 t637.length co12]] rfl mS ?_; (with_reducible refine (store_Boot.calls k1 (fun k_ => some k_ = (.slice Ao12 t637.length co12 : Value).ownBlock) _ _ t637 t647 t650 t651 t652 t653 t654 t657 _ ?side1 A24.out).mono ?_); (case side1 => exact Kd.R_V (Kd.R_tight rfl (Kd.R_types (HO_637000.out) BK636.out (by decide)))); rintro e w217 ⟨v648, v655, rfl, ho0, ho1, hb⟩; refine ⟨_, rfl, ?_⟩; have n0_ := aA (Kd.R_elder' (mR HO_7.out) (Kd.R_base ho1) hb); have n1_ := aA (Kd.R_elder' (mR HO_31.out) (Kd.R_base ho1) hb); have n2_ := aA (Kd.R_elder' (mR HO_637000.out) (Kd.R_base ho1) hb); have n3_ := aA (Kd.V_lower (Kd.V_mono (ok' := fun k_ => some k_ ≠ (v655 : Value).ownBlock ∧ some k_ ≠ (u7 : Value).ownBlock ∧ some k_ ≠ (.slice Ao15 t640.length co15 : Value).ownBlock ∧ k_ ≠ gb636) ho0 (fun k_ hk_ => ⟨hk_.2, Or.elim hk_.1 (fun hs_ => ((Kd.R_types (HO_637000.out) BK636.out (by decide)).1 k_ hs_.symm).1.1) (fun hn_ => (Kd.fresh' (Kd.R_lt (mR HO_7.out)) k_ hn_)), Or.elim hk_.1 (fun hs_ => ((Kd.R_types (HO_637000.out) BK636.out (by decide)).1 k_ hs_.symm).1.2) (fun hn_ => (Kd.fresh' (Kd.R_lt (mR HO_31.out)) k_ hn_)), Or.elim hk_.1 (fun hs_ => ((Kd.R_types (HO_637000.out) BK636.out (by decide)).1 k_ hs_.symm).2) (fun hn_ => (Kd.freshB (g := gb636) (o := .cells #[.slice Ao12 t637.length co12] 24 (0, 0)) (mK BK636.out) k_ hn_))⟩)) (below_size (mD1 GE636.out))); have n4_ := aA (Kd.R_lower (Kd.R_new' (Kd.R_new' (Kd.R_new' (Kd.R_mono (ok' := fun k_ => True) ho1 (fun _ hk_ => trivial)) (Kd.R_lt (mR HO_7.out))) (Kd.R_lt (mR HO_31.out))) (Kd.R_lt (mR HO_637000.out))) (below_size (mD1 GE636.out))); have n5_ := aA (bB BK636.out hb); have n6_ := aA (below_step (mD1 GE636.out) hb); clear HO_7 HO_31 HO_637000 BK636 HB; have HO_7 := n0_; have HO_31 := n1_; have HO_637000 := n2_; have HO649 := n3_; have HO656 := n4_; have BK636 := n5_; have HB := n6_; clear n0_ n1_ n2_ n3_ n4_ n5_ n6_; (try clear hb); (try clear hb2); (try clear hk); (try clear hi); (try clear ho0); (try clear ho1)) | ((with_reducible refine gate_dst (N := 10) rfl ?_); (try (refine gate_guard (by rfl) ?_; dsimp only)); refine box_event ?hg (N := 10) ?hd (cs := #[.slice none 0 0, .int .i64 0, .int .i64 0, .int .i64 0, .bool false]) (t := 26) ?hr ?_; (case hd => rfl); (case hg => rfl); (case hr => first | (go_simp; done) | (go_simp; rfl)); intro gb658 hg w218 hbox hb; have n0_ := aA (Kd.R_below (mR HO_7.out) hb); have n1_ := aA (Kd.R_below (mR HO_31.out) hb); have n2_ := aA (Kd.R_below (mR HO_637000.out) hb); have n3_ := aA (Kd.V_below (Kd.V_elderB (by (with_reducible repeat (first | apply Kd.V_alloc | apply Kd.V_drewN | apply Kd.V_drew)); exact HO649.out) gb658 (Nat.le_of_eq hg.symm)) hb); have n4_ := aA (Kd.R_below (mR HO656.out) hb); have n5_ := aA (bB BK636.out hb); have n6_ := aA (below_step (mD1 GE636.out) hb); have n7_ := aA (hbox); have n8_ := aA ((bZ hg (mD1 GE636.out))); have n9_ := aA ((bZ hg (mD1 GE636.out))); have n10_ := aA ((bL hg BK636.out)); have n11_ := aA ((bG hg BK636.out)); clear HO_7 HO_31 HO_637000 HO649 HO656 BK636 HB; have HO_7 := n0_; have HO_31 := n1_; have HO_637000 := n2_; have HO649 := n3_; have HO656 := n4_; have BK636 := n5_; have HB := n6_; have BK658 := n7_; have GW658 := n8_; have GE658 := n9_; have NB636_658 := n10_; have NB658_636 := n11_; clear n0_ n1_ n2_ n3_ n4_ n5_ n6_ n7_ n8_ n9_ n10_ n11_ hb hbox hg; obtain ⟨Ao219, co219, eo219⟩ := Kd.V_slice HO649.out; subst eo219; have hnb220 := NB658_636.out; have hnc220 := NB636_658.out; obtain ⟨hcz221_0, hcz221_1, hcz221_2, hcz221_3, hcz221_4⟩ := bC5 BK658.out; obtain ⟨hfz221_0, hfz221_1, hfz221_2, hfz221_3, hfz221_4⟩ := bF5 BK658.out) | ((with_reducible refine gate_callee (f := 15) rfl ?_); refine goesL_ (some 54) rfl rfl Try.func15 (by kernel_rfl) rfl #[] rfl mS ?_; (with_reducible refine (foghornlaw04_alive.calls k1  true _ A214.out).mono ?_); rintro e w222 ⟨rfl, hb⟩; refine ⟨_, rfl, ?_⟩; have n0_ := aA (Kd.R_below (by (with_reducible repeat (first | apply Kd.R_alloc | apply Kd.R_drewN | apply Kd.R_drew)); exact (Kd.R_mono (rF 4 (rF 3 (rF 2 (rF 1 (rF 0 (Kd.R_types HO_7.out BK658.out (by decide))))))) (fun _ h_ => h_.1))) hb); have n1_ := aA (Kd.R_below (by (with_reducible repeat (first | apply Kd.R_alloc | apply Kd.R_drewN | apply Kd.R_drew)); exact (Kd.R_mono (rF 4 (rF 3 (rF 2 (rF 1 (rF 0 (Kd.R_types HO_31.out BK658.out (by decide))))))) (fun _ h_ => h_.1))) hb); have n2_ := aA (Kd.R_below (by (with_reducible repeat (first | apply Kd.R_alloc | apply Kd.R_drewN | apply Kd.R_drew)); exact (Kd.R_mono (rF 4 (rF 3 (rF 2 (rF 1 (rF 0 (Kd.R_types HO_637000.out BK658.out (by decide))))))) (fun _ h_ => h_.1))) hb); have n3_ := aA (Kd.V_below (by (with_reducible repeat (first | apply Kd.V_alloc | apply Kd.V_drewN | apply Kd.V_drew)); exact (Kd.V_mono (Kd.V_far (p := ⟨gb658, 4, none⟩) (Kd.V_far (p := ⟨gb658, 3, none⟩) (Kd.V_far (p := ⟨gb658, 2, none⟩) (Kd.V_far (p := ⟨gb658, 1, none⟩) (Kd.V_far (p := ⟨gb658, 0, none⟩) (Kd.V_mono HO649.out (fun k_ hk => (⟨hk, hk.2⟩ : _ ∧ k_ ≠ gb658))) (fun _ hk => hk.2) (.slice Ao219 t647.length co219)) (fun _ hk => hk.2) (.int .i64 t650)) (fun _ hk => hk.2) (.int .i64 t651)) (fun _ hk => hk.2) (.int .i64 t652)) (fun _ hk => hk.2) (.bool t653)) (fun _ h_ => h_.1))) hb); have n4_ := aA (Kd.R_below (by (with_reducible repeat (first | apply Kd.R_alloc | apply Kd.R_drewN | apply Kd.R_drew)); exact (Kd.R_mono (rF 4 (rF 3 (rF 2 (rF 1 (rF 0 (Kd.R_types HO656.out BK658.out (by decide))))))) (fun _ h_ => h_.1))) hb); have n5_ := aA (blk_below (g := gb636) (o := .cells #[.slice Ao12 t637.length co12] 24 (0, 0)) (by (with_reducible repeat (first | refine blk_drewN ?_ _ | refine blk_drew ?_ | refine blk_alloc ?_ _)); refine blk_far ?_ NB636_658.out _; (with_reducible repeat (first | refine blk_drewN ?_ _ | refine blk_drew ?_ | refine blk_alloc ?_ _)); refine blk_far ?_ NB636_658.out _; (with_reducible repeat (first | refine blk_drewN ?_ _ | refine blk_drew ?_ | refine blk_alloc ?_ _)); refine blk_far ?_ NB636_658.out _; (with_reducible repeat (first | refine blk_drewN ?_ _ | refine blk_drew ?_ | refine blk_alloc ?_ _)); refine blk_far ?_ NB636_658.out _; (with_reducible repeat (first | refine blk_drewN ?_ _ | refine blk_drew ?_ | refine blk_alloc ?_ _)); refine blk_far ?_ NB636_658.out _; (with_reducible repeat (first | refine blk_drewN ?_ _ | refine blk_drew ?_ | refine blk_alloc ?_ _)); exact BK636.out) hb); have n6_ := aA (blk_below (g := gb658) (o := .cells #[.slice Ao219 t647.length co219, .int .i64 t650, .int .i64 t651, .int .i64 t652, .bool t653] 26 (0, 0)) (by (with_reducible repeat (first | refine blk_drewN ?_ _ | refine blk_drew ?_ | refine blk_alloc ?_ _)); have h_ := BK658.out; exact pK 4 (pK 3 (pK 2 (pK 1 (pK 0 (h_)))))) hb); have n7_ := aA (below_step (mD2 GE636.out GE658.out) hb); clear HO_7 HO_31 HO_637000 HO649 HO656 BK636 BK658 HB; have HO_7 := n0_; have HO_31 := n1_; have HO_637000 := n2_; have HO649 := n3_; have HO656 := n4_; have BK636 := n5_; have BK658 := n6_; have HB := n7_; clear n0_ n1_ n2_ n3_ n4_ n5_ n6_ n7_; (try clear hb); (try clear hb2); (try clear hk); (try clear hi)))
        go_ret
        exact ⟨by first | rfl | (simp [errW_none, errW_some] <;> rfl) | (simp only [← hji5]; first | rfl | (simp [errW_none, errW_some] <;> rfl)) | (simp [*, errW_none, errW_some] <;> rfl), by repeat (first | (with_reducible first | exact HB.out | apply below_alloc | apply pw_below_drewN | apply below_drew1 | refine below_set ?_ GE636.out | refine below_set ?_ GE658.out) | exact HB.out)⟩
       ·replace c215 := Bool.eq_false_iff.mpr c215
        subst c215
        have H1 : (some false) = some r := by rw [if_neg (show ¬ (false = true) by decide)] at H; exact H
        clear H
        have H := H1
        clear H1
        exact absurd (Option.some.inj H) (by rw [hrt_]; decide)
  ·rw [if_neg c7] at H
   exact absurd H (by simp)
 ·rw [if_neg c6] at H
  exact absurd H (by simp)
end Go.Proofs.YtopaddpclipnjaaQ.P
namespace Go.Proofs.YtopaddpclipnjaaQ.P
open Go.RowKit Go.Proofs.YtopaddpclipnjaaW.PrintWords Go.Proofs.YtopaddpclipnjaaW.PrintLast Go.Proofs.YtopaddpclipnjaaW.PrintMore
attribute [local go_sem] max2_int min2_int max_two min_two max_three min_three max_four min_four
def foghornref02_Tear.l0 : Nat → Int → ByteArray → Int → List ByteArray → List ByteArray → Int → Int → Option (List ByteArray)
 | 0, _, _, _, _, _, _, _ => none
 | k + 1, x1, x2, x3, x9, x14, x15, x16 => if x16 < x15 then (if 0 ≤ x16 then (if x16 < (x14.length : Int) then (if x16 = x1 then (if 0 ≤ x3 then (if x3 ≤ (x2.size : Int) then (if x3 ≤ ((rdOf ByteArray.empty x14 x16).size : Int) then (if (x2.extract 0 (x3 : Int).toNat).size + ((rdOf ByteArray.empty x14 x16).extract (x3 : Int).toNat (rdOf ByteArray.empty x14 x16).size).size ≤ 9223372036854775807 then (if x9.length < 8796093022208 then (foghornref02_Tear.l0 k x1 x2 x3 (x9 ++ [(x2.extract 0 (x3 : Int).toNat) ++ ((rdOf ByteArray.empty x14 x16).extract (x3 : Int).toNat (rdOf ByteArray.empty x14 x16).size)]) x14 x15 (wrap64 (x16 + 1))) else (none)) else (none)) else (none)) else (none)) else (none)) else (if x9.length < 8796093022208 then (foghornref02_Tear.l0 k x1 x2 x3 (x9 ++ [rdOf ByteArray.empty x14 x16]) x14 x15 (wrap64 (x16 + 1))) else (none))) else (none)) else (none)) else (some x9)
theorem foghornref02_Tear.mono_l : ∀ k, (∀ y0 y1 y2 y3 y4 y5 y6, LeO (foghornref02_Tear.l0 k y0 y1 y2 y3 y4 y5 y6) (foghornref02_Tear.l0 (k + 1) y0 y1 y2 y3 y4 y5 y6))
 | 0 => fun _ _ _ _ _ _ _ r h => by simp [foghornref02_Tear.l0] at h
 | k + 1 => by
  have ih0 := foghornref02_Tear.mono_l k
  ·intro y0 y1 y2 y3 y4 y5 y6
   unfold foghornref02_Tear.l0
   repeat' first
   | (with_reducible exact ih0 _ _ _ _ _ _ _)
   | (with_reducible exact LeO.refl _)
   | (with_reducible exact LeO.none _)
   | (with_reducible refine LeO.ite ?_ ?_)
   | (with_reducible refine LeO.bind ?_ (fun _ => ?_))
   | exact ih0 _ _ _ _ _ _ _
   | exact LeO.none _
   | refine LeO.ite ?_ ?_
   | refine LeO.bind ?_ (fun _ => ?_)
end Go.Proofs.YtopaddpclipnjaaQ.P
namespace Go.Proofs.YtopaddpclipnjaaQ.P
open Go.RowKit Go.Proofs.YtopaddpclipnjaaW.PrintWords Go.Proofs.YtopaddpclipnjaaW.PrintLast Go.Proofs.YtopaddpclipnjaaW.PrintMore
attribute [local go_sem] max2_int min2_int max_two min_two max_three min_three max_four min_four
def foghornref02_Zeros.l0 : Nat → Int → ByteArray → Int → Option (ByteArray)
 | 0, _, _, _ => none
 | k + 1, x0, x3, x4 => if x4 < x0 then (if x3.size + 1 ≤ 9223372036854775807 then (foghornref02_Zeros.l0 k x0 (x3 ++ (⟨#[0]⟩ : ByteArray)) (wrap64 (x4 + 1))) else (none)) else (some x3)
def foghornref02_Zeros.f (k : Nat) (a0 : Int) : Option (ByteArray) := foghornref02_Zeros.l0 k a0 (⟨#[]⟩ : ByteArray) 0
theorem foghornref02_Zeros.mono_l : ∀ k, (∀ y0 y1 y2, LeO (foghornref02_Zeros.l0 k y0 y1 y2) (foghornref02_Zeros.l0 (k + 1) y0 y1 y2))
 | 0 => fun _ _ _ r h => by simp [foghornref02_Zeros.l0] at h
 | k + 1 => by
  have ih0 := foghornref02_Zeros.mono_l k
  ·intro y0 y1 y2
   unfold foghornref02_Zeros.l0
   repeat' first
   | (with_reducible exact ih0 _ _ _)
   | (with_reducible exact LeO.refl _)
   | (with_reducible exact LeO.none _)
   | (with_reducible refine LeO.ite ?_ ?_)
   | (with_reducible refine LeO.bind ?_ (fun _ => ?_))
   | exact ih0 _ _ _
   | exact LeO.none _
   | refine LeO.ite ?_ ?_
   | refine LeO.bind ?_ (fun _ => ?_)
theorem foghornref02_Zeros.mono : ∀ a0 k, LeO (foghornref02_Zeros.f k a0) (foghornref02_Zeros.f (k + 1) a0) := by
 intro a0 k
 have ih0 := foghornref02_Zeros.mono_l k
 unfold foghornref02_Zeros.f
 repeat' first
   | (with_reducible exact ih0 _ _ _)
   | (with_reducible exact LeO.refl _)
   | (with_reducible exact LeO.none _)
   | (with_reducible refine LeO.ite ?_ ?_)
   | (with_reducible refine LeO.bind ?_ (fun _ => ?_))
   | exact ih0 _ _ _
   | exact LeO.none _
   | refine LeO.ite ?_ ?_
   | refine LeO.bind ?_ (fun _ => ?_)
end Go.Proofs.YtopaddpclipnjaaQ.P
namespace Go.Proofs.YtopaddpclipnjaaQ.P
open Go.RowKit Go.Proofs.YtopaddpclipnjaaW.PrintWords Go.Proofs.YtopaddpclipnjaaW.PrintLast Go.Proofs.YtopaddpclipnjaaW.PrintMore
attribute [local go_sem] max2_int min2_int max_two min_two max_three min_three max_four min_four
def foghornref02_New.l0 : Nat → Int → Int → List ByteArray → Option (List ByteArray)
 | 0, _, _, _ => none
 | k + 1, x0, x4, x230000 => if x4 < x0 then ((foghornref02_Zeros.f k 128).bind fun t230 => (if x230000.length < 8796093022208 then (foghornref02_New.l0 k x0 (wrap64 (x4 + 1)) (x230000 ++ [t230])) else (none))) else (some x230000)
theorem foghornref02_New.mono_l : ∀ k, (∀ y0 y1 y2, LeO (foghornref02_New.l0 k y0 y1 y2) (foghornref02_New.l0 (k + 1) y0 y1 y2))
 | 0 => fun _ _ _ r h => by simp [foghornref02_New.l0] at h
 | k + 1 => by
  have ih0 := foghornref02_New.mono_l k
  ·intro y0 y1 y2
   unfold foghornref02_New.l0
   repeat' first
   | (with_reducible exact ih0 _ _ _)
   | (with_reducible exact foghornref02_Zeros.mono _ _)
   | (with_reducible exact LeO.refl _)
   | (with_reducible exact LeO.none _)
   | (with_reducible refine LeO.ite ?_ ?_)
   | (with_reducible refine LeO.bind ?_ (fun _ => ?_))
   | exact ih0 _ _ _
   | exact foghornref02_Zeros.mono _ _
   | exact LeO.none _
   | refine LeO.ite ?_ ?_
   | refine LeO.bind ?_ (fun _ => ?_)
end Go.Proofs.YtopaddpclipnjaaQ.P
namespace Go.Proofs.YtopaddpclipnjaaQ.P
open Go.RowKit Go.Proofs.YtopaddpclipnjaaW.PrintWords Go.Proofs.YtopaddpclipnjaaW.PrintLast Go.Proofs.YtopaddpclipnjaaW.PrintMore
attribute [local go_sem] max2_int min2_int max_two min_two max_three min_three max_four min_four
def foghornref04_Append.T1 : Bool × List (List Nat × List Nat) := (true, [([], []), ([], []), ([1], [1]), ([], []), ([3], [3]), ([], []), ([5], [5]), ([2, 4, 6], [2, 4, 6]), ([], []), ([8], [8]), ([], []), ([10], [10]), ([11], [11]), ([], []), ([9, 12, 13, 7], [9, 12, 13]), ([], []), ([0, 7, 14, 15, 14], [0, 7, 14, 15]), ([16], [16]), ([17], [17]), ([17], [17]), ([], []), ([20, 18, 16, 0, 1, 2, 3, 4, 5, 6, 7, 8, 9, 10, 11, 12, 13, 14, 15, 16, 17, 18, 20], [18, 20]), ([19, 21, 0, 1, 2, 3, 4, 5, 6, 7, 8, 9, 10, 11, 12, 13, 14, 15, 16, 17, 18, 19, 20, 21], [19])])
def foghornref04_Append.B1 : List Nat := [0, 0, 2, 0, 8, 0, 32, 126, 0, 256, 0, 1024, 3072, 0, 16382, 0, 65535, 131071, 262143, 262143, 0, 1572863, 4194303]
theorem foghornref04_Append.tab1 : rtab .any (opsOf Try.f25 1) = foghornref04_Append.T1 := by kernel_rfl
theorem foghornref04_Append.bits1 : waitsOk foghornref04_Append.T1.2 foghornref04_Append.B1 = true := by kernel_rfl
end Go.Proofs.YtopaddpclipnjaaQ.P
