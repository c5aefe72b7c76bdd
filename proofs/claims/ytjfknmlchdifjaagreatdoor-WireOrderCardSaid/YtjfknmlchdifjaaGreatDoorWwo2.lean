/- Part 2 of a proof: contracts and plain laws of what the statement reaches. No condition. -/
import Derived.Lib.Split
import Derived.Lib.Join
import Derived.Lib.IndexAny
import Derived.Lib.AtoiAll
import Derived.Lib.ItoaNum
import Derived.LoopTactic
import Derived.Outline
import Derived.Laws.RangeAny
import Derived.Laws.Runes
import Derived.WalkMore
import Derived.LoopN
import Derived.Deep.DeepCutAuto
import Derived.Lib.AtoiErrMem
import Derived.Test.YtjfknmlchdifjaaGreatDoorWwo1
set_option linter.unusedVariables false
set_option linter.unusedSimpArgs false
namespace Go.Proofs.YtjfknmlchdifjaaGreatDoor
open Go.RowKit
def splitL (c : UInt8) : List UInt8 → List (List UInt8)
  | [] => [[]]
  | b :: l => if b = c then [] :: splitL c l else (b :: (splitL c l).headD []) :: (splitL c l).tail
theorem splitL_ne (c : UInt8) : ∀ l, splitL c l ≠ []
  | [] => by simp [splitL]
  | b :: l => by unfold splitL; split <;> simp
theorem splitL_form (c : UInt8) (l : List UInt8) : ∃ h t, splitL c l = h :: t := by
  cases e : splitL c l with
  | nil => exact absurd e (splitL_ne c l)
  | cons h t => exact ⟨h, t, rfl⟩
theorem splitL_hit (c : UInt8) (l : List UInt8) : splitL c (c :: l) = [] :: splitL c l := by rw [splitL, if_pos rfl]
theorem splitL_miss {c b : UInt8} (h : b ≠ c) {l x : List UInt8} {t : List (List UInt8)} (e : splitL c l = x :: t) : splitL c (b :: l) = (b :: x) :: t := by rw [splitL, if_neg h, e]; rfl
theorem splitL_one {c : UInt8} : ∀ {x : List UInt8}, c ∉ x → splitL c x = [x]
  | [], _ => rfl
  | b :: x, h => splitL_miss (fun e => h (by simp [e])) (splitL_one (x := x) fun e => h (by simp [e]))
theorem splitL_app {c : UInt8} (l : List UInt8) : ∀ {x : List UInt8}, c ∉ x → splitL c (x ++ c :: l) = x :: splitL c l
  | [], _ => splitL_hit c l
  | b :: x, h => splitL_miss (fun e => h (by simp [e])) (splitL_app l (x := x) fun e => h (by simp [e]))
theorem splitL_len (c : UInt8) : ∀ l, (splitL c l).length ≤ l.length + 1
  | [] => by simp [splitL]
  | b :: l => by
    have := splitL_len c l
    unfold splitL
    split <;> simp <;> omega
theorem splitL_mem (c : UInt8) : ∀ l, ∀ x ∈ splitL c l, c ∉ x ∧ x.length ≤ l.length
  | [], x, h => by simp [splitL] at h; subst h; simp
  | b :: l, x, h => by
    obtain ⟨y, t, e⟩ := splitL_form c l
    have ih := splitL_mem c l
    by_cases hb : b = c
    · subst hb
      rw [splitL_hit, List.mem_cons] at h
      rcases h with rfl | h
      · simp
      · have := ih x h
        exact ⟨this.1, by simp; omega⟩
    · rw [splitL_miss hb e, List.mem_cons] at h
      rw [e] at ih
      rcases h with rfl | h
      · have := ih y (by simp)
        exact ⟨by simp; exact ⟨fun e => hb e.symm, this.1⟩, by simp; exact this.2⟩
      · have := ih x (by simp [h])
        exact ⟨this.1, by simp; omega⟩
def joinW (c : UInt8) : List (List UInt8) → List UInt8
  | [] => []
  | [x] => x
  | x :: y :: r => x ++ c :: joinW c (y :: r)
theorem split_join (c : UInt8) : ∀ {xs : List (List UInt8)}, xs ≠ [] → (∀ x ∈ xs, c ∉ x) → splitL c (joinW c xs) = xs
  | [], h, _ => absurd rfl h
  | [x], _, h => splitL_one (h x (by simp))
  | x :: y :: r, _, h => by
    rw [joinW, splitL_app _ (h x (by simp)), split_join c (xs := y :: r) (by simp) fun z hz => h z (by simp at hz ⊢; exact Or.inr hz)]
theorem lib_join (c : UInt8) : ∀ xs, Lib.join xs [c] = joinW c xs
  | [] => rfl
  | [x] => Lib.join_one x [c]
  | x :: y :: r => by
    have ih := lib_join c (y :: r)
    rw [Lib.join_cons] at ih ⊢
    unfold joinW
    rw [← ih]
    simp [Lib.joinTail]
theorem joinW_len (c : UInt8) : ∀ xs : List (List UInt8), (joinW c xs).length ≤ (xs.map List.length).sum + xs.length
  | [] => by simp [joinW]
  | [x] => by simp [joinW]
  | x :: y :: r => by
    have := joinW_len c (y :: r)
    simp [joinW] at this ⊢
    omega
theorem index_one_cut (c : UInt8) : ∀ l : List UInt8, (Lib.index l [c] = -1 ∧ c ∉ l) ∨ ∃ i : Nat, Lib.index l [c] = i ∧ c ∉ l.take i ∧ l = l.take i ++ c :: l.drop (i + 1)
  | [] => .inl ⟨rfl, by simp⟩
  | b :: l => by
    by_cases hb : b = c
    · subst hb
      exact .inr ⟨0, by simp [Lib.index], by simp, by simp⟩
    · have e : Lib.index (b :: l) [c] = if Lib.index l [c] == -1 then -1 else Lib.index l [c] + 1 := by
        rw [Lib.index, if_neg (by simp [List.isPrefixOf]; exact fun h => hb h.symm)]
      rcases index_one_cut c l with ⟨h1, h2⟩ | ⟨i, h1, h2, h3⟩
      · exact .inl ⟨by rw [e, h1]; rfl, by simp; exact ⟨fun h => hb h.symm, h2⟩⟩
      · refine .inr ⟨i + 1, ?_, ?_, ?_⟩
        · rw [e, h1, if_neg (by simp)]; push_cast; rfl
        · simp; exact ⟨fun h => hb h.symm, h2⟩
        · simp only [List.take_succ_cons, List.drop_succ_cons, List.cons_append]; rw [← h3]
theorem splitK_eq (c : UInt8) : ∀ (k : Nat) (l : List UInt8), l.count c ≤ k → Lib.splitK [c] 0 k l = splitL c l
  | 0, l, h => by
    have : c ∉ l := by rw [← List.count_eq_zero]; omega
    rw [splitL_one this]; rfl
  | k + 1, l, h => by
    rcases index_one_cut c l with ⟨h1, h2⟩ | ⟨i, h1, h2, h3⟩
    · rw [splitL_one h2, Lib.splitK, if_pos (by simp [h1])]
    · rw [Lib.splitK, if_neg (by rw [h1]; simp), h1, Int.toNat_natCast, Nat.add_zero]
      have hc : (l.drop (i + 1)).count c ≤ k := by
        rw [h3, List.count_append, List.count_cons_self] at h
        omega
      rw [show [c].length = 1 from rfl, splitK_eq c k _ hc]
      conv => rhs; rw [h3]
      rw [splitL_app _ h2]
def numV (l : List UInt8) : Nat := l.foldl (fun n c => 10 * n + (c.toNat - 48)) 0
def digB (c : UInt8) : Bool := decide (48 ≤ c.toNat) && decide (c.toNat ≤ 57)
theorem numV_snoc (l : List UInt8) (c : UInt8) : numV (l ++ [c]) = 10 * numV l + (c.toNat - 48) := by simp [numV]
theorem dec_dig : ∀ (k n : Nat), n < k → (Lib.decDigits n).all digB = true
  | 0, _, h => absurd h (by omega)
  | k + 1, n, h => by
    have hd : ∀ d, d < 10 → digB (UInt8.ofNat (48 + d)) = true := by decide
    rw [Lib.decDigits]
    split
    · rename_i h1
      rw [List.all_cons, hd n h1]; rfl
    · rw [List.all_append, dec_dig k (n / 10) (by omega), List.all_cons, hd (n % 10) (by omega)]; rfl
theorem dec_val : ∀ (k n : Nat), n < k → numV (Lib.decDigits n) = n
  | 0, _, h => absurd h (by omega)
  | k + 1, n, h => by
    have hd : ∀ d, d < 10 → (UInt8.ofNat (48 + d)).toNat - 48 = d := by decide
    rw [Lib.decDigits]
    split
    · rename_i h1; simpa [numV] using hd n h1
    · rw [numV_snoc, dec_val k (n / 10) (by omega), hd (n % 10) (by omega)]
      omega
theorem numV_dec (n : Nat) : numV (Lib.decDigits n) = n := dec_val (n + 1) n (by omega)
theorem dig_dec (n : Nat) : (Lib.decDigits n).all digB = true := dec_dig (n + 1) n (by omega)
theorem dec_ne (n : Nat) : Lib.decDigits n ≠ [] := by
  rw [Lib.decDigits]
  split <;> simp
def numB (l : List UInt8) : Bool := decide (Lib.decDigits (numV l) = l) && decide (numV l ≤ 1099511627776)
theorem numB_dec {n : Nat} (h : n ≤ 1099511627776) : numB (Lib.decDigits n) = true := by simp [numB, numV_dec, h]
theorem numB_no_dig {l : List UInt8} (h : l.all digB = false) : numB l = false := by
  unfold numB
  rw [decide_eq_false, Bool.false_and]
  intro e
  rw [← e, dig_dec] at h
  cases h
def atoiV (l : List UInt8) : Int := match Lib.atoiAll l with | .ok v => v | .range => Lib.atoiSat l | _ => 0
def atoiB (l : List UInt8) : Bool := match Lib.atoiAll l with | .ok v => decide (0 ≤ v) && decide (v ≤ 1099511627776) && decide (Lib.itoa v = l) | _ => false
theorem parse_dig : ∀ (l : List UInt8) (a : Nat), l.all digB = true → l.foldl (fun n c => 10 * n + (c.toNat - 48)) a ≤ 1099511627776 → Lib.parseUint10 a l = .ok (l.foldl (fun n c => 10 * n + (c.toNat - 48)) a)
  | [], a, _, _ => rfl
  | c :: l, a, h, hb => by
    have mono : ∀ (m : List UInt8) (x : Nat), x ≤ m.foldl (fun n c => 10 * n + (c.toNat - 48)) x := by
      intro m
      induction m with
      | nil => intro x; simp
      | cons d m ih => intro x; have := ih (10 * x + (d.toNat - 48)); simp only [List.foldl_cons]; omega
    simp only [List.all_cons, Bool.and_eq_true, digB, decide_eq_true_eq] at h
    have h1 := mono l (10 * a + (c.toNat - 48))
    simp only [List.foldl_cons] at hb ⊢
    rw [Lib.parseUint10, if_pos h.1, if_neg (by omega), if_neg (by omega), Nat.mul_comm a 10]
    exact parse_dig l _ h.2 hb
theorem atoi_num {l : List UInt8} (h : numB l = true) : Lib.atoiAll l = .ok (numV l : Int) := by
  have hd : l.all digB = true := by
    cases e : l.all digB with
    | true => rfl
    | false => rw [numB_no_dig e] at h; cases h
  simp only [numB, Bool.and_eq_true, decide_eq_true_eq] at h
  cases l with
  | nil => exact absurd h.1 (dec_ne _)
  | cons c r =>
    have hc : 48 ≤ c.toNat ∧ c.toNat ≤ 57 := by
      simp only [List.all_cons, Bool.and_eq_true, digB, decide_eq_true_eq] at hd
      exact hd.1
    have hp : Lib.parseMag (c :: r) = .ok (numV (c :: r)) := by
      unfold Lib.parseMag
      rw [if_neg (by simp)]
      exact parse_dig (c :: r) 0 hd h.2
    unfold Lib.atoiAll
    simp only
    rw [if_neg (by omega), hp]
    simp only
    rw [if_neg (by omega), if_neg (by omega), if_neg (by omega)]
theorem itoa_nat {v : Int} (h : 0 ≤ v) : Lib.itoa v = Lib.decDigits v.toNat := by unfold Lib.itoa; rw [if_neg (by omega)]
theorem atoiB_eq (l : List UInt8) : atoiB l = numB l := by
  cases h : numB l with
  | true =>
    have h0 := h
    simp only [numB, Bool.and_eq_true, decide_eq_true_eq] at h
    unfold atoiB
    rw [atoi_num h0]
    simp only [Bool.and_eq_true, decide_eq_true_eq]
    refine ⟨⟨by omega, by omega⟩, ?_⟩
    rw [itoa_nat (by omega), Int.toNat_natCast]
    exact h.1
  | false =>
    unfold atoiB
    split
    · rename_i v hv
      rw [← Bool.not_eq_true]
      intro e
      simp only [Bool.and_eq_true, decide_eq_true_eq] at e
      obtain ⟨⟨e0, e1⟩, e2⟩ := e
      rw [itoa_nat e0] at e2
      rw [← e2, numB_dec (by omega)] at h
      cases h
    · rfl
theorem atoiV_num {l : List UInt8} (h : numB l = true) : atoiV l = (numV l : Int) := by
  unfold atoiV
  rw [atoi_num h]
end Go.Proofs.YtjfknmlchdifjaaGreatDoor
namespace Go.Proofs.YtjfknmlchdifjaaGreatDoor
open Go.RowKit
attribute [local go_sem high] ext_size ext_cell ext_frozen alloc_cell alloc_frozen
def timeB (t : Int) : Bool := decide (0 ≤ t) && decide (t ≤ 1099511627776)
theorem tick_any (t : Int) (w : World) : Calls Tryz.prog 88 #[.int .i64 t] w fun e w' => e = .returned (.bool (timeB t)) ∧ Below w.heap.size w w' := by
  by_cases h0 : 0 ≤ t <;> by_cases h1 : t ≤ 1099511627776
  all_goals
    go_enter Tryz.func88, Tryz.ntmps88
    go_wp2_with fail
    go_ret
    exact ⟨ret_bool (by simp [timeB, h0, h1]), (by repeat (first | exact Below.refl _ _ | apply bal | apply bext | apply bdr | apply bdrN | (refine bst ?_ _ (by simp only [ext_size, size_alloc, size_set]; omega))))⟩
theorem isHush1_any (x : Mat) (w : World) (h1 : x.name.size ≤ maxLen) (h2 : x.value.size ≤ maxLen) :
    Calls Tryz.prog 90 #[matV x] w fun e w' => e = .returned (.bool (!matB x)) ∧ Below w.heap.size w w' := by
  have H := Lib.hid fun W => matcher_any x W h1 h2
  obtain ⟨k, n, v⟩ := x
  obtain ⟨b, hb⟩ : ∃ b, b = matB ⟨k, n, v⟩ := ⟨_, rfl⟩
  rw [← hb] at H ⊢
  unfold matV at *
  clear hb
  go_enter Tryz.func90, Tryz.ntmps90
  go_wp2_with fail
  refine (H.out _).mono ?_
  rintro e w' ⟨rfl, hb⟩
  obtain ⟨y1, rfl⟩ := ext_of hb
  clear hb
  go_wp2_with fail
  go_ret
  exact ⟨rfl, (by repeat (first | exact Below.refl _ _ | apply bal | apply bext | apply bdr | apply bdrN | (refine bst ?_ _ (by simp only [ext_size, size_alloc, size_set]; omega))))⟩
def hushB (f t : Int) (ms : List Mat) : Bool := timeB f && timeB t && decide (f < t) && decide (1 ≤ ms.length) && decide (ms.length ≤ 4) && !ms.any (fun m => !matB m)
theorem isHush_any (f t : Int) (v : Value) (ms : List Mat) (w : World) (hS : SlAt w v 3 ms.length (matsC ms)) (hm : MatsOk ms) :
    Calls Tryz.prog 47 #[.agg #[.int .i64 f, .int .i64 t, v]] w fun e w' => e = .returned (.bool (hushB f t ms)) ∧ Below w.heap.size w w' := by
  obtain ⟨a, c, rfl, hnc, hcm⟩ := hS.form
  have hen : Enters Tryz.prog 90 := enters_of Tryz.func90 (by kernel_rfl) rfl
  have H := Lib.hid fun W (h : SlAt W (Value.slice a ms.length c) 3 ms.length (matsC ms)) => containsFuncM _ ms 90 #[] (fun m => !matB m) W h (fun x hx W' _ => isHush1_any x W' (hm x hx).1 (hm x hx).2) hen
  have H1 := Lib.hid fun W => tick_any f W
  have H2 := Lib.hid fun W => tick_any t W
  have HS := Lib.hid hS
  unfold hushB
  obtain ⟨q, hq⟩ : ∃ q, q = ms.any (fun m => !matB m) := ⟨_, rfl⟩
  obtain ⟨b1, hb1⟩ : ∃ b, b = timeB f := ⟨_, rfl⟩
  obtain ⟨b2, hb2⟩ : ∃ b, b = timeB t := ⟨_, rfl⟩
  rw [← hq] at H ⊢
  rw [← hb1] at H1 ⊢
  rw [← hb2] at H2 ⊢
  have hm1 := hcm
  unfold maxLen at hm1
  clear hq hb1 hb2 hS hm hen hcm
  cases b1
  case false =>
    go_enter Tryz.func47, Tryz.ntmps47
    go_wp2_with fail
    refine (H1.out _).mono ?_
    rintro e w' ⟨rfl, hb⟩
    obtain ⟨y1, rfl⟩ := ext_of hb
    clear hb
    go_wp2_with fail
    go_ret
    exact ⟨rfl, (by repeat (first | exact Below.refl _ _ | apply bal | apply bext | apply bdr | apply bdrN | (refine bst ?_ _ (by simp only [ext_size, size_alloc, size_set]; omega))))⟩
  case true =>
  cases b2
  case false =>
    go_enter Tryz.func47, Tryz.ntmps47
    go_wp2_with fail
    refine (H1.out _).mono ?_
    rintro e w' ⟨rfl, hb⟩
    obtain ⟨y1, rfl⟩ := ext_of hb
    clear hb
    go_wp2_with fail
    refine (H2.out _).mono ?_
    rintro e w' ⟨rfl, hb⟩
    obtain ⟨y2, rfl⟩ := ext_of hb
    clear hb
    go_wp2_with fail
    go_ret
    exact ⟨rfl, (by repeat (first | exact Below.refl _ _ | apply bal | apply bext | apply bdr | apply bdrN | (refine bst ?_ _ (by simp only [ext_size, size_alloc, size_set]; omega))))⟩
  case true =>
  by_cases h1 : f < t
  case neg =>
    have h1' : t ≤ f := by omega
    go_enter Tryz.func47, Tryz.ntmps47
    go_wp2_with fail
    refine (H1.out _).mono ?_
    rintro e w' ⟨rfl, hb⟩
    obtain ⟨y1, rfl⟩ := ext_of hb
    clear hb
    go_wp2_with fail
    refine (H2.out _).mono ?_
    rintro e w' ⟨rfl, hb⟩
    obtain ⟨y2, rfl⟩ := ext_of hb
    clear hb
    go_wp2_with fail
    go_ret
    exact ⟨ret_bool (by first | rfl | rw [decide_eq_false (show ¬ f < t by omega)]; simp), (by repeat (first | exact Below.refl _ _ | apply bal | apply bext | apply bdr | apply bdrN | (refine bst ?_ _ (by simp only [ext_size, size_alloc, size_set]; omega))))⟩
  case pos =>
  have h1' : ¬ t ≤ f := by omega
  by_cases h2 : 1 ≤ ms.length
  case neg =>
    have h2' : ms.length < 1 := by omega
    go_enter Tryz.func47, Tryz.ntmps47
    go_wp2_with fail
    refine (H1.out _).mono ?_
    rintro e w' ⟨rfl, hb⟩
    obtain ⟨y1, rfl⟩ := ext_of hb
    clear hb
    go_wp2_with fail
    refine (H2.out _).mono ?_
    rintro e w' ⟨rfl, hb⟩
    obtain ⟨y2, rfl⟩ := ext_of hb
    clear hb
    go_wp2_with fail
    go_ret
    exact ⟨ret_bool (by first | rfl | rw [decide_eq_false (show ¬ 1 ≤ ms.length by omega)]; simp), (by repeat (first | exact Below.refl _ _ | apply bal | apply bext | apply bdr | apply bdrN | (refine bst ?_ _ (by simp only [ext_size, size_alloc, size_set]; omega))))⟩
  case pos =>
  have h2' : ¬ ms.length < 1 := by omega
  by_cases h3 : ms.length ≤ 4
  case neg =>
    have h3' : 4 < ms.length := by omega
    go_enter Tryz.func47, Tryz.ntmps47
    go_wp2_with fail
    refine (H1.out _).mono ?_
    rintro e w' ⟨rfl, hb⟩
    obtain ⟨y1, rfl⟩ := ext_of hb
    clear hb
    go_wp2_with fail
    refine (H2.out _).mono ?_
    rintro e w' ⟨rfl, hb⟩
    obtain ⟨y2, rfl⟩ := ext_of hb
    clear hb
    go_wp2_with fail
    go_ret
    exact ⟨ret_bool (by first | rfl | rw [decide_eq_false (show ¬ ms.length ≤ 4 by omega)]; simp), (by repeat (first | exact Below.refl _ _ | apply bal | apply bext | apply bdr | apply bdrN | (refine bst ?_ _ (by simp only [ext_size, size_alloc, size_set]; omega))))⟩
  case pos =>
    have h3' : ¬ 4 < ms.length := by omega
    go_enter Tryz.func47, Tryz.ntmps47
    go_wp2_with fail
    refine (H1.out _).mono ?_
    rintro e w' ⟨rfl, hb⟩
    obtain ⟨y1, rfl⟩ := ext_of hb
    clear hb
    go_wp2_with fail
    refine (H2.out _).mono ?_
    rintro e w' ⟨rfl, hb⟩
    obtain ⟨y2, rfl⟩ := ext_of hb
    clear hb
    go_wp2_with fail
    refine (H.out _ (HS.out.stay (by repeat (first | exact Below.refl _ _ | apply bal | apply bext | apply bdr | apply bdrN | (refine bst ?_ _ (by simp only [ext_size, size_alloc, size_set]; omega)))))).mono ?_
    rintro e w' ⟨rfl, hb⟩
    obtain ⟨y3, rfl⟩ := ext_of hb
    clear hb
    cases q
    all_goals
      go_wp2_with fail
      go_ret
      exact ⟨ret_bool (by first | rfl | (simp only [decide_eq_true h1, decide_eq_true h2, decide_eq_true h3]; rfl) | simp_all), (by repeat (first | exact Below.refl _ _ | apply bal | apply bext | apply bdr | apply bdrN | (refine bst ?_ _ (by simp only [ext_size, size_alloc, size_set]; omega))))⟩
end Go.Proofs.YtjfknmlchdifjaaGreatDoor
namespace Go.Proofs.YtjfknmlchdifjaaGreatDoor
open Go.RowKit
def signs : List UInt8 := [61, 33, 94, 63]
def kindOf (c : UInt8) : Int := if c = 61 then 0 else if c = 33 then 1 else if c = 94 then 2 else 3
def signOf (k : Int) : UInt8 := if k = 0 then 61 else if k = 1 then 33 else if k = 2 then 94 else 63
def cutP (p : UInt8 → Bool) : List UInt8 → Option (List UInt8 × UInt8 × List UInt8)
  | [] => none
  | b :: l => if p b = true then some ([], b, l) else (cutP p l).map fun r => (b :: r.1, r.2.1, r.2.2)
theorem cutP_none {p : UInt8 → Bool} : ∀ {l : List UInt8}, (∀ x ∈ l, p x = false) → cutP p l = none
  | [], _ => rfl
  | b :: l, h => by rw [cutP, if_neg (by simp [h b (by simp)]), cutP_none fun x hx => h x (by simp [hx])]; rfl
theorem cutP_app {p : UInt8 → Bool} {c : UInt8} (hc : p c = true) (r : List UInt8) : ∀ {x : List UInt8}, (∀ y ∈ x, p y = false) → cutP p (x ++ c :: r) = some (x, c, r)
  | [], _ => by rw [List.nil_append, cutP, if_pos hc]
  | b :: x, h => by rw [List.cons_append, cutP, if_neg (by simp [h b (by simp)]), cutP_app hc r fun y hy => h y (by simp [hy])]; rfl
theorem cutP_some {p : UInt8 → Bool} : ∀ {l x r : List UInt8} {c : UInt8}, cutP p l = some (x, c, r) → l = x ++ c :: r ∧ p c = true ∧ ∀ y ∈ x, p y = false
  | [], _, _, _, h => by simp [cutP] at h
  | b :: l, x, r, c, h => by
    unfold cutP at h
    split at h
    · rename_i hb
      injection h with h
      injection h with h1 h
      injection h with h2 h3
      subst h1 h2 h3
      exact ⟨rfl, hb, by simp⟩
    · rename_i hb
      cases e : cutP p l with
      | none => rw [e] at h; cases h
      | some q =>
        obtain ⟨x', c', r'⟩ := q
        rw [e] at h
        injection h with h
        injection h with h1 h
        injection h with h2 h3
        subst h1 h2 h3
        obtain ⟨i1, i2, i3⟩ := cutP_some e
        exact ⟨by rw [i1]; rfl, i2, by simp; exact ⟨by simpa using hb, i3⟩⟩
def signB (c : UInt8) : Bool := signs.contains c
def eqB (c : UInt8) : Bool := c == 61
def askW (m : Mat) : List UInt8 := m.name.data.toList ++ signOf m.kind :: m.value.data.toList
def askM (r : List UInt8 × UInt8 × List UInt8) : Mat := ⟨kindOf r.2.1, tx r.1, tx r.2.2⟩
def askP (l : List UInt8) : Option Mat := match cutP signB l with | none => none | some r => if matB (askM r) = true then some (askM r) else none
def labW (x : Lab) : List UInt8 := x.name.data.toList ++ 61 :: x.value.data.toList
def labM (r : List UInt8 × UInt8 × List UInt8) : Lab := ⟨tx r.1, tx r.2.2⟩
def labP (l : List UInt8) : Option Lab := match cutP eqB l with | none => none | some r => if labB (labM r) = true then some (labM r) else none
set_option maxRecDepth 100000 in
theorem az_sign : ∀ c : UInt8, azB c = true → signB c = false ∧ eqB c = false ∧ c ≠ 32 ∧ c ≠ 10 := by
  have : ∀ n : Fin 256, azB (UInt8.ofNat n.1) = true → signB (UInt8.ofNat n.1) = false ∧ eqB (UInt8.ofNat n.1) = false ∧ UInt8.ofNat n.1 ≠ 32 ∧ UInt8.ofNat n.1 ≠ 10 := by decide
  intro c
  have h := this ⟨c.toNat, c.toNat_lt⟩
  simpa using h
set_option maxRecDepth 100000 in
theorem av_blank : ∀ c : UInt8, avB c = true → c ≠ 32 ∧ c ≠ 10 := by
  have : ∀ n : Fin 256, avB (UInt8.ofNat n.1) = true → UInt8.ofNat n.1 ≠ 32 ∧ UInt8.ofNat n.1 ≠ 10 := by decide
  intro c
  have h := this ⟨c.toNat, c.toNat_lt⟩
  simpa using h
theorem sign_of (k : Int) : signB (signOf k) = true := by unfold signOf; (repeat' split) <;> decide
theorem kind_sign {k : Int} (h0 : 0 ≤ k) (h3 : k ≤ 3) : kindOf (signOf k) = k := by
  have : k = 0 ∨ k = 1 ∨ k = 2 ∨ k = 3 := by omega
  rcases this with rfl | rfl | rfl | rfl <;> decide
theorem nameB_all {s : ByteArray} (h : nameB s = true) : s.data.toList.all azB = true ∧ 1 ≤ s.size ∧ s.size ≤ 8 := by
  simp only [nameB, Bool.and_eq_true, decide_eq_true_eq] at h
  exact ⟨h.1.1, h.1.2, h.2⟩
theorem valB_all {s : ByteArray} (h : valB s = true) : s.data.toList.all avB = true ∧ s.size ≤ 8 := by
  simp only [valB, Bool.and_eq_true, decide_eq_true_eq] at h
  exact h
theorem matB_parts {m : Mat} (h : matB m = true) : 0 ≤ m.kind ∧ m.kind ≤ 3 ∧ nameB m.name = true ∧ valB m.value = true := by
  simp only [matB, Bool.and_eq_true, decide_eq_true_eq] at h
  exact ⟨h.1.1.1.1, h.1.1.1.2, h.1.1.2, h.1.2⟩
theorem askP_askW {m : Mat} (h : matB m = true) : askP (askW m) = some m := by
  obtain ⟨h0, h3, hn, hv⟩ := matB_parts h
  have e : cutP signB (askW m) = some (m.name.data.toList, signOf m.kind, m.value.data.toList) :=
    cutP_app (sign_of _) _ fun y hy => (az_sign y (List.all_eq_true.1 (nameB_all hn).1 y hy)).1
  have e2 : askM (m.name.data.toList, signOf m.kind, m.value.data.toList) = m := by
    obtain ⟨k, n, v⟩ := m
    simp only [askM, tx_of]
    rw [kind_sign h0 h3]
  unfold askP
  rw [e]
  simp only [e2]
  rw [if_pos h]
theorem labP_labW {x : Lab} (h : labB x = true) : labP (labW x) = some x := by
  have h0 := h
  unfold labB at h
  rw [Bool.and_eq_true] at h
  have e : cutP eqB (labW x) = some (x.name.data.toList, 61, x.value.data.toList) :=
    cutP_app (by decide) _ fun y hy => (az_sign y (List.all_eq_true.1 (nameB_all h.1).1 y hy)).2.1
  have e2 : labM (x.name.data.toList, 61, x.value.data.toList) = x := by simp only [labM, tx_of]
  unfold labP
  rw [e]
  simp only [e2]
  rw [if_pos h0]
def readAll {α : Type} (f : List UInt8 → Option α) : List (List UInt8) → Option (List α)
  | [] => some []
  | w :: r => match f w with | none => none | some x => (readAll f r).map (x :: ·)
theorem readAll_map {α : Type} {f : List UInt8 → Option α} {g : α → List UInt8} : ∀ {xs : List α}, (∀ x ∈ xs, f (g x) = some x) → readAll f (xs.map g) = some xs
  | [], _ => rfl
  | x :: xs, h => by
    rw [List.map_cons, readAll, h x (by simp)]
    simp only
    rw [readAll_map fun y hy => h y (by simp [hy])]
    rfl
structure Msg where
  kind : Int
  labs : List Lab
  fr : Int
  til : Int
  asked : List Mat
deriving DecidableEq
def Msg.zero : Msg := ⟨0, [], 0, 0, []⟩
def Msg.okB (m : Msg) : Bool :=
  if m.kind = 2 then decide (m.labs = []) && hushB m.fr m.til m.asked
  else (decide (m.kind = 0) || decide (m.kind = 1)) && labsB m.labs && (decide (m.fr = 0) && decide (m.til = 0) && decide (m.asked = []))
def fireT : List UInt8 := [102, 105, 114, 101]
def doneT : List UInt8 := [100, 111, 110, 101]
def hushT : List UInt8 := [104, 117, 115, 104]
def alertP (k : Int) (ws : List (List UInt8)) : Msg × Int :=
  match readAll labP ws with
  | none => (Msg.zero, 13)
  | some l => if sortE l = 0 then (⟨k, sortL l, 0, 0, []⟩, 0) else (Msg.zero, sortE l)
def hushP : List (List UInt8) → Msg × Int
  | f :: t :: w :: r =>
    if (numB f && numB t) = true then
      match readAll askP (w :: r) with
      | none => (Msg.zero, 13)
      | some ms => if 4 < ms.length then (Msg.zero, 2) else if (numV t : Int) ≤ (numV f : Int) then (Msg.zero, 3) else (⟨2, [], numV f, numV t, ms⟩, 0)
    else (Msg.zero, 13)
  | _ => (Msg.zero, 12)
def parseW (ws : List (List UInt8)) : Msg × Int :=
  match ws with
  | [] => (Msg.zero, 10)
  | w :: r => if w = fireT then alertP 0 r else if w = doneT then alertP 1 r else if w = hushT then hushP r else (Msg.zero, 10)
def parseP (l : List UInt8) : Msg × Int := if 200 < l.length then (Msg.zero, 2) else parseW (splitL 32 l)
def Msg.words (m : Msg) : List (List UInt8) :=
  if m.kind = 2 then hushT :: Lib.decDigits m.fr.toNat :: Lib.decDigits m.til.toNat :: m.asked.map askW
  else (if m.kind = 1 then doneT else fireT) :: m.labs.map labW
def Msg.text (m : Msg) : List UInt8 := joinW 32 m.words
theorem hushB_parts {f t : Int} {ms : List Mat} (h : hushB f t ms = true) : 0 ≤ f ∧ f < t ∧ t ≤ 1099511627776 ∧ 1 ≤ ms.length ∧ ms.length ≤ 4 ∧ ∀ m ∈ ms, matB m = true := by
  simp only [hushB, timeB, Bool.and_eq_true, decide_eq_true_eq, Bool.not_eq_true', List.any_eq_false] at h
  refine ⟨h.1.1.1.1.1.1, h.1.1.1.2, h.1.1.1.1.2.2, h.1.1.2, h.1.2, fun m hm => ?_⟩
  have := h.2 m hm
  simpa using this
theorem eachB_all {l : List Lab} (h : eachB l = true) : 1 ≤ l.length ∧ l.length ≤ 3 ∧ ∀ x ∈ l, labB x = true := by
  simp only [eachB, Bool.and_eq_true, decide_eq_true_eq, Bool.not_eq_true', List.any_eq_false] at h
  refine ⟨h.1.1, h.1.2, fun m hm => ?_⟩
  have := h.2 m hm
  simpa using this
theorem labsB_each {l : List Lab} (h : labsB l = true) : eachB l = true := by
  unfold labsB at h
  rw [Bool.and_eq_true] at h
  exact h.2
theorem rises_sort {l : List Lab} (h : labsB l = true) : sortE l = 0 ∧ sortL l = l := by
  have he := labsB_each h
  unfold labsB at h
  rw [Bool.and_eq_true] at h
  have hs : sortO [] l = some l := by
    have hp : l.Pairwise ltL := rises_pair.1 h.1
    cases hh : sortO [] l with
    | some r =>
      obtain ⟨h1, h2⟩ := sortO_some l [] r List.Pairwise.nil hh
      rw [List.nil_append] at h2
      rw [rises_unique h1 hp h2]
    | none =>
      have := sortO_none l [] hh
      rw [List.nil_append] at this
      exact absurd (hp.imp ltL_ne) this
  unfold sortE sortL
  rw [if_pos he, if_pos he, hs]
  exact ⟨rfl, rfl⟩
theorem no_blank_lab {x : Lab} (h : labB x = true) : ∀ c ∈ labW x, c ≠ 32 ∧ c ≠ 10 := by
  unfold labB at h
  rw [Bool.and_eq_true] at h
  intro c hc
  unfold labW at hc
  rw [List.mem_append, List.mem_cons] at hc
  rcases hc with hc | rfl | hc
  · exact (az_sign c (List.all_eq_true.1 (nameB_all h.1).1 c hc)).2.2
  · decide
  · exact av_blank c (List.all_eq_true.1 (valB_all h.2).1 c hc)
theorem no_blank_ask {m : Mat} (h : matB m = true) : ∀ c ∈ askW m, c ≠ 32 ∧ c ≠ 10 := by
  obtain ⟨_, _, hn, hv⟩ := matB_parts h
  intro c hc
  unfold askW at hc
  rw [List.mem_append, List.mem_cons] at hc
  rcases hc with hc | rfl | hc
  · exact (az_sign c (List.all_eq_true.1 (nameB_all hn).1 c hc)).2.2
  · unfold signOf; (repeat' split) <;> decide
  · exact av_blank c (List.all_eq_true.1 (valB_all hv).1 c hc)
theorem no_blank_dec (n : Nat) : ∀ c ∈ Lib.decDigits n, c ≠ 32 ∧ c ≠ 10 := by
  intro c hc
  have := List.all_eq_true.1 (dig_dec n) c hc
  simp only [digB, Bool.and_eq_true, decide_eq_true_eq] at this
  constructor <;> (intro e; subst e; revert this; decide)
theorem labW_len {x : Lab} (h : labB x = true) : (labW x).length ≤ 17 := by
  unfold labB at h
  rw [Bool.and_eq_true] at h
  have h1 := (nameB_all h.1).2.2
  have h2 := (valB_all h.2).2
  simp only [labW, List.length_append, List.length_cons, len_data]
  omega
theorem askW_len {m : Mat} (h : matB m = true) : (askW m).length ≤ 17 := by
  obtain ⟨_, _, hn, hv⟩ := matB_parts h
  have h1 := (nameB_all hn).2.2
  have h2 := (valB_all hv).2
  simp only [askW, List.length_append, List.length_cons, len_data]
  omega
theorem dec_len : ∀ (k n : Nat), n < 10 ^ (k + 1) → (Lib.decDigits n).length ≤ k + 1
  | 0, n, h => by rw [Lib.decDigits, dif_pos (by simpa using h)]; simp
  | k + 1, n, h => by
    rw [Lib.decDigits]
    split
    · simp
    · have := dec_len k (n / 10) (by rw [Nat.pow_succ] at h; omega)
      simp
      omega
theorem sum_le {α : Type} (f : α → Nat) (b : Nat) : ∀ {xs : List α}, (∀ x ∈ xs, f x ≤ b) → (xs.map f).sum ≤ xs.length * b
  | [], _ => by simp
  | x :: xs, h => by
    have h1 := sum_le f b (xs := xs) fun y hy => h y (by simp [hy])
    have h2 := h x (by simp)
    simp only [List.map_cons, List.sum_cons, List.length_cons, Nat.succ_mul]
    omega
theorem words_no {m : Msg} (h : m.okB = true) : ∀ w ∈ m.words, (∀ c ∈ w, c ≠ 32 ∧ c ≠ 10) := by
  unfold Msg.okB at h
  unfold Msg.words
  intro w hw
  split at h
  · rename_i hk
    rw [if_pos hk] at hw
    rw [Bool.and_eq_true] at h
    obtain ⟨_, _, _, _, _, hm⟩ := hushB_parts h.2
    simp only [List.mem_cons, List.mem_map] at hw
    rcases hw with rfl | rfl | rfl | ⟨x, hx, rfl⟩
    · decide
    · exact no_blank_dec _
    · exact no_blank_dec _
    · exact no_blank_ask (hm x hx)
  · rename_i hk
    rw [if_neg hk] at hw
    simp only [Bool.and_eq_true] at h
    obtain ⟨_, _, hl⟩ := eachB_all (labsB_each h.1.2)
    simp only [List.mem_cons, List.mem_map] at hw
    rcases hw with rfl | ⟨x, hx, rfl⟩
    · split <;> decide
    · exact no_blank_lab (hl x hx)
theorem words_len {m : Msg} (h : m.okB = true) : (m.words.map List.length).sum + m.words.length ≤ 150 ∧ m.words ≠ [] := by
  unfold Msg.okB at h
  unfold Msg.words
  split at h
  · rename_i hk
    rw [if_pos hk]
    rw [Bool.and_eq_true] at h
    obtain ⟨h0, h1, h2, _, h4, hm⟩ := hushB_parts h.2
    have s := sum_le (fun m => (askW m).length) 17 (xs := m.asked) fun x hx => askW_len (hm x hx)
    have d1 := dec_len 12 m.fr.toNat (by omega)
    have d2 := dec_len 12 m.til.toNat (by omega)
    refine ⟨?_, by simp⟩
    simp only [List.map_cons, List.sum_cons, List.length_cons, List.map_map, List.length_map]
    have e : (List.length ∘ askW) = fun m => (askW m).length := rfl
    rw [e]
    simp only [hushT, List.length_cons, List.length_nil]
    omega
  · rename_i hk
    rw [if_neg hk]
    simp only [Bool.and_eq_true] at h
    obtain ⟨_, h3, hl⟩ := eachB_all (labsB_each h.1.2)
    have s := sum_le (fun x => (labW x).length) 17 (xs := m.labs) fun x hx => labW_len (hl x hx)
    refine ⟨?_, by simp⟩
    simp only [List.map_cons, List.sum_cons, List.length_cons, List.map_map, List.length_map]
    have e : (List.length ∘ labW) = fun m => (labW m).length := rfl
    rw [e]
    have : (if m.kind = 1 then doneT else fireT).length = 4 := by split <;> rfl
    omega
theorem text_len {m : Msg} (h : m.okB = true) : m.text.length ≤ 150 := by
  have := joinW_len 32 m.words
  have := (words_len h).1
  unfold Msg.text
  omega
theorem split_text {m : Msg} (h : m.okB = true) : splitL 32 m.text = m.words :=
  split_join 32 (words_len h).2 fun w hw hc => (words_no h w hw 32 hc).1 rfl
theorem parse_text {m : Msg} (h : m.okB = true) : parseP m.text = (m, 0) := by
  have hl := text_len h
  unfold parseP
  rw [if_neg (by omega), split_text h]
  unfold Msg.okB at h
  unfold Msg.words
  obtain ⟨kind, labs, fr, til, asked⟩ := m
  simp only at h ⊢
  split at h
  · rename_i hk
    subst hk
    rw [if_pos rfl]
    rw [Bool.and_eq_true, decide_eq_true_eq] at h
    obtain ⟨rfl, hh⟩ := h
    obtain ⟨h0, h1, h2, h3, h4, hm⟩ := hushB_parts hh
    unfold parseW
    simp only
    rw [if_neg (by decide), if_neg (by decide), if_pos trivial]
    cases asked with
    | nil => simp at h3
    | cons a rr =>
      have hr := readAll_map (f := askP) (g := askW) (xs := a :: rr) fun x hx => askP_askW (hm x hx)
      rw [List.map_cons] at hr ⊢
      simp only [hushP]
      rw [numB_dec (n := fr.toNat) (by omega), numB_dec (n := til.toNat) (by omega), Bool.and_true, if_pos rfl, hr]
      simp only
      rw [if_neg (by omega), numV_dec, numV_dec, if_neg (by omega)]
      simp only [Prod.mk.injEq, Msg.mk.injEq, and_true, true_and]
      exact ⟨by omega, by omega⟩
  · rename_i hk
    rw [if_neg hk]
    simp only [Bool.and_eq_true, Bool.or_eq_true, decide_eq_true_eq] at h
    obtain ⟨⟨h1, h2⟩, ⟨rfl, rfl⟩, rfl⟩ := h
    obtain ⟨_, h3, hl⟩ := eachB_all (labsB_each h2)
    have hr := readAll_map (f := labP) (g := labW) (xs := labs) fun x hx => labP_labW (hl x hx)
    obtain ⟨s1, s2⟩ := rises_sort h2
    unfold parseW
    simp only
    rcases h1 with rfl | rfl
    · rw [if_neg (show ¬ (0 : Int) = 1 by decide), if_pos rfl]
      unfold alertP
      rw [hr]
      simp only
      rw [if_pos s1, s2]
    · rw [if_pos rfl, if_neg (by decide), if_pos rfl]
      unfold alertP
      rw [hr]
      simp only
      rw [if_pos s1, s2]
end Go.Proofs.YtjfknmlchdifjaaGreatDoor
namespace Go.Proofs.YtjfknmlchdifjaaGreatDoor
open Go.RowKit
attribute [local go_sem high] ext_size ext_cell ext_frozen alloc_cell alloc_frozen
def setIter (W : World) (g : Nat) (s : ByteArray) (pos : Nat) : World := { W with heap := W.heap.setIfInBounds g (.stringIter s pos) }
theorem next_any {P : Program} {W : World} {g : Nat} {s : ByteArray} {pos : Nat} (hb : W.heap[g]? = some (.stringIter s pos)) (ty : TypeId) (h : pos < s.size) :
    (Instr.next (.pointer (some ⟨g, 0, none⟩)) true ty).run P W = .ok (.tuple #[.bool true, .int .i64 pos, .int .i32 (Utf8.decode s pos).1]) (setIter W g s (pos + (Utf8.decode s pos).2)) := by
  simp only [Instr.next, getObj, setObj, Sem.run_bind, Sem.run, hb, Result.andThen, h, if_true]
  simp [goInt, setIter]
theorem next_end {P : Program} {W : World} {g : Nat} {s : ByteArray} {pos : Nat} (hb : W.heap[g]? = some (.stringIter s pos)) (ty : TypeId) (h : ¬ pos < s.size) :
    (Instr.next (.pointer (some ⟨g, 0, none⟩)) true ty).run P W = .ok (.tuple #[.bool false]) W := by
  simp [Instr.next, getObj, Sem.run, hb, h]
theorem setIter_size (W : World) (g : Nat) (s : ByteArray) (pos : Nat) : (setIter W g s pos).heap.size = W.heap.size := by simp [setIter]
theorem setIter_same {W : World} {g : Nat} (h : g < W.heap.size) (s : ByteArray) (pos : Nat) : (setIter W g s pos).heap[g]? = some (.stringIter s pos) := by simp [setIter, h]
theorem setIter_below {w W : World} {g : Nat} (h : Below w.heap.size w W) (hg : w.heap.size ≤ g) (s : ByteArray) (pos : Nat) : Below w.heap.size w (setIter W g s pos) := by
  refine ⟨h.os, h.tape, h.output, by rw [setIter_size]; exact h.size, fun i hi => ?_⟩
  rw [← h.block i hi]
  show (W.heap.setIfInBounds g (.stringIter s pos))[i]? = W.heap[i]?
  rw [Array.getElem?_setIfInBounds, if_neg (by omega)]
theorem cont_hi {s : ByteArray} {i : Nat} (h : i < s.size) (h2 : (s.get! i).toNat / 64 = 2) : 128 ≤ (s[i]'h).toNat := by
  have e : s.get! i = s[i]'h := get_at s i h
  rw [e] at h2
  omega
theorem decode_wide (s : ByteArray) (pos : Nat) (h : pos < s.size) (ha : 128 ≤ (s[pos]'h).toNat) :
    1 ≤ (Utf8.decode s pos).2 ∧ pos + (Utf8.decode s pos).2 ≤ s.size ∧ ∀ k, k < (Utf8.decode s pos).2 → ∃ hk : pos + k < s.size, 128 ≤ (s[pos + k]'hk).toNat := by
  have hn : ¬ (s[pos]'h).toNat < 128 := by omega
  have one : 1 ≤ 1 ∧ pos + 1 ≤ s.size ∧ ∀ k, k < 1 → ∃ hk : pos + k < s.size, 128 ≤ (s[pos + k]'hk).toNat :=
    ⟨by omega, by omega, fun k hk => by obtain rfl : k = 0 := by omega
                                        exact ⟨h, ha⟩⟩
  simp only [Utf8.decode, get_at s pos h, hn, if_false]
  split
  · rename_i h1
    simp only [Bool.and_eq_true, decide_eq_true_eq, beq_iff_eq] at h1
    split
    · refine ⟨by simp, by simp; omega, fun k hk => ?_⟩
      have : k = 0 ∨ k = 1 := by simp at hk; omega
      rcases this with rfl | rfl
      · exact ⟨h, ha⟩
      · exact ⟨h1.2.1, cont_hi h1.2.1 h1.2.2⟩
    · exact one
  · split
    · rename_i h1
      simp only [Bool.and_eq_true, decide_eq_true_eq, beq_iff_eq] at h1
      split
      · refine ⟨by simp, by simp; omega, fun k hk => ?_⟩
        have : k = 0 ∨ k = 1 ∨ k = 2 := by simp at hk; omega
        rcases this with rfl | rfl | rfl
        · exact ⟨h, ha⟩
        · exact ⟨h1.1.2.1, cont_hi h1.1.2.1 h1.1.2.2⟩
        · exact ⟨h1.2.1, cont_hi h1.2.1 h1.2.2⟩
      · exact one
    · split
      · rename_i h1
        simp only [Bool.and_eq_true, decide_eq_true_eq, beq_iff_eq] at h1
        split
        · refine ⟨by simp, by simp; omega, fun k hk => ?_⟩
          have : k = 0 ∨ k = 1 ∨ k = 2 ∨ k = 3 := by simp at hk; omega
          rcases this with rfl | rfl | rfl | rfl
          · exact ⟨h, ha⟩
          · exact ⟨h1.1.1.2.1, cont_hi h1.1.1.2.1 h1.1.1.2.2⟩
          · exact ⟨h1.1.2.1, cont_hi h1.1.2.1 h1.1.2.2⟩
          · exact ⟨h1.2.1, cont_hi h1.2.1 h1.2.2⟩
        · exact one
      · exact one
theorem enc_high {r : Int} (h : 128 ≤ r) : (∃ a b : UInt8, Utf8.encode r = ⟨#[a, b]⟩ ∧ 128 ≤ b.toNat) ∨ (∃ a b c : UInt8, Utf8.encode r = ⟨#[a, b, c]⟩ ∧ 128 ≤ c.toNat) ∨ (∃ a b c d : UInt8, Utf8.encode r = ⟨#[a, b, c, d]⟩ ∧ 128 ≤ d.toNat) := by
  have hl : ∀ x : Nat, 128 ≤ (UInt8.ofNat (128 + x % 64)).toNat := by
    intro x
    rw [UInt8.toNat_ofNat']
    omega
  unfold Utf8.encode
  generalize hc : (if Utf8.valid r = true then r.toNat else Utf8.runeError) = c
  have h1 : ¬ c < 128 := by
    rw [← hc]
    split
    · omega
    · decide
  simp only
  rw [if_neg h1]
  split
  · exact .inl ⟨_, _, rfl, hl _⟩
  · split
    · exact .inr (.inl ⟨_, _, _, rfl, hl _⟩)
    · exact .inr (.inr ⟨_, _, _, _, rfl, hl _⟩)
def signT : ByteArray := ⟨#[61, 33, 94, 63]⟩
theorem noIdx (l : List UInt8) (b : UInt8) (h : ∀ x ∈ l, x ≠ b) : Lib.indexByte l b = -1 := by
  induction l with
  | nil => rfl
  | cons x l ih =>
    have h1 : (x == b) = false := by simpa using h x (by simp)
    rw [Lib.indexByte, h1, ih fun y hy => h y (by simp [hy])]
    rfl
theorem signs_low : ∀ x ∈ signs, x.toNat < 128 := by decide
theorem contains_high {b : UInt8} (h : 128 ≤ b.toNat) : signs.contains b = false := by
  rw [← Bool.not_eq_true, List.contains_iff_mem]
  intro e
  have := signs_low b e
  omega
theorem sub_low (i j : Nat) {b : UInt8} (h : 128 ≤ b.toNat) : ∀ x ∈ (signT.extract i j).data.toList, x ≠ b := by
  intro x hx e
  subst e
  rw [Lib.extract_data] at hx
  have hm : x ∈ signT.data.toList := by
    first
      | exact List.mem_of_mem_drop (List.mem_of_mem_take hx)
      | exact List.mem_of_mem_take (List.mem_of_mem_drop hx)
  have := signs_low x hm
  omega
theorem valid_ge (r : Int) (w : World) (h : 0 ≤ r) : Calls Tryz.prog 124 #[.int .i32 r] w fun e w' => e = .returned (.bool (decide (r < 55296) || (decide (57343 < r) && decide (r ≤ 1114111)))) ∧ Below w.heap.size w w' := by
  by_cases h1 : r < 55296
  · go_enter Tryz.func124, Tryz.ntmps124
    go_wp2_with fail
    go_ret
    exact ⟨ret_bool (by simp [h1]), Below.refl _ _⟩
  · by_cases h2 : 57343 < r <;> by_cases h3 : r ≤ 1114111
    all_goals
      go_enter Tryz.func124, Tryz.ntmps124
      go_wp2_with fail
      go_ret
      exact ⟨ret_bool (by simp [h1, h2, h3]), Below.refl _ _⟩
set_option maxHeartbeats 4000000 in
set_option maxRecDepth 100000 in
theorem idxRune_high (r : Int) (w : World) (h : 128 ≤ r) : Calls Tryz.prog 80 #[.string signT, .int .i32 r] w fun e w' => e = .returned (.int .i64 (-1)) ∧ Below w.heap.size w w' := by
  have g1 : ¬ r < 128 := by omega
  have g0 : (0 : Int) ≤ r := by omega
  by_cases he : r = 65533
  · subst he
    go_enter Tryz.func80, Tryz.ntmps80
    go_wp2_with fail
    go_loopw [5, 6] (fun _ _ wr => ∃ pos : Nat, pos ≤ 4 ∧ wr = w.iter signT pos) (fun _ _ wr => 4 - wr.iterPos w.heap.size)
    case atStart => exact ⟨0, by omega, rfl⟩
    case round =>
      obtain ⟨pos, hp, rfl⟩ := hrel
      by_cases hlt : pos < 4
      · have hc : (signT[pos]'hlt).toNat < 128 := by
          have : pos = 0 ∨ pos = 1 ∨ pos = 2 ∨ pos = 3 := by omega
          rcases this with rfl | rfl | rfl | rfl <;> (revert hlt; decide)
        have hn := fun ty => run_next_ascii (P := Tryz.prog) w signT pos ty hlt hc
        obtain ⟨c, hcc⟩ : ∃ c, c = (signT[pos]'hlt).toNat := ⟨_, rfl⟩
        rw [← hcc] at hn hc
        have h5 : ((c : Int) == 65533) = false := by simp; omega
        clear hcc
        go_wp2
        exact ⟨⟨pos + 1, by omega, rfl⟩, by simp; omega⟩
      · have hn := fun ty => run_next_end (P := Tryz.prog) w signT pos ty (show ¬ pos < signT.size from hlt)
        go_wp2
        go_ret
        exact ⟨rfl, size_iter _ _ _⟩
  · have he' : (r == 65533) = false := by simpa using he
    have HV := Lib.hid fun W => valid_ge r W g0
    obtain ⟨vb, hvb⟩ : ∃ q, q = (decide (r < 55296) || (decide (57343 < r) && decide (r ≤ 1114111))) := ⟨_, rfl⟩
    rw [← hvb] at HV
    clear hvb
    cases vb
    · go_enter Tryz.func80, Tryz.ntmps80
      go_wp2_with fail
      refine (HV.out _).mono ?_
      rintro e w' ⟨rfl, hb⟩
      obtain ⟨y1, rfl⟩ := ext_of hb
      clear hb
      go_wp2_with fail
      go_ret
      exact ⟨rfl, (by repeat (first | exact Below.refl _ _ | apply bal | apply bext | apply bdr | apply bdrN | (refine bst ?_ _ (by simp only [ext_size, size_alloc, size_set]; omega))))⟩
    · have HB := Lib.hid fun (s : ByteArray) (b : UInt8) W (hh : ∀ x ∈ s.data.toList, x ≠ b) => show Calls Tryz.prog 123 #[.string s, .int .u8 b.toNat] W fun e w' => e = .returned (.int .i64 (-1)) ∧ Below W.heap.size W w' from
        (Tryz.strings_IndexByte s b.toNat W).mono fun e w' ⟨h1, h2⟩ => ⟨by rw [h1, Int.toNat_natCast, show b.toNat.toUInt8 = b by simp, noIdx _ _ hh], h2 ▸ Below.refl _ _⟩
      have hcv := fun w => run_convert_int_string (P := Tryz.prog) w 21 9 .i32 r (by kernel_rfl) Tryz.underlying9
      have hu21 := Tryz.underlying21
      have hu9 := Tryz.underlying9
      rcases enc_high h with ⟨a, b, e1, hb⟩ | ⟨a, b, c, e1, hb⟩ | ⟨a, b, c, d, e1, hb⟩
      · rw [e1] at hcv
        have hlt := b.toNat_lt
        have h1 : (((signT[1]'(by show 1 < 4; omega)).toNat : Int) != ((((⟨#[a, b]⟩ : ByteArray)[1]'(by show 1 < 2; omega)).toNat : Nat) : Int)) = true := by
          show ((33 : Int) != (b.toNat : Int)) = true
          simp
          omega
        have HL := fun i j => sub_low i j hb
        go_enter Tryz.func80, Tryz.ntmps80
        go_wp2_with fail
        refine (HV.out _).mono ?_
        rintro e w' ⟨rfl, hb⟩
        obtain ⟨y1, rfl⟩ := ext_of hb
        clear hb
        go_wp2_with fail
        go_step3
        go_wp2_with fail
        refine wp_loop_rounds 1 ?_
        rw [rounds_succ]
        go_wp2_with fail
        go_step3
        go_wp2_with fail
        go_region
        go_wp2_with fail
        refine wp_region_ext (by kernel_rfl) (by kernel_rfl) ?_
        repeat (go_big_quiet_step ((first | (exact Calls.grew (HB.out _ b _ (HL _ _))))))
        refine wpQuiet_nil ?_
        intro _ hw'
        obtain ⟨y2, rfl⟩ := hw'
        go_wp2_with fail
        simp only [Exit.noGoto, Exit.inBlock, Exit.then]
        go_ret
        exact ⟨rfl, (by repeat (first | exact Below.refl _ _ | apply bal | apply bext | apply bdr | apply bdrN | (refine bst ?_ _ (by simp only [ext_size, size_alloc, size_set]; omega))))⟩
      · rw [e1] at hcv
        have hlt := c.toNat_lt
        have h1 : (((signT[2]'(by show 2 < 4; omega)).toNat : Int) != ((((⟨#[a, b, c]⟩ : ByteArray)[2]'(by show 2 < 3; omega)).toNat : Nat) : Int)) = true := by
          show ((94 : Int) != (c.toNat : Int)) = true
          simp
          omega
        have HL := fun i j => sub_low i j hb
        go_enter Tryz.func80, Tryz.ntmps80
        go_wp2_with fail
        refine (HV.out _).mono ?_
        rintro e w' ⟨rfl, hb⟩
        obtain ⟨y1, rfl⟩ := ext_of hb
        clear hb
        go_wp2_with fail
        go_step3
        go_wp2_with fail
        refine wp_loop_rounds 1 ?_
        rw [rounds_succ]
        go_wp2_with fail
        go_step3
        go_wp2_with fail
        go_region
        go_wp2_with fail
        refine wp_region_ext (by kernel_rfl) (by kernel_rfl) ?_
        repeat (go_big_quiet_step ((first | (exact Calls.grew (HB.out _ c _ (HL _ _))))))
        refine wpQuiet_nil ?_
        intro _ hw'
        obtain ⟨y2, rfl⟩ := hw'
        go_wp2_with fail
        simp only [Exit.noGoto, Exit.inBlock, Exit.then]
        go_ret
        exact ⟨rfl, (by repeat (first | exact Below.refl _ _ | apply bal | apply bext | apply bdr | apply bdrN | (refine bst ?_ _ (by simp only [ext_size, size_alloc, size_set]; omega))))⟩
      · rw [e1] at hcv
        have hlt := d.toNat_lt
        have h1 : (((signT[3]'(by show 3 < 4; omega)).toNat : Int) != ((((⟨#[a, b, c, d]⟩ : ByteArray)[3]'(by show 3 < 4; omega)).toNat : Nat) : Int)) = true := by
          show ((63 : Int) != (d.toNat : Int)) = true
          simp
          omega
        have HL := fun i j => sub_low i j hb
        go_enter Tryz.func80, Tryz.ntmps80
        go_wp2_with fail
        refine (HV.out _).mono ?_
        rintro e w' ⟨rfl, hb⟩
        obtain ⟨y1, rfl⟩ := ext_of hb
        clear hb
        go_wp2_with fail
        go_step3
        go_wp2_with fail
        refine wp_loop_rounds 1 ?_
        rw [rounds_succ]
        go_wp2_with fail
        go_step3
        go_wp2_with fail
        go_region
        go_wp2_with fail
        refine wp_region_ext (by kernel_rfl) (by kernel_rfl) ?_
        repeat (go_big_quiet_step ((first | (exact Calls.grew (HB.out _ d _ (HL _ _))))))
        refine wpQuiet_nil ?_
        intro _ hw'
        obtain ⟨y2, rfl⟩ := hw'
        go_wp2_with fail
        simp only [Exit.noGoto, Exit.inBlock, Exit.then]
        go_ret
        exact ⟨rfl, (by repeat (first | exact Below.refl _ _ | apply bal | apply bext | apply bdr | apply bdrN | (refine bst ?_ _ (by simp only [ext_size, size_alloc, size_set]; omega))))⟩
end Go.Proofs.YtjfknmlchdifjaaGreatDoor
namespace Go.Proofs.YtjfknmlchdifjaaGreatDoor
open Go.RowKit
theorem iterPos_of {W : World} {k : Nat} {s : ByteArray} {p : Nat} (h : W.heap[k]? = some (.stringIter s p)) : W.iterPos k = p := by simp [World.iterPos, h]
theorem noAny_more {s : ByteArray} {pos n : Nat} (h : Lib.NoAny s.data.toList signs pos) (h2 : ∀ k, k < n → ∃ hk : pos + k < s.size, 128 ≤ (s[pos + k]'hk).toNat) : Lib.NoAny s.data.toList signs (pos + n) := by
  intro j b hj hb
  by_cases hlt : j < pos
  · exact h j b hlt hb
  · obtain ⟨hk, h3⟩ := h2 (j - pos) (by omega)
    have e : pos + (j - pos) = j := by omega
    have := Lib.data_getElem? s j (by omega)
    rw [hb] at this
    obtain rfl := Option.some.inj this
    refine contains_high ?_
    simpa only [e] using h3
def IA (w : World) (s : ByteArray) (wr : World) : Prop := ∃ pos, pos ≤ s.size ∧ Lib.NoAny s.data.toList signs pos ∧ wr.heap[w.heap.size]? = some (.stringIter s pos) ∧ Below w.heap.size w wr
set_option maxHeartbeats 4000000 in
set_option maxRecDepth 100000 in
theorem idxAny_short (s : ByteArray) (w : World) (h8 : s.size ≤ 8) :
    Calls Tryz.prog 40 #[.string s, .string signT] w fun e w' => e = .returned (.int .i64 (Lib.indexAny s.data.toList signs)) ∧ Below w.heap.size w w' := by
  have hn1 : ((signT.size : Int) == 1) = false := by decide
  have hem : signT.toList.isEmpty = false := by rw [ByteArray.toList_eq]; rfl
  have HU := Lib.hid fun W => show Calls Tryz.prog 81 #[.int .i64 s.size] W fun e w' => e = .returned (.bool false) ∧ w' = W from
    (Tryz.strings_shouldUseASCIISet s.size W).mono fun e w' ⟨h1, h2⟩ => ⟨by rw [h1]; congr 2; exact decide_eq_false (by omega), h2⟩
  have HA := Lib.hid fun (r : Nat) W (h : r < 128) => show Calls Tryz.prog 80 #[.string signT, .int .i32 r] W fun e w' => e = .returned (.int .i64 (Lib.indexByte signs r.toUInt8)) ∧ Below W.heap.size W w' from
    (Tryz.strings_IndexRune_ascii signT r W (by omega) (by omega)).mono fun e w' ⟨h1, h2⟩ => ⟨by rw [h1]; rfl, h2 ▸ Below.refl _ _⟩
  have HH := Lib.hid fun (r : Nat) W (h : 128 ≤ r) => idxRune_high r W (by omega)
  go_enter Tryz.func40, Tryz.ntmps40
  go_wp2_with fail
  refine (HU.out _).mono ?_
  rintro e w' ⟨rfl, hw⟩
  rw [hw]
  clear hw
  go_wp2_with fail
  go_loopw [9, 10] (fun _ _ wr => IA w s wr) (fun _ _ wr => s.size - wr.iterPos w.heap.size)
  case atStart => exact ⟨0, Nat.zero_le _, Lib.NoAny.zero _ _, World.iter_heap _ _ _, size_iter _ _ _⟩
  case round =>
    obtain ⟨pos, hp, hno, hit, hbel⟩ := hrel
    have HN := Lib.hid hno
    have HB := Lib.hid hbel
    have HI := Lib.hid hit
    have hlt0 : w.heap.size < wr.heap.size := blk_lt hit
    have hip := iterPos_of hit
    clear hno hbel
    by_cases hlt : pos < s.size
    · have hn := fun ty => next_any (P := Tryz.prog) hit ty hlt
      obtain ⟨c, hc⟩ : ∃ c, c = (s[pos]'hlt).toNat := ⟨_, rfl⟩
      by_cases ha : c < 128
      · have hd : Utf8.decode s pos = (c, 1) := by rw [decode_ascii s pos hlt (by omega), hc]
        rw [hd] at hn
        have HD := Lib.hid hc
        clear hc hd hit
        obtain ⟨q, hq⟩ : ∃ q, q = Lib.indexByte signs c.toUInt8 := ⟨_, rfl⟩
        have HQ := Lib.hid fun W => HA.out c W ha
        rw [← hq] at HQ
        have HE := Lib.hid hq
        clear hq
        go_wp2_with fail
        refine (HQ.out _).mono ?_
        rintro e w' ⟨rfl, hb⟩
        have hsz := setIter_size wr w.heap.size s (pos + 1)
        have hit2 := (hb.block w.heap.size (by omega)).trans (setIter_same hlt0 s (pos + 1))
        have hbel2 : Below w.heap.size w w' := bel (setIter_below HB.out (Nat.le_refl _) s (pos + 1)) hb
        have hx : s.data.toList[pos]? = some (s[pos]'hlt) := Lib.data_getElem? s pos hlt
        have hcu : c.toUInt8 = s[pos]'hlt := by rw [HD.out]; simp
        have hcon := Lib.contains_iff_indexByte signs (c.toUInt8)
        rw [← HE.out] at hcon
        cases hin : signs.contains c.toUInt8
        · rw [hin] at hcon
          have hneg : ¬ (0 : Int) ≤ q := of_decide_eq_false hcon.symm
          have hres : IA w s w' := ⟨pos + 1, by omega, HN.out.succ hx (by rw [← hcu]; exact hin), hit2, hbel2⟩
          have hme := iterPos_of hit2
          clear hx hcu hcon hin hb hit2 hbel2 hn
          go_wp2_with fail
          exact ⟨hres, by rw [hme, hip]; omega⟩
        · rw [hin] at hcon
          have hge : (0 : Int) ≤ q := of_decide_eq_true hcon.symm
          have hres := Lib.indexAny_hit HN.out hx (by rw [← hcu]; exact hin)
          clear hx hcu hcon hin hb hit2 hn
          go_wp2_with fail
          go_ret
          exact ⟨by rw [hres]; rfl, hbel2⟩
      · have hw := decode_wide s pos hlt (by omega)
        have hd := (decode_high s pos hlt (by omega)).1
        obtain ⟨d, hd0⟩ : ∃ d, d = (Utf8.decode s pos).1 := ⟨_, rfl⟩
        obtain ⟨n, hn0⟩ : ∃ n, n = (Utf8.decode s pos).2 := ⟨_, rfl⟩
        rw [← hd0] at hn hd
        rw [← hn0] at hn hw
        have HW := Lib.hid hw
        clear hd0 hn0 hw hit hc
        go_wp2_with fail
        refine (HH.out d _ hd).mono ?_
        rintro e w' ⟨rfl, hb⟩
        have hsz := setIter_size wr w.heap.size s (pos + n)
        have hit2 := (hb.block w.heap.size (by omega)).trans (setIter_same hlt0 s (pos + n))
        have hbel2 : Below w.heap.size w w' := bel (setIter_below HB.out (Nat.le_refl _) s (pos + n)) hb
        have hres : IA w s w' := ⟨pos + n, HW.out.2.1, noAny_more HN.out HW.out.2.2, hit2, hbel2⟩
        have hme := iterPos_of hit2
        have hnn := HW.out.1
        clear hb hit2 hbel2 hn
        go_wp2_with fail
        exact ⟨hres, by rw [hme, hip]; omega⟩
    · have hn := fun ty => next_end (P := Tryz.prog) hit ty hlt
      have hl : s.data.toList.length = s.size := len_data s
      have hres := Lib.indexAny_none (s := s.data.toList) (chars := signs) (by rw [hl]; have := HN.out; rwa [show pos = s.size by omega] at this)
      clear hit
      go_wp2_with fail
      go_ret
      exact ⟨by rw [hres]; rfl, HB.out⟩
theorem idxAny_any (s : ByteArray) (w : World) (hs : s.size < 4294967281) :
    Calls Tryz.prog 40 #[.string s, .string signT] w fun e w' => e = .returned (.int .i64 (Lib.indexAny s.data.toList signs)) ∧ Below w.heap.size w w' := by
  by_cases h8 : s.size ≤ 8
  · exact idxAny_short s w h8
  · have h116 : (Tryz.prog.info? 123).map (fun i => (i.zero, i.size)) = some (some (.agg (Array.replicate 256 (.bool false))), 256) := by kernel_rfl
    refine (Tryz.strings_IndexAny_long (zero_of_info h116).1 s signT w (by decide) (by omega) hs (by decide) (fun j b hb => signs_low b (List.mem_of_getElem? hb))).mono ?_
    rintro e w' ⟨rfl, rfl⟩
    exact ⟨rfl, ((Below.refl _ _).alloc (Nat.le_refl _) _).alloc (by simp) _⟩
end Go.Proofs.YtjfknmlchdifjaaGreatDoor
namespace Go.Proofs.YtjfknmlchdifjaaGreatDoor
open Go.RowKit Go.Proofs.YtjfknmlchdifjaaGreatDoorQ
attribute [local go_sem high] ext_size ext_cell ext_frozen alloc_cell alloc_frozen
theorem itoa_any (n : Int) (w : World) (hG : GOK w) (h0 : -9223372036854775808 ≤ n) (h1 : n ≤ 9223372036854775807) :
    Calls Tryz.prog 45 #[.int .i64 n] w fun e w' => e = .returned (.string (tx (Lib.itoa n))) ∧ Below w.heap.size w w' := by
  refine (Tryz.strconv_Itoa n h0 h1 w (gok_tab_internal_strconv_uint64pow10 hG)).mono ?_
  rintro e w' ⟨rfl, k, os, rfl⟩
  exact ⟨rfl, Go.Lib.below_grow _ w (Nat.le_refl _) k os⟩
theorem atoi_ok (s : ByteArray) (v : Int) (w : World) (hs : s.size ≤ 1000000) (h : Lib.atoiAll s.data.toList = .ok v) :
    Calls Tryz.prog 122 #[.string s] w fun e w' => e = .returned (.tuple #[.int .i64 v, .nilIface]) ∧ Below w.heap.size w w' := by
  refine (Tryz.strconv_Atoi_ok s (by omega) v h w).mono ?_
  rintro e w' ⟨rfl, rfl | ⟨t, rfl⟩⟩
  · exact ⟨rfl, Below.refl _ _⟩
  · refine ⟨rfl, ?_⟩
    exact Lib.bytesWorld_below _ _ _
theorem atoi_no (s : ByteArray) (w : World) (hG : GOK w) (hs : s.size ≤ 1000000) (h : ∀ v, Lib.atoiAll s.data.toList ≠ .ok v) :
    Calls Tryz.prog 122 #[.string s] w fun e w' => ∃ N, e = .returned (.tuple #[.int .i64 (atoiV s.data.toList), .iface 201 (.pointer (some ⟨N, 0, none⟩))]) ∧ Below w.heap.size w w' := by
  unfold atoiV
  rcases hh : Lib.atoiAll s.data.toList with v | _ | _
  · exact absurd hh (h v)
  · obtain ⟨t, p, hc⟩ := gok_errsyntax hG
    refine (Any.strconv_Atoi_syntax Tryz.laysC172 s (by omega) hh _ w hc (.inr ⟨t, p, rfl⟩)).mono ?_
    rintro e w' ⟨N, rfl, _, _, hb⟩
    exact ⟨N, rfl, hb⟩
  · obtain ⟨t, p, hc⟩ := gok_errrange hG
    refine (Tryz.strconv_Atoi_range s (by omega) hh _ w hc (.inr ⟨t, p, rfl⟩)).mono ?_
    rintro e w' ⟨N, rfl, _, _, hb⟩
    exact ⟨N, rfl, hb⟩
theorem tx_eq_list (l : List UInt8) (s : ByteArray) : ((tx l).toList == s.toList) = decide (l = s.data.toList) := by
  rw [ByteArray.toList_eq, ByteArray.toList_eq, tx_data]
  rw [Bool.eq_iff_iff, beq_iff_eq, decide_eq_true_eq]
set_option maxHeartbeats 4000000 in
theorem time_any (s : ByteArray) (w : World) (hG : GOK w) (hs : s.size ≤ 1000000) :
    Calls Tryz.prog 76 #[.string s] w fun e w' => e = .returned (.tuple #[.int .i64 (atoiV s.data.toList), .bool (atoiB s.data.toList)]) ∧ Below w.heap.size w w' := by
  have HG := Lib.hid hG
  by_cases hok : ∃ v, Lib.atoiAll s.data.toList = .ok v
  · obtain ⟨v, hv⟩ := hok
    have hb := Lib.atoiAll_bounds hv
    have HA := Lib.hid fun W => atoi_ok s v W hs hv
    have HT := Lib.hid fun W => tick_any v W
    have HI := Lib.hid fun W (h : GOK W) => itoa_any v W h hb.1 hb.2
    have hq := tx_eq_list (Lib.itoa v) s
    unfold atoiV atoiB
    rw [hv]
    simp only
    obtain ⟨t, ht⟩ : ∃ t, t = tx (Lib.itoa v) := ⟨_, rfl⟩
    rw [← ht] at HI hq
    obtain ⟨b1, hb1⟩ : ∃ b, b = timeB v := ⟨_, rfl⟩
    rw [← hb1] at HT
    have e1 : (decide (0 ≤ v) && decide (v ≤ 1099511627776)) = b1 := by rw [hb1]; rfl
    rw [e1]
    obtain ⟨b2, hb2⟩ : ∃ b, b = decide (Lib.itoa v = s.data.toList) := ⟨_, rfl⟩
    rw [← hb2] at hq ⊢
    clear hv hG ht hb1 hb2 e1
    cases b1
    · go_enter Tryz.func76, Tryz.ntmps76
      go_wp2_with fail
      refine (HA.out _).mono ?_
      rintro e w' ⟨rfl, hb⟩
      obtain ⟨y1, rfl⟩ := ext_of hb
      clear hb
      go_wp2_with fail
      refine (HT.out _).mono ?_
      rintro e w' ⟨rfl, hb⟩
      obtain ⟨y2, rfl⟩ := ext_of hb
      clear hb
      go_wp2_with fail
      go_ret2
      exact ⟨rfl, (by repeat (first | exact Below.refl _ _ | apply bal | apply bext | apply bdr | apply bdrN | (refine bst ?_ _ (by simp only [ext_size, size_alloc, size_set]; omega))))⟩
    · go_enter Tryz.func76, Tryz.ntmps76
      go_wp2_with fail
      refine (HA.out _).mono ?_
      rintro e w' ⟨rfl, hb⟩
      obtain ⟨y1, rfl⟩ := ext_of hb
      clear hb
      go_wp2_with fail
      refine (HT.out _).mono ?_
      rintro e w' ⟨rfl, hb⟩
      obtain ⟨y2, rfl⟩ := ext_of hb
      clear hb
      go_wp2_with fail
      refine (HI.out _ (gok_below HG.out (by repeat (first | exact Below.refl _ _ | apply bal | apply bext | apply bdr | apply bdrN | (refine bst ?_ _ (by simp only [ext_size, size_alloc, size_set]; omega)))))).mono ?_
      rintro e w' ⟨rfl, hb⟩
      obtain ⟨y3, rfl⟩ := ext_of hb
      clear hb
      go_wp2_with fail
      go_ret2
      exact ⟨rfl, (by repeat (first | exact Below.refl _ _ | apply bal | apply bext | apply bdr | apply bdrN | (refine bst ?_ _ (by simp only [ext_size, size_alloc, size_set]; omega))))⟩
  · have hv : ∀ v, Lib.atoiAll s.data.toList ≠ .ok v := fun v h => hok ⟨v, h⟩
    have hB : atoiB s.data.toList = false := by
      unfold atoiB
      split
      · rename_i v h
        exact absurd h (hv v)
      · rfl
    have HA := Lib.hid fun W (h : GOK W) => atoi_no s W h hs hv
    rw [hB]
    generalize atoiV s.data.toList = v at HA ⊢
    clear hG hok hv hB
    go_enter Tryz.func76, Tryz.ntmps76
    go_wp2_with fail
    refine (HA.out _ (gok_below HG.out (by repeat (first | exact Below.refl _ _ | apply bal | apply bext | apply bdr | apply bdrN | (refine bst ?_ _ (by simp only [ext_size, size_alloc, size_set]; omega)))))).mono ?_
    rintro e w' ⟨N, rfl, hb⟩
    obtain ⟨y1, rfl⟩ := ext_of hb
    clear hb
    go_wp2_with fail
    go_ret2
    exact ⟨rfl, (by repeat (first | exact Below.refl _ _ | apply bal | apply bext | apply bdr | apply bdrN | (refine bst ?_ _ (by simp only [ext_size, size_alloc, size_set]; omega))))⟩
end Go.Proofs.YtjfknmlchdifjaaGreatDoor
namespace Go.Proofs.YtjfknmlchdifjaaGreatDoorQ.P
open Go.RowKit Go.Proofs.YtjfknmlchdifjaaGreatDoorW.PrintWords Go.Proofs.YtjfknmlchdifjaaGreatDoor
theorem if_someP {α : Type} {p : Prop} [Decidable p] {x y : α} (h : (if p then some x else none) = some y) : p ∧ x = y := by
  split at h
  · exact ⟨‹_›, Option.some.inj h⟩
  · cases h
theorem flat_sing (xs : List ByteArray) : xs.flatMap (fun x => [Value.string x]) = xs.map Value.string := by
  induction xs with
  | nil => rfl
  | cons x xs ih => rw [List.flatMap_cons, ih]; rfl
def wordsT (c : UInt8) (s : ByteArray) : List ByteArray := (splitL c s.data.toList).map tx
theorem tx_inj {a b : ByteArray} (h : a.data.toList = b.data.toList) : a = b := by rw [← tx_of a, ← tx_of b, h]
theorem count_one (c : UInt8) : ∀ (n : Nat) (l : List UInt8), l.length ≤ n → l.count c ≤ Lib.countFrom [c] (n + 1) l
  | n, l, hn => by
    rcases index_one_cut c l with ⟨h1, h2⟩ | ⟨i, h1, h2, h3⟩
    · rw [List.count_eq_zero.2 h2]; omega
    · have e : Lib.countFrom [c] (n + 1) l = 1 + Lib.countFrom [c] n (l.drop (i + 1)) := by
        rw [Lib.countFrom, if_neg (by rw [h1]; simp), h1, Int.toNat_natCast]
        rfl
      have hl : l.count c = 1 + (l.drop (i + 1)).count c := by
        conv => lhs; rw [h3]
        rw [List.count_append, List.count_cons_self, List.count_eq_zero.2 h2]
        omega
      have hlen : l.length = (l.take i).length + ((l.drop (i + 1)).length + 1) := by
        conv => lhs; rw [h3]
        simp
      rw [e, hl]
      cases n with
      | zero => omega
      | succ n =>
        have := count_one c n (l.drop (i + 1)) (by omega)
        omega
theorem split_words (c : UInt8) (s sep : ByteArray) (hsep : sep.data.toList = [c]) : Lib.splitB sep 0 (Lib.countB s sep) s = wordsT c s ∧ Lib.countB s sep + 1 = (wordsT c s).length := by
  have h1 := Lib.splitB_data sep 0 (Lib.countB s sep) s
  have hlen := Lib.splitB_all sep (by rw [← len_data, hsep]; simp) 0 _ s rfl
  have hc : s.data.toList.count c ≤ Lib.countB s sep := by
    show _ ≤ Lib.count s.data.toList sep.data.toList
    rw [hsep]
    exact count_one c _ _ (Nat.le_refl _)
  rw [hsep, splitK_eq c _ _ hc] at h1
  have h2 : Lib.splitB sep 0 (Lib.countB s sep) s = wordsT c s := by
    unfold wordsT
    rw [← h1, List.map_map]
    have : (tx ∘ fun x : ByteArray => x.data.toList) = id := by
      funext x
      exact tx_of x
    rw [this, List.map_id]
  rw [h2] at hlen
  exact ⟨h2, hlen.symm⟩
def strings_Split.f (a0 : ByteArray) (a1 : ByteArray) : Option (List ByteArray) := if a0.size ≤ 1000000 ∧ a1.size = 1 then some (wordsT (a1.data.toList.headD 0) a0) else none
theorem strs_r {w : World} {B : Nat} {v : Value} {xs : List ByteArray} (h : w.ownsRow B 9 1 v xs.length (xs.map Value.string)) : Kd.R Kd.string 9 w B (fun _ => True) v xs := by
  have := R_of_own (d := Kd.string) (g := id) (en := fun x => [Value.string x]) (fun _ _ _ _ => rfl) (fun _ => rfl) (ys := xs) (w := w) (B := B) (v := v) (e := 9) (by
    rw [flat_sing]
    exact h)
  rwa [List.map_id] at this
theorem strings_Split.calls (a0 : ByteArray) (a1 : ByteArray) (r : List ByteArray) (w : World) (hG : GOK w) (h : strings_Split.f a0 a1 = some r) :
    Calls Tryz.prog 34 #[.string a0, .string a1] w fun e w' => ∃ v0_ : Value, e = .returned (v0_) ∧ Kd.R Kd.string 9 w' w.heap.size (fun _ => True) v0_ r ∧ Below w.heap.size w w' := by
  obtain ⟨⟨h1, h2⟩, rfl⟩ := if_someP h
  obtain ⟨m, hm⟩ := gok_maxlen hG
  have hsep : a1.data.toList = [a1.data.toList.headD 0] := by
    have hl := len_data a1
    rw [h2] at hl
    match hh : a1.data.toList, hl with
    | [x], _ => rfl
  obtain ⟨e1, e2⟩ := split_words _ a0 a1 hsep
  refine (Tryz.strings_Split a0 a1 m w (by omega) hm (by omega)).mono ?_
  rintro e w' ⟨rfl, rfl⟩
  refine ⟨_, rfl, ?_, (Below.refl _ _).alloc (Nat.le_refl _) _⟩
  rw [e1, e2]
  refine strs_r ?_
  have hle : (wordsT (a1.data.toList.headD 0) a0).length ≤ 1000001 := by
    have := splitL_len (a1.data.toList.headD 0) a0.data.toList
    rw [len_data] at this
    unfold wordsT
    rw [List.length_map]
    omega
  refine ⟨by simp, .inr ⟨w.heap.size, _, _, rfl, Nat.le_refl _, Go.Proofs.YtjfknmlchdifjaaGreatDoor.blk_new _ _, Nat.le_refl _, by unfold maxLen; omega, by simp, by rw [Nat.mul_one, List.take_of_length_le (by simp)]⟩⟩
def cutT (s : ByteArray) (c : UInt8) : ByteArray × ByteArray × Bool := match cutP (fun b => b == c) s.data.toList with | none => (s, ⟨#[]⟩, false) | some r => (tx r.1, tx r.2.2, true)
theorem cut_one (c : UInt8) : ∀ l : List UInt8, Lib.cut l [c] = match cutP (fun b => b == c) l with | none => (l, [], false) | some r => (r.1, r.2.2, true) := by
  intro l
  rcases index_one_cut c l with ⟨h1, h2⟩ | ⟨i, h1, h2, h3⟩
  · rw [cutP_none fun x hx => by simp; rintro rfl; exact h2 hx]
    unfold Lib.cut
    rw [if_neg (by omega)]
  · have e : cutP (fun b => b == c) l = some (l.take i, c, l.drop (i + 1)) := by
      conv => lhs; rw [h3]
      exact cutP_app (by simp) _ fun y hy => by simp; rintro rfl; exact h2 hy
    rw [e]
    unfold Lib.cut
    rw [if_pos (by omega), h1, Int.toNat_natCast]
    rfl
def strings_Cut.f (a0 : ByteArray) (a1 : ByteArray) : Option (ByteArray × ByteArray × Bool) := if a0.size ≤ 1000000 ∧ a1.size = 1 then some (cutT a0 (a1.data.toList.headD 0)) else none
theorem strings_Cut.calls (a0 : ByteArray) (a1 : ByteArray) (r1 : ByteArray) (r2 : ByteArray) (r3 : Bool) (w : World) (hG : GOK w) (h : strings_Cut.f a0 a1 = some (r1, r2, r3)) :
    Calls Tryz.prog 74 #[.string a0, .string a1] w fun e w' => e = .returned (.tuple #[.string r1, .string r2, .bool r3]) ∧ Below w.heap.size w w' := by
  obtain ⟨⟨h1, h2⟩, h3⟩ := if_someP h
  obtain ⟨m, hm⟩ := gok_maxlen hG
  have hsep : a1.data.toList = [a1.data.toList.headD 0] := by
    have hl := len_data a1
    rw [h2] at hl
    match hh : a1.data.toList, hl with
    | [x], _ => rfl
  have key : Lib.cut a0.data.toList a1.data.toList = (r1.data.toList, r2.data.toList, r3) := by
    rw [hsep, cut_one]
    unfold cutT at h3
    cases hc : cutP (fun b => b == a1.data.toList.headD 0) a0.data.toList with
    | none =>
      rw [hc] at h3
      simp only [Prod.mk.injEq] at h3
      obtain ⟨rfl, rfl, rfl⟩ := h3
      rfl
    | some q =>
      rw [hc] at h3
      simp only [Prod.mk.injEq] at h3
      obtain ⟨rfl, rfl, rfl⟩ := h3
      rfl
  refine (Tryz.strings_Cut a0 a1 m w (by omega) hm).mono ?_
  rintro e w' ⟨rfl, n, rfl⟩
  rw [key]
  exact ⟨by rw [show (⟨r1.data.toList.toArray⟩ : ByteArray) = r1 from tx_of r1, show (⟨r2.data.toList.toArray⟩ : ByteArray) = r2 from tx_of r2], bdn (Below.refl _ _) n⟩
def strings_IndexAny.f (a0 : ByteArray) (a1 : ByteArray) : Option (Int) := if a0.size ≤ 1000000 ∧ a1 = signT then some (Lib.indexAny a0.data.toList signs) else none
theorem strings_IndexAny.calls (a0 : ByteArray) (a1 : ByteArray) (r : Int) (w : World) (h : strings_IndexAny.f a0 a1 = some r) :
    Calls Tryz.prog 40 #[.string a0, .string a1] w fun e w' => e = .returned (.int .i64 r) ∧ Below w.heap.size w w' := by
  obtain ⟨⟨h1, rfl⟩, rfl⟩ := if_someP h
  exact idxAny_any a0 w (by omega)
def strconv_Itoa.f (a0 : Int) : Option (ByteArray) := if -9223372036854775808 ≤ a0 ∧ a0 ≤ 9223372036854775807 then some (tx (Lib.itoa a0)) else none
theorem strconv_Itoa.calls (a0 : Int) (r : ByteArray) (w : World) (hG : GOK w) (h : strconv_Itoa.f a0 = some r) :
    Calls Tryz.prog 45 #[.int .i64 a0] w fun e w' => e = .returned (.string r) ∧ Below w.heap.size w w' := by
  obtain ⟨⟨h1, h2⟩, rfl⟩ := if_someP h
  exact itoa_any a0 w hG h1 h2
def joinT (l : List ByteArray) (c : UInt8) : ByteArray := tx (joinW c (l.map fun x => x.data.toList))
def strings_Join.f (l0 : List ByteArray) (a1 : ByteArray) : Option (ByteArray) := if a1.size = 1 ∧ l0.length ≤ 1000000 ∧ (joinT l0 (a1.data.toList.headD 0)).size ≤ 1000000 then some (joinT l0 (a1.data.toList.headD 0)) else none
theorem strings_Join.calls (A0 : Option Addr) (c0 : Nat) (l0 : List ByteArray) (a1 : ByteArray) (r : ByteArray) (w : World) (hr0 : Kd.C Kd.string w A0 l0.length l0) (hc0 : l0.length ≤ c0) (h : strings_Join.f l0 a1 = some r) :
    Calls Tryz.prog 46 #[.slice A0 l0.length c0, .string a1] w fun e w' => e = .returned (.string r) ∧ Below w.heap.size w w' := by
  obtain ⟨⟨h1, h2, h3⟩, rfl⟩ := if_someP h
  have hsep : a1.data.toList = [a1.data.toList.headD 0] := by
    have hl := len_data a1
    rw [h1] at hl
    match hh : a1.data.toList, hl with
    | [x], _ => rfl
  have ej : Lib.join (l0.map (·.data.toList)) a1.data.toList = joinW (a1.data.toList.headD 0) (l0.map fun x => x.data.toList) := by
    conv => lhs; rw [hsep]
    exact lib_join _ _
  match l0, hr0, hc0, h2, h3, ej with
  | [], _, _, _, _, _ =>
    refine (Tryz.strings_Join_none A0 c0 a1 w).mono ?_
    rintro e w' ⟨rfl, hw⟩
    exact ⟨rfl, hw ▸ Below.refl _ _⟩
  | x :: xs, hr0, hc0, h2, h3, ej =>
    have hS := slat_of_C (d := Kd.string) (f := id) (en := fun x => [Value.string x]) (fun h => h) (fun _ => rfl) (by decide) hr0 hc0
    obtain ⟨_, a, c, hv, _, _, hz⟩ := hS
    injection hv with hv1 _ hv2
    subst hv1 hv2
    rcases hz with hz | ⟨b, o, rfl, hb, hcell⟩
    · simp at hz
    · rw [List.map_id, flat_sing] at hcell
      refine (Tryz.strings_Join b o c0 (x :: xs) a1 w (fun j y hy => hcell j _ (by rw [List.getElem?_map, hy]; rfl)) hb (by omega) hc0 (by rw [ej, ← tx_size]; unfold joinT at h3; omega)).mono ?_
      rintro e w' ⟨rfl, hbl⟩
      refine ⟨?_, hbl⟩
      rw [ej]
      rfl
end Go.Proofs.YtjfknmlchdifjaaGreatDoorQ.P
namespace Go.Proofs.YtjfknmlchdifjaaGreatDoorQ.P
open Go.RowKit Go.Proofs.YtjfknmlchdifjaaGreatDoorW.PrintWords Go.Proofs.YtjfknmlchdifjaaGreatDoorW.PrintLast Go.Proofs.YtjfknmlchdifjaaGreatDoorW.PrintMore
attribute [local go_sem] max2_int min2_int max_two min_two max_three min_three max_four min_four
def wire_alert.l0 : Nat → Int → List (S52) → List ByteArray → Int → Int → Option (Int × (List (S52)) × Int × Int × (List (S32)) × Int)
 | 0, _, _, _, _, _ => none
 | k + 1, x0, x6, x14, x15, x16 => if x16 < x15 then (if 0 ≤ x16 then (if x16 < (x14.length : Int) then ((strings_Cut.f (rdOf ByteArray.empty x14 x16) (⟨#[61]⟩ : ByteArray)).bind fun bt107 => ((some (([(⟨bt107.1, bt107.2.1⟩ : S52)] : List (S52)) : List (S52))).bind fun y110 => (if bt107.2.2 = true then ((label_Right.f y110).bind fun t113 => (if t113 = true then (if x6.length + y110.length < 4398046511104 then (wire_alert.l0 k x0 (x6 ++ y110) x14 x15 (wrap64 (x16 + 1))) else (none)) else (some (0, ([] : List (S52)), 0, 0, ([] : List (S32)), 13)))) else (some (0, ([] : List (S52)), 0, 0, ([] : List (S32)), 13))))) else (none)) else (none)) else ((label_Sort.f x6).bind fun bt102 => (if bt102.2 = 0 then (some (x0, bt102.1, 0, 0, ([] : List (S32)), 0)) else (some (0, ([] : List (S52)), 0, 0, ([] : List (S32)), bt102.2))))
def wire_alert.f (k : Nat) (a0 : Int) (l1 : List ByteArray) : Option (Int × (List (S52)) × Int × Int × (List (S32)) × Int) := wire_alert.l0 k a0 ([] : List (S52)) l1 (l1.length : Int) 0
theorem wire_alert.mono_l : ∀ k, (∀ y0 y1 y2 y3 y4, LeO (wire_alert.l0 k y0 y1 y2 y3 y4) (wire_alert.l0 (k + 1) y0 y1 y2 y3 y4))
 | 0 => fun _ _ _ _ _ r h => by simp [wire_alert.l0] at h
 | k + 1 => by
  have ih0 := wire_alert.mono_l k
  ·intro y0 y1 y2 y3 y4
   unfold wire_alert.l0
   repeat' first
   | (with_reducible exact ih0 _ _ _ _ _)
   | (with_reducible exact LeO.refl _)
   | (with_reducible exact LeO.none _)
   | (with_reducible refine LeO.ite ?_ ?_)
   | (with_reducible refine LeO.bind ?_ (fun _ => ?_))
   | exact ih0 _ _ _ _ _
   | exact LeO.none _
   | refine LeO.ite ?_ ?_
   | refine LeO.bind ?_ (fun _ => ?_)
theorem wire_alert.mono : ∀ a0 a1 k, LeO (wire_alert.f k a0 a1) (wire_alert.f (k + 1) a0 a1) := by
 intro a0 a1 k
 have ih0 := wire_alert.mono_l k
 unfold wire_alert.f
 repeat' first
   | (with_reducible exact ih0 _ _ _ _ _)
   | (with_reducible exact LeO.refl _)
   | (with_reducible exact LeO.none _)
   | (with_reducible refine LeO.ite ?_ ?_)
   | (with_reducible refine LeO.bind ?_ (fun _ => ?_))
   | exact ih0 _ _ _ _ _
   | exact LeO.none _
   | refine LeO.ite ?_ ?_
   | refine LeO.bind ?_ (fun _ => ?_)
set_option maxHeartbeats 8000000 in
set_option maxRecDepth 100000 in
theorem wire_alert.calls (k : Nat) (a0 : Int) (A1 : Option Addr) (c1 : Nat) (l1 : List ByteArray) (r1 : Int) (r2 : List (S52)) (r3 : Int) (r4 : Int) (r5 : List (S32)) (r6 : Int) (w : World) (hG : GOK w) (hr1 : Kd.C Kd.string w A1 l1.length l1) (hc1 : l1.length ≤ c1) (h : wire_alert.f k a0 l1 = some (r1, r2, r3, r4, r5, r6)) :
  Calls Tryz.prog 35 #[.int .i64 a0, .slice A1 l1.length c1] w fun e w' => ∃ v1_ v4_ : Value, e = .returned (.tuple #[.agg #[.int .i64 r1, v1_, .int .i64 r3, .int .i64 r4, v4_], .int .i64 r6]) ∧ Kd.R k52 52 w' w.heap.size (fun _ => True) v1_ r2 ∧ Kd.R k32 32 w' w.heap.size (fun _ => True) v4_ r5 ∧ Below w.heap.size w w' := by
 have hu27 := Tryz.underlying27
 have hu52 := Tryz.underlying52
 have HR1 := aA hr1
 have HC1 := aA hc1
 clear hr1 hc1
 have HG := aA hG
 clear hG
 have HB := aA (Below.refl w.heap.size w)
 have H : (wire_alert.l0 k a0 ([] : List (S52)) l1 (l1.length : Int) 0) = some (r1, r2, r3, r4, r5, r6) := h
 clear h
 have H' := aA H
 clear H
 go_enter Tryz.func35, Tryz.ntmps35
 go_wp2_with (first | ((with_reducible refine gate_dst (N := 4) rfl ?_); refine box_event ?hg (N := 4) ?hd (cs := #[.int .i64 0, .slice none 0 0, .int .i64 0, .int .i64 0, .slice none 0 0]) (t := 27) ?hr ?_; (case hd => rfl); (case hg => rfl); (case hr => first | (go_simp; done) | (go_simp; rfl)); intro gb101 hg w3 hbox hb; have n0_ := aA (below_step mB hb); have n1_ := aA (hbox); have n2_ := aA ((bZ hg mB)); have n3_ := aA ((bZ hg mB)); clear HB; have HB := n0_; have BK101 := n1_; have GW101 := n2_; have GE101 := n3_; clear n0_ n1_ n2_ n3_ hb hbox hg))
 go_loopg [6, 16] k (fun kq v6 v16 w' => ∃ (x6_1 : List (S52)) (x16_1 : Int) (x102000_1 : Int) (x102002_1 : Int) (x102003_1 : Int), v16 = .int .i64 x16_1 ∧ Aside0 (wire_alert.l0 kq a0 x6_1 l1 (l1.length : Int) x16_1 = some (r1, r2, r3, r4, r5, r6)) ∧ Aside0 (kq ≤ k) ∧ Aside0 (Kd.R k52 52 w' w.heap.size (fun _ => True) v6 x6_1) ∧ Aside0 (w'.heap[gb101]? = some (.cells #[.int .i64 x102000_1, (.slice none 0 0), .int .i64 x102002_1, .int .i64 x102003_1, (.slice none 0 0)] 27 (0, 0))) ∧ Aside0 (Below w.heap.size w w'))
 case atStart => exact ⟨(([] : List (S52))), (0), (0), (0), (0), (by first | rfl | (simp; done) | (simp [*]; done)), H', ⟨Nat.le_refl _⟩, ⟨by first | exact Kd.R_nil _ _ _ _ _ | exact Kd.N_nil _ _ _ _ _ | exact Kd.V_nil _ _ _ _ _ | exact Kd.Q_nil _ _ _ _ _ | exact Kd.S_nil _ _ _ _ _⟩, ⟨by (with_reducible repeat (first | refine blk_drewN ?_ _ | refine blk_drew ?_ | refine blk_alloc ?_ _)); exact BK101.out⟩, ⟨by repeat (first | (with_reducible first | exact HB.out | apply below_alloc | apply pw_below_drewN | apply below_drew1 | refine below_set ?_ GE101.out) | exact HB.out)⟩⟩
 case round =>
  clear H'
  try clear c1
  try clear p2
  try clear c3
  obtain ⟨x6_1, x16_1, x102000_1, x102002_1, x102003_1, rfl, HA, HK1, HO_6, BK101, HB⟩ := hrel
  cases gk with
  | zero => exact absurd HA.out (by simp [wire_alert.l0])
  | succ k1 =>
   have H := HA.out
   clear HA
   simp only [wire_alert.l0] at H
   by_cases c4 : x16_1 < (l1.length : Int)
   ·rw [if_pos c4] at H
    have c4b0 : decide (x16_1 < (l1.length : Int)) = true := decide_eq_true c4
    clear c4
    by_cases c5 : 0 ≤ x16_1
    ·rw [if_pos c5] at H
     have c5b0 : decide (0 ≤ x16_1) = true := decide_eq_true c5
     clear c5
     by_cases c6 : x16_1 < (l1.length : Int)
     ·rw [if_pos c6] at H
      have c6b0 : decide (x16_1 < (l1.length : Int)) = true := decide_eq_true c6
      clear c6
      replace H := Option.bind_eq_some_iff.mp H
      obtain ⟨⟨t107, t108, t109⟩, A70, H⟩ := H
      replace H : ((some (([(⟨t107, t108⟩ : S52)] : List (S52)) : List (S52))).bind fun y110 => (if t109 = true then ((label_Right.f y110).bind fun t113 => (if t113 = true then (if x6_1.length + y110.length < 4398046511104 then (wire_alert.l0 k1 a0 (x6_1 ++ y110) l1 (l1.length : Int) (wrap64 (x16_1 + 1))) else (none)) else (some (0, ([] : List (S52)), 0, 0, ([] : List (S32)), 13)))) else (some (0, ([] : List (S52)), 0, 0, ([] : List (S32)), 13)))) = some (r1, r2, r3, r4, r5, r6) := H
      have A7 := aA A70
      clear A70
      obtain ⟨y110, hy110⟩ : ∃ y_ : List (S52), y_ = (([(⟨t107, t108⟩ : S52)] : List (S52))) := ⟨_, rfl⟩
      replace H : (if t109 = true then ((label_Right.f y110).bind fun t113 => (if t113 = true then (if x6_1.length + y110.length < 4398046511104 then (wire_alert.l0 k1 a0 (x6_1 ++ y110) l1 (l1.length : Int) (wrap64 (x16_1 + 1))) else (none)) else (some (0, ([] : List (S52)), 0, 0, ([] : List (S32)), 13)))) else (some (0, ([] : List (S52)), 0, 0, ([] : List (S32)), 13))) = some (r1, r2, r3, r4, r5, r6) := by first | (rw [hy110]; with_reducible exact H) | (have H2_ := (Option.bind_some _ _).symm.trans H; rw [hy110]; with_reducible exact H2_) | (have H2_ := (Option.bind_some _ _).symm.trans H; with_reducible exact H2_) | with_reducible exact H | (rw [hy110]; exact H) | exact H
      have Ny110 := aA hy110
      clear hy110
      by_cases c8 : t109 = true
      ·subst c8
       have H1 : ((label_Right.f y110).bind fun t113 => (if t113 = true then (if x6_1.length + y110.length < 4398046511104 then (wire_alert.l0 k1 a0 (x6_1 ++ y110) l1 (l1.length : Int) (wrap64 (x16_1 + 1))) else (none)) else (some (0, ([] : List (S52)), 0, 0, ([] : List (S32)), 13)))) = some (r1, r2, r3, r4, r5, r6) := by rw [if_pos rfl] at H; exact H
       clear H
       have H := H1
       clear H1
       replace H := Option.bind_eq_some_iff.mp H
       obtain ⟨t113, A90, H⟩ := H
       replace H : (if t113 = true then (if x6_1.length + y110.length < 4398046511104 then (wire_alert.l0 k1 a0 (x6_1 ++ y110) l1 (l1.length : Int) (wrap64 (x16_1 + 1))) else (none)) else (some (0, ([] : List (S52)), 0, 0, ([] : List (S32)), 13))) = some (r1, r2, r3, r4, r5, r6) := H
       have A9 := aA A90
       clear A90
       by_cases c10 : t113 = true
       ·subst c10
        have H1 : (if x6_1.length + y110.length < 4398046511104 then (wire_alert.l0 k1 a0 (x6_1 ++ y110) l1 (l1.length : Int) (wrap64 (x16_1 + 1))) else (none)) = some (r1, r2, r3, r4, r5, r6) := by rw [if_pos rfl] at H; exact H
        clear H
        have H := H1
        clear H1
        by_cases c11 : x6_1.length + y110.length < 4398046511104
        ·rw [if_pos c11] at H
         have LMc11 := aA c11
         clear c11
         obtain ⟨y114, hy114⟩ : ∃ y_ : List (S52), y_ = (x6_1 ++ y110) := ⟨_, rfl⟩
         replace H : (wire_alert.l0 k1 a0 y114 l1 (l1.length : Int) (wrap64 (x16_1 + 1))) = some (r1, r2, r3, r4, r5, r6) := by first | (rw [hy114]; with_reducible exact H) | (have H2_ := (Option.bind_some _ _).symm.trans H; rw [hy114]; with_reducible exact H2_) | (have H2_ := (Option.bind_some _ _).symm.trans H; with_reducible exact H2_) | with_reducible exact H | (rw [hy114]; exact H) | exact H
         have Ny114 := aA hy114
         clear hy114
         have H' := aA H
         clear H
         have p106 : 0 ≤ (x16_1 : Int) := of_decide_eq_true (by first | (with_reducible assumption) | assumption)
         have q106 : x16_1 < (l1.length : Int) := of_decide_eq_true (by first | (with_reducible assumption) | assumption)
         obtain ⟨ad106, e106, hx106_0⟩ := Kd.at_string HR1.out x16_1 p106 q106
         cases e106
         replace hx106_0 := (HB.out.cell (World.block_lt_of_cell? w _ hx106_0)).trans hx106_0
         replace p106 := eq_true p106
         replace q106 := eq_true q106
         go_wp2_with (first | ((with_reducible refine gate_callee (f := 74) rfl ?_); refine goesL_ (some 22) rfl rfl Tryz.func74 (by kernel_rfl) rfl #[.string (rdOf ByteArray.empty l1 x16_1), .string (⟨#[61]⟩ : ByteArray)] rfl mS ?_; (with_reducible refine (strings_Cut.calls (rdOf ByteArray.empty l1 x16_1) (⟨#[61]⟩ : ByteArray) t107 t108 true _ ?side1 A7.out).mono ?_); (case side1 => exact gok_below HG.out (mD1 GE101.out)); rintro e w12 ⟨rfl, hb⟩; refine ⟨_, rfl, ?_⟩; have n0_ := aA (Kd.R_below (mR HO_6.out) hb); have n1_ := aA (bB BK101.out hb); have n2_ := aA (below_step (mD1 GE101.out) hb); clear HO_6 BK101 HB; have HO_6 := n0_; have BK101 := n1_; have HB := n2_; clear n0_ n1_ n2_; (try clear hb); (try clear hb2); (try clear hk); (try clear hi)) | ((with_reducible refine gate_dst (N := 29) rfl ?_); refine Kd.R_lit k52 _ 52 ?hg (N := 29) ?hd (xs := ([(⟨t107, t108⟩ : S52)] : List (S52))) (inner := [.string t107, .string t108]) (ok := fun _ => True) (okp := fun _ => True) ?hr ?hp (fun _ hk => hk) trivial (Below.refl _ _) (Nat.le_refl _) (by simp) ?_; (case hd => rfl); (case hg => rfl); (case hr => first | (go_simp; done) | (go_simp; rfl)); (case hp => exact (Reps.c2 (show Kd.M k52 _ _ _ (⟨t107, t108⟩ : S52) [.string t107, .string t108] from (k52_mkM _ _ _ (⟨t107, t108⟩ : S52) )) (Reps.none _ _))); intro v111 w13 ho14 hb hg_ hnew_; clear hg_ hnew_; (first | rw [← Ny110.out] at ho14 | (simp only [Int.reduceToNat] at ho14; rw [← Ny110.out] at ho14)); have n0_ := aA (Kd.R_elder' (mR HO_6.out) (Kd.R_base ho14) hb); have n1_ := aA (Kd.R_lower (Kd.R_new' ho14 (Kd.R_lt (mR HO_6.out))) (below_size (mD1 GE101.out))); have n2_ := aA (bB BK101.out hb); have n3_ := aA (below_step (mD1 GE101.out) hb); clear HO_6 BK101 HB; have HO_6 := n0_; have HO112 := n1_; have BK101 := n2_; have HB := n3_; clear n0_ n1_ n2_ n3_ hb ho14; obtain ⟨Ao15, co15, eo15⟩ := Kd.R_slice HO112.out; subst eo15) | (go_at_call 48; (with_reducible refine (label_Right.calls _ _ y110 true _ ?side1 ?side2 A9.out).mono ?_); (case side1 => exact mC ((Kd.R_reads' HO112.out).2.2)); (case side2 => exact (Kd.R_reads' HO112.out).2.1); rintro e w16 ⟨rfl, hb⟩; have n0_ := aA (Kd.R_below (mR HO_6.out) hb); have n1_ := aA (Kd.R_below (mR HO112.out) hb); have n2_ := aA (bB BK101.out hb); have n3_ := aA (below_step (mD1 GE101.out) hb); clear HO_6 HO112 BK101 HB; have HO_6 := n0_; have HO112 := n1_; have BK101 := n2_; have HB := n3_; clear n0_ n1_ n2_ n3_; (try clear hb); (try clear hb2); (try clear hk); (try clear hi)) | ((with_reducible refine gate_builtin (b := .append) (xs := #[.tmp 38, .tmp 39]) rfl ?_); at_builtin; refine Kd.R_append_rows k52 (w0 := w) w.heap.size rfl (.tmp 38) (.tmp 39) 22 52 (.agg #[(.string ⟨#[]⟩), (.string ⟨#[]⟩)]) 32 rfl Tryz.underlying22 info52 rfl (by decide) (by omega) u6 x6_1 y110 _ _ _ (fun k_ => some k_ ≠ (.slice Ao15 y110.length co15 : Value).ownBlock) (fun _ => False) rfl rfl ?aO ?aR (fun _ _ h => h) (fun _ h => h.elim) ?aF ?aB ?aS ?aL ?_; (case aR => exact mC ((Kd.R_reads' HO112.out).2.2)); (case aB => exact (mD1 GE101.out)); (case aF => exact (fun k_ hk => Kd.fresh' (Kd.R_lt (mR HO112.out)) k_ hk)); (case aO => exact (by (with_reducible repeat (first | apply Kd.R_alloc | apply Kd.R_drewN | apply Kd.R_drew)); exact Kd.R_mono HO_6.out (fun _ hk => hk.2))); (case aS => exact (below_size (mD1 GE101.out))); (case aL => have := LMc11.out; omega); intro v115 w17 ho hb hg hat; rw [← Ny114.out] at ho; have n0_ := aA (blk_grown (g := gb101) (o := .cells #[.int .i64 x102000_1, .slice none 0 0, .int .i64 x102002_1, .int .i64 x102003_1, .slice none 0 0] 27 (0, 0)) (mK BK101.out) hg (Kd.R_ne HO_6.out BK101.out (by decide))); have n1_ := aA (Kd.R_after (ok := (fun _ => True)) (mR HO112.out) hg hat); have n2_ := aA (hb); have n3_ := aA (ho); clear BK101 HO112 HB HO_6; have BK101 := n0_; have HO112 := n1_; have HB := n2_; have HO116 := n3_; clear n0_ n1_ n2_ n3_ ho hb hg hat))
         go_roundg k1
         case measure => have := HK1.out; omega
         case rel => exact ⟨(y114), (wrap64 (x16_1 + 1)), (x102000_1), (x102002_1), (x102003_1), (by first | rfl | (simp; done) | (simp [*]; done)), H', ⟨by have := HK1.out; omega⟩, ⟨by (with_reducible repeat (first | apply Kd.R_alloc | apply Kd.R_drewN | apply Kd.R_drew)); exact Kd.R_mono HO116.out (fun _ hk => trivial)⟩, ⟨by (with_reducible repeat (first | refine blk_drewN ?_ _ | refine blk_drew ?_ | refine blk_alloc ?_ _)); exact BK101.out⟩, ⟨by repeat (first | (with_reducible first | exact HB.out | apply below_alloc | apply pw_below_drewN | apply below_drew1 | refine below_set ?_ GE101.out) | exact HB.out)⟩⟩
        ·rw [if_neg c11] at H
         exact absurd H (by simp)
       ·replace c10 := Bool.eq_false_iff.mpr c10
        subst c10
        have H1 : (some (0, ([] : List (S52)), 0, 0, ([] : List (S32)), 13)) = some (r1, r2, r3, r4, r5, r6) := by rw [if_neg (show ¬ (false = true) by decide)] at H; exact H
        clear H
        have H := H1
        clear H1
        simp only [Option.some.injEq, Prod.mk.injEq] at H
        obtain ⟨rfl, rfl, rfl, rfl, rfl, rfl⟩ := H
        have p106 : 0 ≤ (x16_1 : Int) := of_decide_eq_true (by first | (with_reducible assumption) | assumption)
        have q106 : x16_1 < (l1.length : Int) := of_decide_eq_true (by first | (with_reducible assumption) | assumption)
        obtain ⟨ad106, e106, hx106_0⟩ := Kd.at_string HR1.out x16_1 p106 q106
        cases e106
        replace hx106_0 := (HB.out.cell (World.block_lt_of_cell? w _ hx106_0)).trans hx106_0
        replace p106 := eq_true p106
        replace q106 := eq_true q106
        go_wp2_with (first | ((with_reducible refine gate_callee (f := 74) rfl ?_); refine goesL_ (some 22) rfl rfl Tryz.func74 (by kernel_rfl) rfl #[.string (rdOf ByteArray.empty l1 x16_1), .string (⟨#[61]⟩ : ByteArray)] rfl mS ?_; (with_reducible refine (strings_Cut.calls (rdOf ByteArray.empty l1 x16_1) (⟨#[61]⟩ : ByteArray) t107 t108 true _ ?side1 A7.out).mono ?_); (case side1 => exact gok_below HG.out (mD1 GE101.out)); rintro e w18 ⟨rfl, hb⟩; refine ⟨_, rfl, ?_⟩; have n0_ := aA (Kd.R_below (mR HO_6.out) hb); have n1_ := aA (bB BK101.out hb); have n2_ := aA (below_step (mD1 GE101.out) hb); clear HO_6 BK101 HB; have HO_6 := n0_; have BK101 := n1_; have HB := n2_; clear n0_ n1_ n2_; (try clear hb); (try clear hb2); (try clear hk); (try clear hi)) | ((with_reducible refine gate_dst (N := 29) rfl ?_); refine Kd.R_lit k52 _ 52 ?hg (N := 29) ?hd (xs := ([(⟨t107, t108⟩ : S52)] : List (S52))) (inner := [.string t107, .string t108]) (ok := fun _ => True) (okp := fun _ => True) ?hr ?hp (fun _ hk => hk) trivial (Below.refl _ _) (Nat.le_refl _) (by simp) ?_; (case hd => rfl); (case hg => rfl); (case hr => first | (go_simp; done) | (go_simp; rfl)); (case hp => exact (Reps.c2 (show Kd.M k52 _ _ _ (⟨t107, t108⟩ : S52) [.string t107, .string t108] from (k52_mkM _ _ _ (⟨t107, t108⟩ : S52) )) (Reps.none _ _))); intro v111 w19 ho20 hb hg_ hnew_; clear hg_ hnew_; (first | rw [← Ny110.out] at ho20 | (simp only [Int.reduceToNat] at ho20; rw [← Ny110.out] at ho20)); have n0_ := aA (Kd.R_elder' (mR HO_6.out) (Kd.R_base ho20) hb); have n1_ := aA (Kd.R_lower (Kd.R_new' ho20 (Kd.R_lt (mR HO_6.out))) (below_size (mD1 GE101.out))); have n2_ := aA (bB BK101.out hb); have n3_ := aA (below_step (mD1 GE101.out) hb); clear HO_6 BK101 HB; have HO_6 := n0_; have HO112 := n1_; have BK101 := n2_; have HB := n3_; clear n0_ n1_ n2_ n3_ hb ho20; obtain ⟨Ao21, co21, eo21⟩ := Kd.R_slice HO112.out; subst eo21) | (go_at_call 48; (with_reducible refine (label_Right.calls _ _ y110 false _ ?side1 ?side2 A9.out).mono ?_); (case side1 => exact mC ((Kd.R_reads' HO112.out).2.2)); (case side2 => exact (Kd.R_reads' HO112.out).2.1); rintro e w22 ⟨rfl, hb⟩; have n0_ := aA (Kd.R_below (mR HO_6.out) hb); have n1_ := aA (Kd.R_below (mR HO112.out) hb); have n2_ := aA (bB BK101.out hb); have n3_ := aA (below_step (mD1 GE101.out) hb); clear HO_6 HO112 BK101 HB; have HO_6 := n0_; have HO112 := n1_; have BK101 := n2_; have HB := n3_; clear n0_ n1_ n2_ n3_; (try clear hb); (try clear hb2); (try clear hk); (try clear hi); obtain ⟨hcz23_0, hcz23_1, hcz23_2, hcz23_3, hcz23_4⟩ := bC5 BK101.out; obtain ⟨hfz23_0, hfz23_1, hfz23_2, hfz23_3, hfz23_4⟩ := bF5 BK101.out))
        refine bodyPost_ret (results_ct rfl _ _ gb101 27 #[.int .i64 0, .slice none 0 0, .int .i64 0, .int .i64 0, .slice none 0 0] (0, 0) _ rfl (by (with_reducible repeat (first | refine blk_drewN ?_ _ | refine blk_drew ?_ | refine blk_alloc ?_ _)); have h_ := BK101.out; exact pK 4 (pK 3 (pK 2 (pK 1 (pK 0 (h_)))))) Tryz.underlying27 rfl (by kernel_rfl)) rfl ?_
        exact ⟨_, _, by first | rfl | (simp [errW_none, errW_some] <;> rfl) | (simp [*, errW_none, errW_some] <;> rfl), by first | exact Kd.R_nil _ _ _ _ _ | exact Kd.N_nil _ _ _ _ _ | exact Kd.V_nil _ _ _ _ _ | exact Kd.Q_nil _ _ _ _ _ | exact Kd.S_nil _ _ _ _ _, by first | exact Kd.R_nil _ _ _ _ _ | exact Kd.N_nil _ _ _ _ _ | exact Kd.V_nil _ _ _ _ _ | exact Kd.Q_nil _ _ _ _ _ | exact Kd.S_nil _ _ _ _ _, by repeat (first | (with_reducible first | exact HB.out | apply below_alloc | apply pw_below_drewN | apply below_drew1 | refine below_set ?_ GE101.out) | exact HB.out)⟩
      ·replace c8 := Bool.eq_false_iff.mpr c8
       subst c8
       have H1 : (some (0, ([] : List (S52)), 0, 0, ([] : List (S32)), 13)) = some (r1, r2, r3, r4, r5, r6) := by rw [if_neg (show ¬ (false = true) by decide)] at H; exact H
       clear H
       have H := H1
       clear H1
       simp only [Option.some.injEq, Prod.mk.injEq] at H
       obtain ⟨rfl, rfl, rfl, rfl, rfl, rfl⟩ := H
       have p106 : 0 ≤ (x16_1 : Int) := of_decide_eq_true (by first | (with_reducible assumption) | assumption)
       have q106 : x16_1 < (l1.length : Int) := of_decide_eq_true (by first | (with_reducible assumption) | assumption)
       obtain ⟨ad106, e106, hx106_0⟩ := Kd.at_string HR1.out x16_1 p106 q106
       cases e106
       replace hx106_0 := (HB.out.cell (World.block_lt_of_cell? w _ hx106_0)).trans hx106_0
       replace p106 := eq_true p106
       replace q106 := eq_true q106
       go_wp2_with (first | ((with_reducible refine gate_callee (f := 74) rfl ?_); refine goesL_ (some 22) rfl rfl Tryz.func74 (by kernel_rfl) rfl #[.string (rdOf ByteArray.empty l1 x16_1), .string (⟨#[61]⟩ : ByteArray)] rfl mS ?_; (with_reducible refine (strings_Cut.calls (rdOf ByteArray.empty l1 x16_1) (⟨#[61]⟩ : ByteArray) t107 t108 false _ ?side1 A7.out).mono ?_); (case side1 => exact gok_below HG.out (mD1 GE101.out)); rintro e w24 ⟨rfl, hb⟩; refine ⟨_, rfl, ?_⟩; have n0_ := aA (Kd.R_below (mR HO_6.out) hb); have n1_ := aA (bB BK101.out hb); have n2_ := aA (below_step (mD1 GE101.out) hb); clear HO_6 BK101 HB; have HO_6 := n0_; have BK101 := n1_; have HB := n2_; clear n0_ n1_ n2_; (try clear hb); (try clear hb2); (try clear hk); (try clear hi)) | ((with_reducible refine gate_dst (N := 29) rfl ?_); refine Kd.R_lit k52 _ 52 ?hg (N := 29) ?hd (xs := ([(⟨t107, t108⟩ : S52)] : List (S52))) (inner := [.string t107, .string t108]) (ok := fun _ => True) (okp := fun _ => True) ?hr ?hp (fun _ hk => hk) trivial (Below.refl _ _) (Nat.le_refl _) (by simp) ?_; (case hd => rfl); (case hg => rfl); (case hr => first | (go_simp; done) | (go_simp; rfl)); (case hp => exact (Reps.c2 (show Kd.M k52 _ _ _ (⟨t107, t108⟩ : S52) [.string t107, .string t108] from (k52_mkM _ _ _ (⟨t107, t108⟩ : S52) )) (Reps.none _ _))); intro v111 w25 ho26 hb hg_ hnew_; clear hg_ hnew_; (first | rw [← Ny110.out] at ho26 | (simp only [Int.reduceToNat] at ho26; rw [← Ny110.out] at ho26)); have n0_ := aA (Kd.R_elder' (mR HO_6.out) (Kd.R_base ho26) hb); have n1_ := aA (Kd.R_lower (Kd.R_new' ho26 (Kd.R_lt (mR HO_6.out))) (below_size (mD1 GE101.out))); have n2_ := aA (bB BK101.out hb); have n3_ := aA (below_step (mD1 GE101.out) hb); clear HO_6 BK101 HB; have HO_6 := n0_; have HO112 := n1_; have BK101 := n2_; have HB := n3_; clear n0_ n1_ n2_ n3_ hb ho26; obtain ⟨hcz27_0, hcz27_1, hcz27_2, hcz27_3, hcz27_4⟩ := bC5 BK101.out; obtain ⟨hfz27_0, hfz27_1, hfz27_2, hfz27_3, hfz27_4⟩ := bF5 BK101.out))
       refine bodyPost_ret (results_ct rfl _ _ gb101 27 #[.int .i64 0, .slice none 0 0, .int .i64 0, .int .i64 0, .slice none 0 0] (0, 0) _ rfl (by (with_reducible repeat (first | refine blk_drewN ?_ _ | refine blk_drew ?_ | refine blk_alloc ?_ _)); have h_ := BK101.out; exact pK 4 (pK 3 (pK 2 (pK 1 (pK 0 (h_)))))) Tryz.underlying27 rfl (by kernel_rfl)) rfl ?_
       exact ⟨_, _, by first | rfl | (simp [errW_none, errW_some] <;> rfl) | (simp [*, errW_none, errW_some] <;> rfl), by first | exact Kd.R_nil _ _ _ _ _ | exact Kd.N_nil _ _ _ _ _ | exact Kd.V_nil _ _ _ _ _ | exact Kd.Q_nil _ _ _ _ _ | exact Kd.S_nil _ _ _ _ _, by first | exact Kd.R_nil _ _ _ _ _ | exact Kd.N_nil _ _ _ _ _ | exact Kd.V_nil _ _ _ _ _ | exact Kd.Q_nil _ _ _ _ _ | exact Kd.S_nil _ _ _ _ _, by repeat (first | (with_reducible first | exact HB.out | apply below_alloc | apply pw_below_drewN | apply below_drew1 | refine below_set ?_ GE101.out) | exact HB.out)⟩
     ·rw [if_neg c6] at H
      exact absurd H (by simp)
    ·rw [if_neg c5] at H
     exact absurd H (by simp)
   ·rw [if_neg c4] at H
    have c4b0 : decide (x16_1 < (l1.length : Int)) = false := decide_eq_false c4
    clear c4
    replace H := Option.bind_eq_some_iff.mp H
    obtain ⟨⟨t102, t103⟩, A280, H⟩ := H
    replace H : (if t103 = 0 then (some (a0, t102, 0, 0, ([] : List (S32)), 0)) else (some (0, ([] : List (S52)), 0, 0, ([] : List (S32)), t103))) = some (r1, r2, r3, r4, r5, r6) := H
    have A28 := aA A280
    clear A280
    by_cases c29 : t103 = 0
    ·rw [if_pos c29] at H
     have c29b0 : (t103 == 0) = true := beq_iff_eq.mpr c29
     have c29b1 : (t103 != 0) = false := bne_eq_false_iff_eq.mpr c29
     clear c29
     simp only [Option.some.injEq, Prod.mk.injEq] at H
     obtain ⟨rfl, rfl, rfl, rfl, rfl, rfl⟩ := H
     obtain ⟨Ao30, co30, eo30⟩ := Kd.R_slice HO_6.out
     subst eo30
     go_wp2_with (first | ((with_reducible refine gate_callee (f := 75) rfl ?_); refine goesL_ (some 44) rfl rfl Tryz.func75 (by kernel_rfl) rfl #[.slice Ao30 x6_1.length co30] rfl mS ?_; (with_reducible refine (label_Sort.calls _ _ x6_1 t102 t103 _ ?side1 ?side2 A28.out).mono ?_); (case side1 => exact mC ((Kd.R_reads' HO_6.out).2.2)); (case side2 => exact (Kd.R_reads' HO_6.out).2.1); rintro e w31 ⟨v104, rfl, ho0, hb⟩; refine ⟨_, rfl, ?_⟩; have n0_ := aA (Kd.R_elder' (mR HO_6.out) (Kd.R_base ho0) hb); have n1_ := aA (Kd.R_lower (Kd.R_new' ho0 (Kd.R_lt (mR HO_6.out))) (below_size (mD1 GE101.out))); have n2_ := aA (bB BK101.out hb); have n3_ := aA (below_step (mD1 GE101.out) hb); clear HO_6 BK101 HB; have HO_6 := n0_; have HO105 := n1_; have BK101 := n2_; have HB := n3_; clear n0_ n1_ n2_ n3_; (try clear hb); (try clear hb2); (try clear hk); (try clear hi); (try clear ho0); obtain ⟨Ao32, co32, eo32⟩ := Kd.R_slice HO105.out; subst eo32; obtain ⟨hcz33_0, hcz33_1, hcz33_2, hcz33_3, hcz33_4⟩ := bC5 BK101.out; obtain ⟨hfz33_0, hfz33_1, hfz33_2, hfz33_3, hfz33_4⟩ := bF5 BK101.out))
     refine bodyPost_ret (results_ct rfl _ _ gb101 27 #[.int .i64 a0, .slice Ao32 t102.length co32, .int .i64 0, .int .i64 0, .slice none 0 0] (0, 0) _ rfl (by (with_reducible repeat (first | refine blk_drewN ?_ _ | refine blk_drew ?_ | refine blk_alloc ?_ _)); have h_ := BK101.out; exact pK 4 (pK 3 (pK 2 (pK 1 (pK 0 (h_)))))) Tryz.underlying27 rfl (by kernel_rfl)) rfl ?_
     exact ⟨_, _, by first | rfl | (simp [errW_none, errW_some] <;> rfl) | (simp [*, errW_none, errW_some] <;> rfl), by (with_reducible repeat (first | apply Kd.R_alloc | apply Kd.R_drewN | apply Kd.R_drew)); exact Kd.R_mono (rF 4 (rF 3 (rF 2 (rF 1 (rF 0 (Kd.R_types HO105.out BK101.out (by decide))))))) (fun _ hk => trivial), by first | exact Kd.R_nil _ _ _ _ _ | exact Kd.N_nil _ _ _ _ _ | exact Kd.V_nil _ _ _ _ _ | exact Kd.Q_nil _ _ _ _ _ | exact Kd.S_nil _ _ _ _ _, by repeat (first | (with_reducible first | exact HB.out | apply below_alloc | apply pw_below_drewN | apply below_drew1 | refine below_set ?_ GE101.out) | exact HB.out)⟩
    ·rw [if_neg c29] at H
     have c29b0 : (t103 == 0) = false := beq_eq_false_iff_ne.mpr c29
     have c29b1 : (t103 != 0) = true := bne_iff_ne.mpr c29
     simp only [Option.some.injEq, Prod.mk.injEq] at H
     obtain ⟨rfl, rfl, rfl, rfl, rfl, rfl⟩ := H
     obtain ⟨Ao34, co34, eo34⟩ := Kd.R_slice HO_6.out
     subst eo34
     go_wp2_with (first | ((with_reducible refine gate_callee (f := 75) rfl ?_); refine goesL_ (some 44) rfl rfl Tryz.func75 (by kernel_rfl) rfl #[.slice Ao34 x6_1.length co34] rfl mS ?_; (with_reducible refine (label_Sort.calls _ _ x6_1 t102 t103 _ ?side1 ?side2 A28.out).mono ?_); (case side1 => exact mC ((Kd.R_reads' HO_6.out).2.2)); (case side2 => exact (Kd.R_reads' HO_6.out).2.1); rintro e w35 ⟨v104, rfl, ho0, hb⟩; refine ⟨_, rfl, ?_⟩; have n0_ := aA (Kd.R_elder' (mR HO_6.out) (Kd.R_base ho0) hb); have n1_ := aA (Kd.R_lower (Kd.R_new' ho0 (Kd.R_lt (mR HO_6.out))) (below_size (mD1 GE101.out))); have n2_ := aA (bB BK101.out hb); have n3_ := aA (below_step (mD1 GE101.out) hb); clear HO_6 BK101 HB; have HO_6 := n0_; have HO105 := n1_; have BK101 := n2_; have HB := n3_; clear n0_ n1_ n2_ n3_; (try clear hb); (try clear hb2); (try clear hk); (try clear hi); (try clear ho0); obtain ⟨hcz36_0, hcz36_1, hcz36_2, hcz36_3, hcz36_4⟩ := bC5 BK101.out; obtain ⟨hfz36_0, hfz36_1, hfz36_2, hfz36_3, hfz36_4⟩ := bF5 BK101.out))
     refine bodyPost_ret (results_ct rfl _ _ gb101 27 #[.int .i64 0, .slice none 0 0, .int .i64 0, .int .i64 0, .slice none 0 0] (0, 0) _ rfl (by (with_reducible repeat (first | refine blk_drewN ?_ _ | refine blk_drew ?_ | refine blk_alloc ?_ _)); have h_ := BK101.out; exact pK 4 (pK 3 (pK 2 (pK 1 (pK 0 (h_)))))) Tryz.underlying27 rfl (by kernel_rfl)) rfl ?_
     exact ⟨_, _, by first | rfl | (simp [errW_none, errW_some] <;> rfl) | (simp [*, errW_none, errW_some] <;> rfl), by first | exact Kd.R_nil _ _ _ _ _ | exact Kd.N_nil _ _ _ _ _ | exact Kd.V_nil _ _ _ _ _ | exact Kd.Q_nil _ _ _ _ _ | exact Kd.S_nil _ _ _ _ _, by first | exact Kd.R_nil _ _ _ _ _ | exact Kd.N_nil _ _ _ _ _ | exact Kd.V_nil _ _ _ _ _ | exact Kd.Q_nil _ _ _ _ _ | exact Kd.S_nil _ _ _ _ _, by repeat (first | (with_reducible first | exact HB.out | apply below_alloc | apply pw_below_drewN | apply below_drew1 | refine below_set ?_ GE101.out) | exact HB.out)⟩
end Go.Proofs.YtjfknmlchdifjaaGreatDoorQ.P
namespace Go.Proofs.YtjfknmlchdifjaaGreatDoorQ.P
open Go.RowKit Go.Proofs.YtjfknmlchdifjaaGreatDoorW.PrintWords Go.Proofs.YtjfknmlchdifjaaGreatDoorW.PrintLast Go.Proofs.YtjfknmlchdifjaaGreatDoorW.PrintMore
attribute [local go_sem] max2_int min2_int max_two min_two max_three min_three max_four min_four
def wire_Asked.f (a0 : ByteArray) : Option (Int × ByteArray × ByteArray × Int) := (strings_IndexAny.f a0 (⟨#[61, 33, 94, 63]⟩ : ByteArray)).bind fun t118 => (if t118 < 0 then (some (0, (⟨#[]⟩ : ByteArray), (⟨#[]⟩ : ByteArray), 13)) else (if 0 ≤ t118 then (if t118 ≤ (a0.size : Int) then (if 0 ≤ (wrap64 (t118 + 1)) then (if (wrap64 (t118 + 1)) ≤ (a0.size : Int) then (if t118 < (a0.size : Int) then (if (wrap32 (bt a0 t118)) = 61 then ((label_Matcher.f 0 (a0.extract 0 (t118 : Int).toNat) (a0.extract ((wrap64 (t118 + 1)) : Int).toNat a0.size)).bind fun t120 => (if t120 = true then (some (0, a0.extract 0 (t118 : Int).toNat, a0.extract ((wrap64 (t118 + 1)) : Int).toNat a0.size, 0)) else (some (0, (⟨#[]⟩ : ByteArray), (⟨#[]⟩ : ByteArray), 13)))) else (if (wrap32 (bt a0 t118)) = 33 then ((label_Matcher.f 1 (a0.extract 0 (t118 : Int).toNat) (a0.extract ((wrap64 (t118 + 1)) : Int).toNat a0.size)).bind fun t121 => (if t121 = true then (some (1, a0.extract 0 (t118 : Int).toNat, a0.extract ((wrap64 (t118 + 1)) : Int).toNat a0.size, 0)) else (some (0, (⟨#[]⟩ : ByteArray), (⟨#[]⟩ : ByteArray), 13)))) else (if (wrap32 (bt a0 t118)) = 94 then ((label_Matcher.f 2 (a0.extract 0 (t118 : Int).toNat) (a0.extract ((wrap64 (t118 + 1)) : Int).toNat a0.size)).bind fun t122 => (if t122 = true then (some (2, a0.extract 0 (t118 : Int).toNat, a0.extract ((wrap64 (t118 + 1)) : Int).toNat a0.size, 0)) else (some (0, (⟨#[]⟩ : ByteArray), (⟨#[]⟩ : ByteArray), 13)))) else ((label_Matcher.f 3 (a0.extract 0 (t118 : Int).toNat) (a0.extract ((wrap64 (t118 + 1)) : Int).toNat a0.size)).bind fun t123 => (if t123 = true then (some (3, a0.extract 0 (t118 : Int).toNat, a0.extract ((wrap64 (t118 + 1)) : Int).toNat a0.size, 0)) else (some (0, (⟨#[]⟩ : ByteArray), (⟨#[]⟩ : ByteArray), 13))))))) else (none)) else (none)) else (none)) else (none)) else (none)))
def wire_Asked.T4 : Bool × List (List Nat × List Nat) := (true, [([], []), ([], []), ([0, 1], [0, 1]), ([], []), ([], []), ([4], [4]), ([3, 5], [3, 5]), ([2, 6], [2, 6]), ([], []), ([8, 7, 0, 1, 2, 3, 4, 5, 6, 7, 8], [7, 8])])
def wire_Asked.B4 : List Nat := [0, 0, 3, 0, 0, 16, 56, 127, 0, 511]
theorem wire_Asked.tab4 : rtab .any (opsOf Tryz.f12 4) = wire_Asked.T4 := by kernel_rfl
theorem wire_Asked.bits4 : waitsOk wire_Asked.T4.2 wire_Asked.B4 = true := by kernel_rfl
set_option maxHeartbeats 8000000 in
set_option maxRecDepth 100000 in
theorem wire_Asked.calls (a0 : ByteArray) (r1 : Int) (r2 : ByteArray) (r3 : ByteArray) (r4 : Int) (w : World) (h : wire_Asked.f a0 = some (r1, r2, r3, r4)) :
  Calls Tryz.prog 12 #[.string a0] w fun e w' => e = .returned (.tuple #[.agg #[.int .i64 r1, .string r2, .string r3], .int .i64 r4]) ∧ Below w.heap.size w w' := by
 have hu32 := Tryz.underlying32
 have HB := aA (Below.refl w.heap.size w)
 have H : ((strings_IndexAny.f a0 (⟨#[61, 33, 94, 63]⟩ : ByteArray)).bind fun t118 => (if t118 < 0 then (some (0, (⟨#[]⟩ : ByteArray), (⟨#[]⟩ : ByteArray), 13)) else (if 0 ≤ t118 then (if t118 ≤ (a0.size : Int) then (if 0 ≤ (wrap64 (t118 + 1)) then (if (wrap64 (t118 + 1)) ≤ (a0.size : Int) then (if t118 < (a0.size : Int) then (if (wrap32 (bt a0 t118)) = 61 then ((label_Matcher.f 0 (a0.extract 0 (t118 : Int).toNat) (a0.extract ((wrap64 (t118 + 1)) : Int).toNat a0.size)).bind fun t120 => (if t120 = true then (some (0, a0.extract 0 (t118 : Int).toNat, a0.extract ((wrap64 (t118 + 1)) : Int).toNat a0.size, 0)) else (some (0, (⟨#[]⟩ : ByteArray), (⟨#[]⟩ : ByteArray), 13)))) else (if (wrap32 (bt a0 t118)) = 33 then ((label_Matcher.f 1 (a0.extract 0 (t118 : Int).toNat) (a0.extract ((wrap64 (t118 + 1)) : Int).toNat a0.size)).bind fun t121 => (if t121 = true then (some (1, a0.extract 0 (t118 : Int).toNat, a0.extract ((wrap64 (t118 + 1)) : Int).toNat a0.size, 0)) else (some (0, (⟨#[]⟩ : ByteArray), (⟨#[]⟩ : ByteArray), 13)))) else (if (wrap32 (bt a0 t118)) = 94 then ((label_Matcher.f 2 (a0.extract 0 (t118 : Int).toNat) (a0.extract ((wrap64 (t118 + 1)) : Int).toNat a0.size)).bind fun t122 => (if t122 = true then (some (2, a0.extract 0 (t118 : Int).toNat, a0.extract ((wrap64 (t118 + 1)) : Int).toNat a0.size, 0)) else (some (0, (⟨#[]⟩ : ByteArray), (⟨#[]⟩ : ByteArray), 13)))) else ((label_Matcher.f 3 (a0.extract 0 (t118 : Int).toNat) (a0.extract ((wrap64 (t118 + 1)) : Int).toNat a0.size)).bind fun t123 => (if t123 = true then (some (3, a0.extract 0 (t118 : Int).toNat, a0.extract ((wrap64 (t118 + 1)) : Int).toNat a0.size, 0)) else (some (0, (⟨#[]⟩ : ByteArray), (⟨#[]⟩ : ByteArray), 13))))))) else (none)) else (none)) else (none)) else (none)) else (none)))) = some (r1, r2, r3, r4) := h
 clear h
 replace H := Option.bind_eq_some_iff.mp H
 obtain ⟨t118, A20, H⟩ := H
 replace H : (if t118 < 0 then (some (0, (⟨#[]⟩ : ByteArray), (⟨#[]⟩ : ByteArray), 13)) else (if 0 ≤ t118 then (if t118 ≤ (a0.size : Int) then (if 0 ≤ (wrap64 (t118 + 1)) then (if (wrap64 (t118 + 1)) ≤ (a0.size : Int) then (if t118 < (a0.size : Int) then (if (wrap32 (bt a0 t118)) = 61 then ((label_Matcher.f 0 (a0.extract 0 (t118 : Int).toNat) (a0.extract ((wrap64 (t118 + 1)) : Int).toNat a0.size)).bind fun t120 => (if t120 = true then (some (0, a0.extract 0 (t118 : Int).toNat, a0.extract ((wrap64 (t118 + 1)) : Int).toNat a0.size, 0)) else (some (0, (⟨#[]⟩ : ByteArray), (⟨#[]⟩ : ByteArray), 13)))) else (if (wrap32 (bt a0 t118)) = 33 then ((label_Matcher.f 1 (a0.extract 0 (t118 : Int).toNat) (a0.extract ((wrap64 (t118 + 1)) : Int).toNat a0.size)).bind fun t121 => (if t121 = true then (some (1, a0.extract 0 (t118 : Int).toNat, a0.extract ((wrap64 (t118 + 1)) : Int).toNat a0.size, 0)) else (some (0, (⟨#[]⟩ : ByteArray), (⟨#[]⟩ : ByteArray), 13)))) else (if (wrap32 (bt a0 t118)) = 94 then ((label_Matcher.f 2 (a0.extract 0 (t118 : Int).toNat) (a0.extract ((wrap64 (t118 + 1)) : Int).toNat a0.size)).bind fun t122 => (if t122 = true then (some (2, a0.extract 0 (t118 : Int).toNat, a0.extract ((wrap64 (t118 + 1)) : Int).toNat a0.size, 0)) else (some (0, (⟨#[]⟩ : ByteArray), (⟨#[]⟩ : ByteArray), 13)))) else ((label_Matcher.f 3 (a0.extract 0 (t118 : Int).toNat) (a0.extract ((wrap64 (t118 + 1)) : Int).toNat a0.size)).bind fun t123 => (if t123 = true then (some (3, a0.extract 0 (t118 : Int).toNat, a0.extract ((wrap64 (t118 + 1)) : Int).toNat a0.size, 0)) else (some (0, (⟨#[]⟩ : ByteArray), (⟨#[]⟩ : ByteArray), 13))))))) else (none)) else (none)) else (none)) else (none)) else (none))) = some (r1, r2, r3, r4) := H
 have A2 := aA A20
 clear A20
 by_cases c3 : t118 < 0
 ·rw [if_pos c3] at H
  have c3b0 : decide (t118 < 0) = true := decide_eq_true c3
  clear c3
  simp only [Option.some.injEq, Prod.mk.injEq] at H
  obtain ⟨rfl, rfl, rfl, rfl⟩ := H
  go_enter Tryz.func12, Tryz.ntmps12
  go_wp2_with (first | ((with_reducible refine gate_dst (N := 2) rfl ?_); refine box_event ?hg (N := 2) ?hd (cs := #[.int .i64 0, .string (⟨#[]⟩ : ByteArray), .string (⟨#[]⟩ : ByteArray)]) (t := 32) ?hr ?_; (case hd => rfl); (case hg => rfl); (case hr => first | (go_simp; done) | (go_simp; rfl)); intro gb117 hg w4 hbox hb; have n0_ := aA (below_step mB hb); have n1_ := aA (hbox); have n2_ := aA ((bZ hg mB)); have n3_ := aA ((bZ hg mB)); clear HB; have HB := n0_; have BK117 := n1_; have GW117 := n2_; have GE117 := n3_; clear n0_ n1_ n2_ n3_ hb hbox hg) | ((with_reducible refine gate_callee (f := 40) rfl ?_); refine goesL_ (some 7) rfl rfl Tryz.func40 (by kernel_rfl) rfl #[.string a0, .string (⟨#[61, 33, 94, 63]⟩ : ByteArray)] rfl mS ?_; (with_reducible refine (strings_IndexAny.calls a0 (⟨#[61, 33, 94, 63]⟩ : ByteArray) t118 _ A2.out).mono ?_); rintro e w5 ⟨rfl, hb⟩; refine ⟨_, rfl, ?_⟩; have n0_ := aA (bB BK117.out hb); have n1_ := aA (below_step (mD1 GE117.out) hb); clear BK117 HB; have BK117 := n0_; have HB := n1_; clear n0_ n1_; (try clear hb); (try clear hb2); (try clear hk); (try clear hi); obtain ⟨hcz6_0, hcz6_1, hcz6_2⟩ := bC3 BK117.out; obtain ⟨hfz6_0, hfz6_1, hfz6_2⟩ := bF3 BK117.out))
  refine bodyPost_ret (results_ct rfl _ _ gb117 32 #[.int .i64 0, .string (⟨#[]⟩ : ByteArray), .string (⟨#[]⟩ : ByteArray)] (0, 0) _ rfl (by (with_reducible repeat (first | refine blk_drewN ?_ _ | refine blk_drew ?_ | refine blk_alloc ?_ _)); have h_ := BK117.out; exact pK 2 (pK 1 (pK 0 (h_)))) Tryz.underlying32 rfl (by kernel_rfl)) rfl ?_
  exact ⟨by first | rfl | (simp [errW_none, errW_some] <;> rfl) | (simp [*, errW_none, errW_some] <;> rfl), by repeat (first | (with_reducible first | exact HB.out | apply below_alloc | apply pw_below_drewN | apply below_drew1 | refine below_set ?_ GE117.out) | exact HB.out)⟩
 ·rw [if_neg c3] at H
  have c3b0 : decide (t118 < 0) = false := decide_eq_false c3
  clear c3
  by_cases c7 : 0 ≤ t118
  ·rw [if_pos c7] at H
   have c7b0 := eq_true c7
   have c7b1 := decide_eq_true c7
   clear c7
   by_cases c8 : t118 ≤ (a0.size : Int)
   ·rw [if_pos c8] at H
    have c8b0 := eq_true c8
    have c8b1 := decide_eq_true c8
    clear c8
    obtain ⟨ji9, hji9⟩ : ∃ j_ : Int, (wrap64 (t118 + 1)) = j_ := ⟨_, rfl⟩
    replace H : (if 0 ≤ (ji9) then (if (ji9) ≤ (a0.size : Int) then (if t118 < (a0.size : Int) then (if (wrap32 (bt a0 t118)) = 61 then ((label_Matcher.f 0 (a0.extract 0 (t118 : Int).toNat) (a0.extract ((ji9) : Int).toNat a0.size)).bind fun t120 => (if t120 = true then (some (0, a0.extract 0 (t118 : Int).toNat, a0.extract ((ji9) : Int).toNat a0.size, 0)) else (some (0, (⟨#[]⟩ : ByteArray), (⟨#[]⟩ : ByteArray), 13)))) else (if (wrap32 (bt a0 t118)) = 33 then ((label_Matcher.f 1 (a0.extract 0 (t118 : Int).toNat) (a0.extract ((ji9) : Int).toNat a0.size)).bind fun t121 => (if t121 = true then (some (1, a0.extract 0 (t118 : Int).toNat, a0.extract ((ji9) : Int).toNat a0.size, 0)) else (some (0, (⟨#[]⟩ : ByteArray), (⟨#[]⟩ : ByteArray), 13)))) else (if (wrap32 (bt a0 t118)) = 94 then ((label_Matcher.f 2 (a0.extract 0 (t118 : Int).toNat) (a0.extract ((ji9) : Int).toNat a0.size)).bind fun t122 => (if t122 = true then (some (2, a0.extract 0 (t118 : Int).toNat, a0.extract ((ji9) : Int).toNat a0.size, 0)) else (some (0, (⟨#[]⟩ : ByteArray), (⟨#[]⟩ : ByteArray), 13)))) else ((label_Matcher.f 3 (a0.extract 0 (t118 : Int).toNat) (a0.extract ((ji9) : Int).toNat a0.size)).bind fun t123 => (if t123 = true then (some (3, a0.extract 0 (t118 : Int).toNat, a0.extract ((ji9) : Int).toNat a0.size, 0)) else (some (0, (⟨#[]⟩ : ByteArray), (⟨#[]⟩ : ByteArray), 13))))))) else (none)) else (none)) else (none)) = some (r1, r2, r3, r4) := by first | (rw [hji9] at H; exact H) | (simp only [hji9] at H ⊢; exact H)
    (try rw [hji9] at A2)
    have hji9w : (IntKind.i64.wrap (t118 + 1)) = ji9 := (i64_w _).trans hji9
    by_cases c10 : 0 ≤ (ji9)
    ·rw [if_pos c10] at H
     have c10b0 := eq_true c10
     have c10b1 := decide_eq_true c10
     clear c10
     by_cases c11 : (ji9) ≤ (a0.size : Int)
     ·rw [if_pos c11] at H
      have c11b0 := eq_true c11
      have c11b1 := decide_eq_true c11
      clear c11
      by_cases c12 : t118 < (a0.size : Int)
      ·rw [if_pos c12] at H
       have c12b0 : decide (t118 < (a0.size : Int)) = true := decide_eq_true c12
       clear c12
       by_cases c14 : (wrap32 (bt a0 t118)) = 61
       ·rw [if_pos c14] at H
        have c14b0 : ((wrap32 (bt a0 t118)) == 61) = true := beq_iff_eq.mpr c14
        have c14b1 : ((wrap32 (bt a0 t118)) != 61) = false := bne_eq_false_iff_eq.mpr c14
        clear c14
        replace H := Option.bind_eq_some_iff.mp H
        obtain ⟨t120, A150, H⟩ := H
        replace H : (if t120 = true then (some (0, a0.extract 0 (t118 : Int).toNat, a0.extract ((ji9) : Int).toNat a0.size, 0)) else (some (0, (⟨#[]⟩ : ByteArray), (⟨#[]⟩ : ByteArray), 13))) = some (r1, r2, r3, r4) := H
        have A15 := aA A150
        clear A150
        by_cases c16 : t120 = true
        ·subst c16
         have H1 : (some (0, a0.extract 0 (t118 : Int).toNat, a0.extract ((ji9) : Int).toNat a0.size, 0)) = some (r1, r2, r3, r4) := by rw [if_pos rfl] at H; exact H
         clear H
         have H := H1
         clear H1
         simp only [Option.some.injEq, Prod.mk.injEq] at H
         obtain ⟨rfl, rfl, rfl, rfl⟩ := H
         go_enter Tryz.func12, Tryz.ntmps12
         try go_wp2_with (first | ((with_reducible refine gate_dst (N := 2) rfl ?_); refine box_event ?hg (N := 2) ?hd (cs := #[.int .i64 0, .string (⟨#[]⟩ : ByteArray), .string (⟨#[]⟩ : ByteArray)]) (t := 32) ?hr ?_; (case hd => rfl); (case hg => rfl); (case hr => first | (go_simp; done) | (go_simp; rfl)); intro gb117 hg w17 hbox hb; have n0_ := aA (below_step mB hb); have n1_ := aA (hbox); have n2_ := aA ((bZ hg mB)); have n3_ := aA ((bZ hg mB)); clear HB; have HB := n0_; have BK117 := n1_; have GW117 := n2_; have GE117 := n3_; clear n0_ n1_ n2_ n3_ hb hbox hg) | ((with_reducible refine gate_callee (f := 40) rfl ?_); refine goesL_ (some 7) rfl rfl Tryz.func40 (by kernel_rfl) rfl #[.string a0, .string (⟨#[61, 33, 94, 63]⟩ : ByteArray)] rfl mS ?_; (with_reducible refine (strings_IndexAny.calls a0 (⟨#[61, 33, 94, 63]⟩ : ByteArray) t118 _ A2.out).mono ?_); rintro e w18 ⟨rfl, hb⟩; refine ⟨_, rfl, ?_⟩; have n0_ := aA (bB BK117.out hb); have n1_ := aA (below_step (mD1 GE117.out) hb); clear BK117 HB; have BK117 := n0_; have HB := n1_; clear n0_ n1_; (try clear hb); (try clear hb2); (try clear hk); (try clear hi)))
         have n0_ := aA (blk_drew BK117.out)
         have n1_ := aA (below_drew1 HB.out)
         clear BK117
         clear HB
         have BK117 := n0_
         have HB := n1_
         clear n0_ n1_
         refine start_ (n := 10) (S := fun w' => True) (ds := []) (bA 10 0) (by kernel_rfl) rfl rfl trivial (fun hHeld => ?_); refine with_tabW wire_Asked.tab4 wire_Asked.bits4 (fun HT_ HW_ => ?_)
         generalize w18.drew = w19 at BK117 HB hHeld ⊢
         refine pure_ (i := 0) (N := some 11) (v := ?_) (a' := ?_) (bA 10 1) rfl rfl (any_of HT_.out (by kernel_rfl)) (fun _ _ _ h => h) (Or.inl ⟨by rfl, ?_⟩) ?_ ?_
         rotate_left
         ·intro w'
          go_simp
          with_reducible rfl
         rotate_left
         ·exact mP
         refine pure_ (i := 1) (N := some 12) (v := ?_) (a' := ?_) (bA 10 3) rfl rfl (any_of HT_.out (by kernel_rfl)) (fun _ _ _ h => h) (Or.inl ⟨by rfl, ?_⟩) ?_ ?_
         rotate_left
         ·intro w'
          go_simp
          with_reducible rfl
         rotate_left
         ·exact mP
         refine pure_ (i := 2) (N := some 13) (v := ?_) (a' := ?_) (bA 10 7) rfl rfl (any_of HT_.out (by kernel_rfl)) (fun _ _ _ h => h) (Or.inl ⟨by rfl, ?_⟩) ?_ ?_
         rotate_left
         ·intro w'
          go_simp
          with_reducible rfl
         rotate_left
         ·exact mP
         refine pure_ (i := 3) (N := some 14) (v := ?_) (a' := ?_) (bA 10 15) rfl rfl (any_of HT_.out (by kernel_rfl)) (fun _ _ _ h => h) (Or.inl ⟨by rfl, ?_⟩) ?_ ?_
         rotate_left
         ·intro w'
          go_simp
          with_reducible rfl
         rotate_left
         ·exact mP
         refine pure_ (i := 4) (N := some 15) (v := ?_) (a' := ?_) (bA 10 31) rfl rfl (any_of HT_.out (by kernel_rfl)) (fun _ _ _ h => h) (Or.inl ⟨by rfl, ?_⟩) ?_ ?_
         rotate_left
         ·intro w'
          go_simp
          with_reducible rfl
         rotate_left
         ·exact mP
         refine pure_ (i := 5) (N := some 16) (v := ?_) (a' := ?_) (bA 10 63) rfl rfl (any_of HT_.out (by kernel_rfl)) (fun _ _ _ h => h) (Or.inl ⟨by rfl, ?_⟩) ?_ ?_
         rotate_left
         ·intro w'
          go_simp
          with_reducible rfl
         rotate_left
         ·exact mP
         refine pure_ (i := 6) (N := some 17) (v := ?_) (a' := ?_) (bA 10 127) rfl rfl (any_of HT_.out (by kernel_rfl)) (fun _ _ _ h => h) (Or.inl ⟨by rfl, ?_⟩) ?_ ?_
         rotate_left
         ·intro w'
          go_simp
          with_reducible rfl
         rotate_left
         ·exact mP
         refine pure_ (i := 7) (N := some 18) (v := ?_) (a' := ?_) (bA 10 255) rfl rfl (any_of HT_.out (by kernel_rfl)) (fun _ _ _ h => h) (Or.inl ⟨by rfl, ?_⟩) ?_ ?_
         rotate_left
         ·intro w'
          go_simp
          with_reducible rfl
         rotate_left
         ·exact mP
         refine one_ (i := 8) (N := some 5) (bA 10 511) rfl rfl (one_of HT_.out (by kernel_rfl)) (by decide) (fun K hK => ?_)
         refine box_step ?hg (N := 5) ?hd (cs := #[.int .i64 0, .string (⟨#[]⟩ : ByteArray), .string (⟨#[]⟩ : ByteArray)]) (t := 32) ?hr ?_; (case hd => rfl); (case hg => rfl); (case hr => first | (go_simp; done) | (go_simp; rfl))
         intro gb119 hg w20 hbox hb
         have n0_ := aA (bB BK117.out hb)
         have n1_ := aA (below_step (mD1 GE117.out) hb)
         have n2_ := aA (hbox)
         have n3_ := aA ((bZ hg (mD1 GE117.out)))
         have n4_ := aA ((bZ hg (mD1 GE117.out)))
         have n5_ := aA ((bL hg BK117.out))
         have n6_ := aA ((bG hg BK117.out))
         clear BK117
         clear HB
         have BK117 := n0_
         have HB := n1_
         have BK119 := n2_
         have GW119 := n3_
         have GE119 := n4_
         have NB117_119 := n5_
         have NB119_117 := n6_
         clear n0_ n1_ n2_ n3_ n4_ n5_ n6_
         clear hb hbox hg
         refine hK.out _ _ trivial (fun hHeld => ?_)
         clear hK K
         refine norm_ (a' := ?_) ?_ ?_
         rotate_left
         ·show Act.put _ (some 5) _ = _
          simp only [Act.put, List.setIfInBounds_toArray, List.set_cons_zero, List.set_cons_succ, i64_w, i32_w]
          rfl
         refine one_ (i := 9) (N := none) (bA 10 1023) rfl rfl (one_of HT_.out (by kernel_rfl)) (by decide) (fun K hK => ?_)
         have hs21 : w20.cell? ⟨gb119, 0, none⟩ = some (.int .i64 0) := (blk_cell BK119.out 0).trans rfl
         have hfs21 := blk_frozen BK119.out 0
         have hns21_0 := NB117_119.out
         have hms21_0 := NB119_117.out
         have hs22 : w20.cell? ⟨gb119, 1, none⟩ = some (.string (⟨#[]⟩ : ByteArray)) := (blk_cell BK119.out 1).trans rfl
         have hfs22 := blk_frozen BK119.out 1
         have hns22_0 := NB117_119.out
         have hms22_0 := NB119_117.out
         have hs23 : w20.cell? ⟨gb119, 2, none⟩ = some (.string (⟨#[]⟩ : ByteArray)) := (blk_cell BK119.out 2).trans rfl
         have hfs23 := blk_frozen BK119.out 2
         have hns23_0 := NB117_119.out
         have hms23_0 := NB119_117.out
         refine skip_ (w1 := ?_) (by rfl) rfl ?_ ?_
         rotate_left
         ·go_simp
          rfl
         refine hK.out _ _ trivial (fun hHeld => ?_)
         clear hK K
         refine done_ (done_of HT_.out (by kernel_rfl)) ?_
         have p13 : 0 ≤ (t118 : Int) := of_decide_eq_true (by first | (with_reducible assumption) | assumption)
         have q13 : t118 < (a0.size : Int) := of_decide_eq_true (by first | (with_reducible assumption) | assumption)
         have hx13 := bt_at a0 t118
         replace p13 := eq_true p13
         replace q13 := eq_true q13
         have hnb24 := NB119_117.out
         have hnc24 := NB117_119.out
         obtain ⟨hcz25_0, hcz25_1, hcz25_2⟩ := bC3 BK119.out
         obtain ⟨hfz25_0, hfz25_1, hfz25_2⟩ := bF3 BK119.out
         try go_wp2_with (first | ((with_reducible refine gate_callee (f := 41) rfl ?_); refine goesL_ (some 34) rfl rfl Tryz.func41 (by kernel_rfl) rfl #[.agg #[.int .i64 0, .string (a0.extract 0 (t118 : Int).toNat), .string (a0.extract ((ji9) : Int).toNat a0.size)]] rfl (by (try simp only [List.map_toArray, List.map_cons, List.map_nil]); first | done | (simp only [hji9]; rfl) | rfl | (simp only [List.length_drop, List.length_take]; rfl)) ?_; (with_reducible refine (label_Matcher.calls 0 (a0.extract 0 (t118 : Int).toNat) (a0.extract ((ji9) : Int).toNat a0.size) true _ A15.out).mono ?_); rintro e w26 ⟨rfl, hb⟩; refine ⟨_, rfl, ?_⟩; have n0_ := aA (blk_below (g := gb117) (o := .cells #[.int .i64 0, .string (⟨#[]⟩ : ByteArray), .string (⟨#[]⟩ : ByteArray)] 32 (0, 0)) (by (with_reducible repeat (first | refine blk_drewN ?_ _ | refine blk_drew ?_ | refine blk_alloc ?_ _)); refine blk_far ?_ NB117_119.out _; (with_reducible repeat (first | refine blk_drewN ?_ _ | refine blk_drew ?_ | refine blk_alloc ?_ _)); refine blk_far ?_ NB117_119.out _; (with_reducible repeat (first | refine blk_drewN ?_ _ | refine blk_drew ?_ | refine blk_alloc ?_ _)); refine blk_far ?_ NB117_119.out _; (with_reducible repeat (first | refine blk_drewN ?_ _ | refine blk_drew ?_ | refine blk_alloc ?_ _)); refine blk_far ?_ NB117_119.out _; (with_reducible repeat (first | refine blk_drewN ?_ _ | refine blk_drew ?_ | refine blk_alloc ?_ _)); exact BK117.out) hb); have n1_ := aA (blk_below (g := gb119) (o := .cells #[.int .i64 0, .string (a0.extract 0 (t118 : Int).toNat), .string (a0.extract ((ji9) : Int).toNat a0.size)] 32 (0, 0)) (by (with_reducible repeat (first | refine blk_drewN ?_ _ | refine blk_drew ?_ | refine blk_alloc ?_ _)); have h_ := BK119.out; exact pK 0 (pK 2 (pK 1 (pK 0 (h_))))) hb); have n2_ := aA (below_step (mD2 GE117.out GE119.out) hb); clear BK117 BK119 HB; have BK117 := n0_; have BK119 := n1_; have HB := n2_; clear n0_ n1_ n2_; (try clear hb); (try clear hb2); (try clear hk); (try clear hi); obtain ⟨hcz27_0, hcz27_1, hcz27_2⟩ := bC3 BK119.out; obtain ⟨hfz27_0, hfz27_1, hfz27_2⟩ := bF3 BK119.out; obtain ⟨hcz28_0, hcz28_1, hcz28_2⟩ := bC3 BK117.out; obtain ⟨hfz28_0, hfz28_1, hfz28_2⟩ := bF3 BK117.out))
         refine bodyPost_ret (results_ct rfl _ _ gb117 32 #[.int .i64 0, .string (a0.extract 0 (t118 : Int).toNat), .string (a0.extract ((ji9) : Int).toNat a0.size)] (0, 0) _ rfl (by (with_reducible repeat (first | refine blk_drewN ?_ _ | refine blk_drew ?_ | refine blk_alloc ?_ _)); have h_ := BK117.out; exact pK 2 (pK 1 (pK 0 (h_)))) Tryz.underlying32 rfl (by kernel_rfl)) rfl ?_
         exact ⟨by first | rfl | (simp [errW_none, errW_some] <;> rfl) | (simp only [← hji9]; first | rfl | (simp [errW_none, errW_some] <;> rfl)) | (simp [*, errW_none, errW_some] <;> rfl), by repeat (first | (with_reducible first | exact HB.out | apply below_alloc | apply pw_below_drewN | apply below_drew1 | refine below_set ?_ GE117.out | refine below_set ?_ GE119.out) | exact HB.out)⟩
        ·replace c16 := Bool.eq_false_iff.mpr c16
         subst c16
         have H1 : (some (0, (⟨#[]⟩ : ByteArray), (⟨#[]⟩ : ByteArray), 13)) = some (r1, r2, r3, r4) := by rw [if_neg (show ¬ (false = true) by decide)] at H; exact H
         clear H
         have H := H1
         clear H1
         simp only [Option.some.injEq, Prod.mk.injEq] at H
         obtain ⟨rfl, rfl, rfl, rfl⟩ := H
         go_enter Tryz.func12, Tryz.ntmps12
         try go_wp2_with (first | ((with_reducible refine gate_dst (N := 2) rfl ?_); refine box_event ?hg (N := 2) ?hd (cs := #[.int .i64 0, .string (⟨#[]⟩ : ByteArray), .string (⟨#[]⟩ : ByteArray)]) (t := 32) ?hr ?_; (case hd => rfl); (case hg => rfl); (case hr => first | (go_simp; done) | (go_simp; rfl)); intro gb117 hg w29 hbox hb; have n0_ := aA (below_step mB hb); have n1_ := aA (hbox); have n2_ := aA ((bZ hg mB)); have n3_ := aA ((bZ hg mB)); clear HB; have HB := n0_; have BK117 := n1_; have GW117 := n2_; have GE117 := n3_; clear n0_ n1_ n2_ n3_ hb hbox hg) | ((with_reducible refine gate_callee (f := 40) rfl ?_); refine goesL_ (some 7) rfl rfl Tryz.func40 (by kernel_rfl) rfl #[.string a0, .string (⟨#[61, 33, 94, 63]⟩ : ByteArray)] rfl mS ?_; (with_reducible refine (strings_IndexAny.calls a0 (⟨#[61, 33, 94, 63]⟩ : ByteArray) t118 _ A2.out).mono ?_); rintro e w30 ⟨rfl, hb⟩; refine ⟨_, rfl, ?_⟩; have n0_ := aA (bB BK117.out hb); have n1_ := aA (below_step (mD1 GE117.out) hb); clear BK117 HB; have BK117 := n0_; have HB := n1_; clear n0_ n1_; (try clear hb); (try clear hb2); (try clear hk); (try clear hi)))
         have n0_ := aA (blk_drew BK117.out)
         have n1_ := aA (below_drew1 HB.out)
         clear BK117
         clear HB
         have BK117 := n0_
         have HB := n1_
         clear n0_ n1_
         refine start_ (n := 10) (S := fun w' => True) (ds := []) (bA 10 0) (by kernel_rfl) rfl rfl trivial (fun hHeld => ?_); refine with_tabW wire_Asked.tab4 wire_Asked.bits4 (fun HT_ HW_ => ?_)
         generalize w30.drew = w31 at BK117 HB hHeld ⊢
         refine pure_ (i := 0) (N := some 11) (v := ?_) (a' := ?_) (bA 10 1) rfl rfl (any_of HT_.out (by kernel_rfl)) (fun _ _ _ h => h) (Or.inl ⟨by rfl, ?_⟩) ?_ ?_
         rotate_left
         ·intro w'
          go_simp
          with_reducible rfl
         rotate_left
         ·exact mP
         refine pure_ (i := 1) (N := some 12) (v := ?_) (a' := ?_) (bA 10 3) rfl rfl (any_of HT_.out (by kernel_rfl)) (fun _ _ _ h => h) (Or.inl ⟨by rfl, ?_⟩) ?_ ?_
         rotate_left
         ·intro w'
          go_simp
          with_reducible rfl
         rotate_left
         ·exact mP
         refine pure_ (i := 2) (N := some 13) (v := ?_) (a' := ?_) (bA 10 7) rfl rfl (any_of HT_.out (by kernel_rfl)) (fun _ _ _ h => h) (Or.inl ⟨by rfl, ?_⟩) ?_ ?_
         rotate_left
         ·intro w'
          go_simp
          with_reducible rfl
         rotate_left
         ·exact mP
         refine pure_ (i := 3) (N := some 14) (v := ?_) (a' := ?_) (bA 10 15) rfl rfl (any_of HT_.out (by kernel_rfl)) (fun _ _ _ h => h) (Or.inl ⟨by rfl, ?_⟩) ?_ ?_
         rotate_left
         ·intro w'
          go_simp
          with_reducible rfl
         rotate_left
         ·exact mP
         refine pure_ (i := 4) (N := some 15) (v := ?_) (a' := ?_) (bA 10 31) rfl rfl (any_of HT_.out (by kernel_rfl)) (fun _ _ _ h => h) (Or.inl ⟨by rfl, ?_⟩) ?_ ?_
         rotate_left
         ·intro w'
          go_simp
          with_reducible rfl
         rotate_left
         ·exact mP
         refine pure_ (i := 5) (N := some 16) (v := ?_) (a' := ?_) (bA 10 63) rfl rfl (any_of HT_.out (by kernel_rfl)) (fun _ _ _ h => h) (Or.inl ⟨by rfl, ?_⟩) ?_ ?_
         rotate_left
         ·intro w'
          go_simp
          with_reducible rfl
         rotate_left
         ·exact mP
         refine pure_ (i := 6) (N := some 17) (v := ?_) (a' := ?_) (bA 10 127) rfl rfl (any_of HT_.out (by kernel_rfl)) (fun _ _ _ h => h) (Or.inl ⟨by rfl, ?_⟩) ?_ ?_
         rotate_left
         ·intro w'
          go_simp
          with_reducible rfl
         rotate_left
         ·exact mP
         refine pure_ (i := 7) (N := some 18) (v := ?_) (a' := ?_) (bA 10 255) rfl rfl (any_of HT_.out (by kernel_rfl)) (fun _ _ _ h => h) (Or.inl ⟨by rfl, ?_⟩) ?_ ?_
         rotate_left
         ·intro w'
          go_simp
          with_reducible rfl
         rotate_left
         ·exact mP
         refine one_ (i := 8) (N := some 5) (bA 10 511) rfl rfl (one_of HT_.out (by kernel_rfl)) (by decide) (fun K hK => ?_)
         refine box_step ?hg (N := 5) ?hd (cs := #[.int .i64 0, .string (⟨#[]⟩ : ByteArray), .string (⟨#[]⟩ : ByteArray)]) (t := 32) ?hr ?_; (case hd => rfl); (case hg => rfl); (case hr => first | (go_simp; done) | (go_simp; rfl))
         intro gb119 hg w32 hbox hb
         have n0_ := aA (bB BK117.out hb)
         have n1_ := aA (below_step (mD1 GE117.out) hb)
         have n2_ := aA (hbox)
         have n3_ := aA ((bZ hg (mD1 GE117.out)))
         have n4_ := aA ((bZ hg (mD1 GE117.out)))
         have n5_ := aA ((bL hg BK117.out))
         have n6_ := aA ((bG hg BK117.out))
         clear BK117
         clear HB
         have BK117 := n0_
         have HB := n1_
         have BK119 := n2_
         have GW119 := n3_
         have GE119 := n4_
         have NB117_119 := n5_
         have NB119_117 := n6_
         clear n0_ n1_ n2_ n3_ n4_ n5_ n6_
         clear hb hbox hg
         refine hK.out _ _ trivial (fun hHeld => ?_)
         clear hK K
         refine norm_ (a' := ?_) ?_ ?_
         rotate_left
         ·show Act.put _ (some 5) _ = _
          simp only [Act.put, List.setIfInBounds_toArray, List.set_cons_zero, List.set_cons_succ, i64_w, i32_w]
          rfl
         refine one_ (i := 9) (N := none) (bA 10 1023) rfl rfl (one_of HT_.out (by kernel_rfl)) (by decide) (fun K hK => ?_)
         have hs33 : w32.cell? ⟨gb119, 0, none⟩ = some (.int .i64 0) := (blk_cell BK119.out 0).trans rfl
         have hfs33 := blk_frozen BK119.out 0
         have hns33_0 := NB117_119.out
         have hms33_0 := NB119_117.out
         have hs34 : w32.cell? ⟨gb119, 1, none⟩ = some (.string (⟨#[]⟩ : ByteArray)) := (blk_cell BK119.out 1).trans rfl
         have hfs34 := blk_frozen BK119.out 1
         have hns34_0 := NB117_119.out
         have hms34_0 := NB119_117.out
         have hs35 : w32.cell? ⟨gb119, 2, none⟩ = some (.string (⟨#[]⟩ : ByteArray)) := (blk_cell BK119.out 2).trans rfl
         have hfs35 := blk_frozen BK119.out 2
         have hns35_0 := NB117_119.out
         have hms35_0 := NB119_117.out
         refine skip_ (w1 := ?_) (by rfl) rfl ?_ ?_
         rotate_left
         ·go_simp
          rfl
         refine hK.out _ _ trivial (fun hHeld => ?_)
         clear hK K
         refine done_ (done_of HT_.out (by kernel_rfl)) ?_
         have p13 : 0 ≤ (t118 : Int) := of_decide_eq_true (by first | (with_reducible assumption) | assumption)
         have q13 : t118 < (a0.size : Int) := of_decide_eq_true (by first | (with_reducible assumption) | assumption)
         have hx13 := bt_at a0 t118
         replace p13 := eq_true p13
         replace q13 := eq_true q13
         have hnb36 := NB119_117.out
         have hnc36 := NB117_119.out
         obtain ⟨hcz37_0, hcz37_1, hcz37_2⟩ := bC3 BK119.out
         obtain ⟨hfz37_0, hfz37_1, hfz37_2⟩ := bF3 BK119.out
         try go_wp2_with (first | ((with_reducible refine gate_callee (f := 41) rfl ?_); refine goesL_ (some 34) rfl rfl Tryz.func41 (by kernel_rfl) rfl #[.agg #[.int .i64 0, .string (a0.extract 0 (t118 : Int).toNat), .string (a0.extract ((ji9) : Int).toNat a0.size)]] rfl (by (try simp only [List.map_toArray, List.map_cons, List.map_nil]); first | done | (simp only [hji9]; rfl) | rfl | (simp only [List.length_drop, List.length_take]; rfl)) ?_; (with_reducible refine (label_Matcher.calls 0 (a0.extract 0 (t118 : Int).toNat) (a0.extract ((ji9) : Int).toNat a0.size) false _ A15.out).mono ?_); rintro e w38 ⟨rfl, hb⟩; refine ⟨_, rfl, ?_⟩; have n0_ := aA (blk_below (g := gb117) (o := .cells #[.int .i64 0, .string (⟨#[]⟩ : ByteArray), .string (⟨#[]⟩ : ByteArray)] 32 (0, 0)) (by (with_reducible repeat (first | refine blk_drewN ?_ _ | refine blk_drew ?_ | refine blk_alloc ?_ _)); refine blk_far ?_ NB117_119.out _; (with_reducible repeat (first | refine blk_drewN ?_ _ | refine blk_drew ?_ | refine blk_alloc ?_ _)); refine blk_far ?_ NB117_119.out _; (with_reducible repeat (first | refine blk_drewN ?_ _ | refine blk_drew ?_ | refine blk_alloc ?_ _)); refine blk_far ?_ NB117_119.out _; (with_reducible repeat (first | refine blk_drewN ?_ _ | refine blk_drew ?_ | refine blk_alloc ?_ _)); refine blk_far ?_ NB117_119.out _; (with_reducible repeat (first | refine blk_drewN ?_ _ | refine blk_drew ?_ | refine blk_alloc ?_ _)); exact BK117.out) hb); have n1_ := aA (blk_below (g := gb119) (o := .cells #[.int .i64 0, .string (a0.extract 0 (t118 : Int).toNat), .string (a0.extract ((ji9) : Int).toNat a0.size)] 32 (0, 0)) (by (with_reducible repeat (first | refine blk_drewN ?_ _ | refine blk_drew ?_ | refine blk_alloc ?_ _)); have h_ := BK119.out; exact pK 0 (pK 2 (pK 1 (pK 0 (h_))))) hb); have n2_ := aA (below_step (mD2 GE117.out GE119.out) hb); clear BK117 BK119 HB; have BK117 := n0_; have BK119 := n1_; have HB := n2_; clear n0_ n1_ n2_; (try clear hb); (try clear hb2); (try clear hk); (try clear hi); obtain ⟨hcz39_0, hcz39_1, hcz39_2⟩ := bC3 BK117.out; obtain ⟨hfz39_0, hfz39_1, hfz39_2⟩ := bF3 BK117.out))
         refine bodyPost_ret (results_ct rfl _ _ gb117 32 #[.int .i64 0, .string (⟨#[]⟩ : ByteArray), .string (⟨#[]⟩ : ByteArray)] (0, 0) _ rfl (by (with_reducible repeat (first | refine blk_drewN ?_ _ | refine blk_drew ?_ | refine blk_alloc ?_ _)); have h_ := BK117.out; exact pK 2 (pK 1 (pK 0 (h_)))) Tryz.underlying32 rfl (by kernel_rfl)) rfl ?_
         exact ⟨by first | rfl | (simp [errW_none, errW_some] <;> rfl) | (simp only [← hji9]; first | rfl | (simp [errW_none, errW_some] <;> rfl)) | (simp [*, errW_none, errW_some] <;> rfl), by repeat (first | (with_reducible first | exact HB.out | apply below_alloc | apply pw_below_drewN | apply below_drew1 | refine below_set ?_ GE117.out | refine below_set ?_ GE119.out) | exact HB.out)⟩
       ·rw [if_neg c14] at H
        have c14b0 : ((wrap32 (bt a0 t118)) == 61) = false := beq_eq_false_iff_ne.mpr c14
        have c14b1 : ((wrap32 (bt a0 t118)) != 61) = true := bne_iff_ne.mpr c14
        by_cases c40 : (wrap32 (bt a0 t118)) = 33
        ·rw [if_pos c40] at H
         have c40b0 : ((wrap32 (bt a0 t118)) == 33) = true := beq_iff_eq.mpr c40
         have c40b1 : ((wrap32 (bt a0 t118)) != 33) = false := bne_eq_false_iff_eq.mpr c40
         clear c40
         replace H := Option.bind_eq_some_iff.mp H
         obtain ⟨t121, A410, H⟩ := H
         replace H : (if t121 = true then (some (1, a0.extract 0 (t118 : Int).toNat, a0.extract ((ji9) : Int).toNat a0.size, 0)) else (some (0, (⟨#[]⟩ : ByteArray), (⟨#[]⟩ : ByteArray), 13))) = some (r1, r2, r3, r4) := H
         have A41 := aA A410
         clear A410
         by_cases c42 : t121 = true
         ·subst c42
          have H1 : (some (1, a0.extract 0 (t118 : Int).toNat, a0.extract ((ji9) : Int).toNat a0.size, 0)) = some (r1, r2, r3, r4) := by rw [if_pos rfl] at H; exact H
          clear H
          have H := H1
          clear H1
          simp only [Option.some.injEq, Prod.mk.injEq] at H
          obtain ⟨rfl, rfl, rfl, rfl⟩ := H
          go_enter Tryz.func12, Tryz.ntmps12
          try go_wp2_with (first | ((with_reducible refine gate_dst (N := 2) rfl ?_); refine box_event ?hg (N := 2) ?hd (cs := #[.int .i64 0, .string (⟨#[]⟩ : ByteArray), .string (⟨#[]⟩ : ByteArray)]) (t := 32) ?hr ?_; (case hd => rfl); (case hg => rfl); (case hr => first | (go_simp; done) | (go_simp; rfl)); intro gb117 hg w43 hbox hb; have n0_ := aA (below_step mB hb); have n1_ := aA (hbox); have n2_ := aA ((bZ hg mB)); have n3_ := aA ((bZ hg mB)); clear HB; have HB := n0_; have BK117 := n1_; have GW117 := n2_; have GE117 := n3_; clear n0_ n1_ n2_ n3_ hb hbox hg) | ((with_reducible refine gate_callee (f := 40) rfl ?_); refine goesL_ (some 7) rfl rfl Tryz.func40 (by kernel_rfl) rfl #[.string a0, .string (⟨#[61, 33, 94, 63]⟩ : ByteArray)] rfl mS ?_; (with_reducible refine (strings_IndexAny.calls a0 (⟨#[61, 33, 94, 63]⟩ : ByteArray) t118 _ A2.out).mono ?_); rintro e w44 ⟨rfl, hb⟩; refine ⟨_, rfl, ?_⟩; have n0_ := aA (bB BK117.out hb); have n1_ := aA (below_step (mD1 GE117.out) hb); clear BK117 HB; have BK117 := n0_; have HB := n1_; clear n0_ n1_; (try clear hb); (try clear hb2); (try clear hk); (try clear hi)))
          have n0_ := aA (blk_drew BK117.out)
          have n1_ := aA (below_drew1 HB.out)
          clear BK117
          clear HB
          have BK117 := n0_
          have HB := n1_
          clear n0_ n1_
          refine start_ (n := 10) (S := fun w' => True) (ds := []) (bA 10 0) (by kernel_rfl) rfl rfl trivial (fun hHeld => ?_); refine with_tabW wire_Asked.tab4 wire_Asked.bits4 (fun HT_ HW_ => ?_)
          generalize w44.drew = w45 at BK117 HB hHeld ⊢
          refine pure_ (i := 0) (N := some 11) (v := ?_) (a' := ?_) (bA 10 1) rfl rfl (any_of HT_.out (by kernel_rfl)) (fun _ _ _ h => h) (Or.inl ⟨by rfl, ?_⟩) ?_ ?_
          rotate_left
          ·intro w'
           go_simp
           with_reducible rfl
          rotate_left
          ·exact mP
          refine pure_ (i := 1) (N := some 12) (v := ?_) (a' := ?_) (bA 10 3) rfl rfl (any_of HT_.out (by kernel_rfl)) (fun _ _ _ h => h) (Or.inl ⟨by rfl, ?_⟩) ?_ ?_
          rotate_left
          ·intro w'
           go_simp
           with_reducible rfl
          rotate_left
          ·exact mP
          refine pure_ (i := 2) (N := some 13) (v := ?_) (a' := ?_) (bA 10 7) rfl rfl (any_of HT_.out (by kernel_rfl)) (fun _ _ _ h => h) (Or.inl ⟨by rfl, ?_⟩) ?_ ?_
          rotate_left
          ·intro w'
           go_simp
           with_reducible rfl
          rotate_left
          ·exact mP
          refine pure_ (i := 3) (N := some 14) (v := ?_) (a' := ?_) (bA 10 15) rfl rfl (any_of HT_.out (by kernel_rfl)) (fun _ _ _ h => h) (Or.inl ⟨by rfl, ?_⟩) ?_ ?_
          rotate_left
          ·intro w'
           go_simp
           with_reducible rfl
          rotate_left
          ·exact mP
          refine pure_ (i := 4) (N := some 15) (v := ?_) (a' := ?_) (bA 10 31) rfl rfl (any_of HT_.out (by kernel_rfl)) (fun _ _ _ h => h) (Or.inl ⟨by rfl, ?_⟩) ?_ ?_
          rotate_left
          ·intro w'
           go_simp
           with_reducible rfl
          rotate_left
          ·exact mP
          refine pure_ (i := 5) (N := some 16) (v := ?_) (a' := ?_) (bA 10 63) rfl rfl (any_of HT_.out (by kernel_rfl)) (fun _ _ _ h => h) (Or.inl ⟨by rfl, ?_⟩) ?_ ?_
          rotate_left
          ·intro w'
           go_simp
           with_reducible rfl
          rotate_left
          ·exact mP
          refine pure_ (i := 6) (N := some 17) (v := ?_) (a' := ?_) (bA 10 127) rfl rfl (any_of HT_.out (by kernel_rfl)) (fun _ _ _ h => h) (Or.inl ⟨by rfl, ?_⟩) ?_ ?_
          rotate_left
          ·intro w'
           go_simp
           with_reducible rfl
          rotate_left
          ·exact mP
          refine pure_ (i := 7) (N := some 18) (v := ?_) (a' := ?_) (bA 10 255) rfl rfl (any_of HT_.out (by kernel_rfl)) (fun _ _ _ h => h) (Or.inl ⟨by rfl, ?_⟩) ?_ ?_
          rotate_left
          ·intro w'
           go_simp
           with_reducible rfl
          rotate_left
          ·exact mP
          refine one_ (i := 8) (N := some 5) (bA 10 511) rfl rfl (one_of HT_.out (by kernel_rfl)) (by decide) (fun K hK => ?_)
          refine box_step ?hg (N := 5) ?hd (cs := #[.int .i64 0, .string (⟨#[]⟩ : ByteArray), .string (⟨#[]⟩ : ByteArray)]) (t := 32) ?hr ?_; (case hd => rfl); (case hg => rfl); (case hr => first | (go_simp; done) | (go_simp; rfl))
          intro gb119 hg w46 hbox hb
          have n0_ := aA (bB BK117.out hb)
          have n1_ := aA (below_step (mD1 GE117.out) hb)
          have n2_ := aA (hbox)
          have n3_ := aA ((bZ hg (mD1 GE117.out)))
          have n4_ := aA ((bZ hg (mD1 GE117.out)))
          have n5_ := aA ((bL hg BK117.out))
          have n6_ := aA ((bG hg BK117.out))
          clear BK117
          clear HB
          have BK117 := n0_
          have HB := n1_
          have BK119 := n2_
          have GW119 := n3_
          have GE119 := n4_
          have NB117_119 := n5_
          have NB119_117 := n6_
          clear n0_ n1_ n2_ n3_ n4_ n5_ n6_
          clear hb hbox hg
          refine hK.out _ _ trivial (fun hHeld => ?_)
          clear hK K
          refine norm_ (a' := ?_) ?_ ?_
          rotate_left
          ·show Act.put _ (some 5) _ = _
           simp only [Act.put, List.setIfInBounds_toArray, List.set_cons_zero, List.set_cons_succ, i64_w, i32_w]
           rfl
          refine one_ (i := 9) (N := none) (bA 10 1023) rfl rfl (one_of HT_.out (by kernel_rfl)) (by decide) (fun K hK => ?_)
          have hs47 : w46.cell? ⟨gb119, 0, none⟩ = some (.int .i64 0) := (blk_cell BK119.out 0).trans rfl
          have hfs47 := blk_frozen BK119.out 0
          have hns47_0 := NB117_119.out
          have hms47_0 := NB119_117.out
          have hs48 : w46.cell? ⟨gb119, 1, none⟩ = some (.string (⟨#[]⟩ : ByteArray)) := (blk_cell BK119.out 1).trans rfl
          have hfs48 := blk_frozen BK119.out 1
          have hns48_0 := NB117_119.out
          have hms48_0 := NB119_117.out
          have hs49 : w46.cell? ⟨gb119, 2, none⟩ = some (.string (⟨#[]⟩ : ByteArray)) := (blk_cell BK119.out 2).trans rfl
          have hfs49 := blk_frozen BK119.out 2
          have hns49_0 := NB117_119.out
          have hms49_0 := NB119_117.out
          refine skip_ (w1 := ?_) (by rfl) rfl ?_ ?_
          rotate_left
          ·go_simp
           rfl
          refine hK.out _ _ trivial (fun hHeld => ?_)
          clear hK K
          refine done_ (done_of HT_.out (by kernel_rfl)) ?_
          have p13 : 0 ≤ (t118 : Int) := of_decide_eq_true (by first | (with_reducible assumption) | assumption)
          have q13 : t118 < (a0.size : Int) := of_decide_eq_true (by first | (with_reducible assumption) | assumption)
          have hx13 := bt_at a0 t118
          replace p13 := eq_true p13
          replace q13 := eq_true q13
          have hnb50 := NB119_117.out
          have hnc50 := NB117_119.out
          obtain ⟨hcz51_0, hcz51_1, hcz51_2⟩ := bC3 BK119.out
          obtain ⟨hfz51_0, hfz51_1, hfz51_2⟩ := bF3 BK119.out
          try go_wp2_with (first | ((with_reducible refine gate_callee (f := 41) rfl ?_); refine goesL_ (some 34) rfl rfl Tryz.func41 (by kernel_rfl) rfl #[.agg #[.int .i64 1, .string (a0.extract 0 (t118 : Int).toNat), .string (a0.extract ((ji9) : Int).toNat a0.size)]] rfl (by (try simp only [List.map_toArray, List.map_cons, List.map_nil]); first | done | (simp only [hji9]; rfl) | rfl | (simp only [List.length_drop, List.length_take]; rfl)) ?_; (with_reducible refine (label_Matcher.calls 1 (a0.extract 0 (t118 : Int).toNat) (a0.extract ((ji9) : Int).toNat a0.size) true _ A41.out).mono ?_); rintro e w52 ⟨rfl, hb⟩; refine ⟨_, rfl, ?_⟩; have n0_ := aA (blk_below (g := gb117) (o := .cells #[.int .i64 0, .string (⟨#[]⟩ : ByteArray), .string (⟨#[]⟩ : ByteArray)] 32 (0, 0)) (by (with_reducible repeat (first | refine blk_drewN ?_ _ | refine blk_drew ?_ | refine blk_alloc ?_ _)); refine blk_far ?_ NB117_119.out _; (with_reducible repeat (first | refine blk_drewN ?_ _ | refine blk_drew ?_ | refine blk_alloc ?_ _)); refine blk_far ?_ NB117_119.out _; (with_reducible repeat (first | refine blk_drewN ?_ _ | refine blk_drew ?_ | refine blk_alloc ?_ _)); refine blk_far ?_ NB117_119.out _; (with_reducible repeat (first | refine blk_drewN ?_ _ | refine blk_drew ?_ | refine blk_alloc ?_ _)); refine blk_far ?_ NB117_119.out _; (with_reducible repeat (first | refine blk_drewN ?_ _ | refine blk_drew ?_ | refine blk_alloc ?_ _)); exact BK117.out) hb); have n1_ := aA (blk_below (g := gb119) (o := .cells #[.int .i64 1, .string (a0.extract 0 (t118 : Int).toNat), .string (a0.extract ((ji9) : Int).toNat a0.size)] 32 (0, 0)) (by (with_reducible repeat (first | refine blk_drewN ?_ _ | refine blk_drew ?_ | refine blk_alloc ?_ _)); have h_ := BK119.out; exact pK 0 (pK 2 (pK 1 (pK 0 (h_))))) hb); have n2_ := aA (below_step (mD2 GE117.out GE119.out) hb); clear BK117 BK119 HB; have BK117 := n0_; have BK119 := n1_; have HB := n2_; clear n0_ n1_ n2_; (try clear hb); (try clear hb2); (try clear hk); (try clear hi); obtain ⟨hcz53_0, hcz53_1, hcz53_2⟩ := bC3 BK119.out; obtain ⟨hfz53_0, hfz53_1, hfz53_2⟩ := bF3 BK119.out; obtain ⟨hcz54_0, hcz54_1, hcz54_2⟩ := bC3 BK117.out; obtain ⟨hfz54_0, hfz54_1, hfz54_2⟩ := bF3 BK117.out))
          refine bodyPost_ret (results_ct rfl _ _ gb117 32 #[.int .i64 1, .string (a0.extract 0 (t118 : Int).toNat), .string (a0.extract ((ji9) : Int).toNat a0.size)] (0, 0) _ rfl (by (with_reducible repeat (first | refine blk_drewN ?_ _ | refine blk_drew ?_ | refine blk_alloc ?_ _)); have h_ := BK117.out; exact pK 2 (pK 1 (pK 0 (h_)))) Tryz.underlying32 rfl (by kernel_rfl)) rfl ?_
          exact ⟨by first | rfl | (simp [errW_none, errW_some] <;> rfl) | (simp only [← hji9]; first | rfl | (simp [errW_none, errW_some] <;> rfl)) | (simp [*, errW_none, errW_some] <;> rfl), by repeat (first | (with_reducible first | exact HB.out | apply below_alloc | apply pw_below_drewN | apply below_drew1 | refine below_set ?_ GE117.out | refine below_set ?_ GE119.out) | exact HB.out)⟩
         ·replace c42 := Bool.eq_false_iff.mpr c42
          subst c42
          have H1 : (some (0, (⟨#[]⟩ : ByteArray), (⟨#[]⟩ : ByteArray), 13)) = some (r1, r2, r3, r4) := by rw [if_neg (show ¬ (false = true) by decide)] at H; exact H
          clear H
          have H := H1
          clear H1
          simp only [Option.some.injEq, Prod.mk.injEq] at H
          obtain ⟨rfl, rfl, rfl, rfl⟩ := H
          go_enter Tryz.func12, Tryz.ntmps12
          try go_wp2_with (first | ((with_reducible refine gate_dst (N := 2) rfl ?_); refine box_event ?hg (N := 2) ?hd (cs := #[.int .i64 0, .string (⟨#[]⟩ : ByteArray), .string (⟨#[]⟩ : ByteArray)]) (t := 32) ?hr ?_; (case hd => rfl); (case hg => rfl); (case hr => first | (go_simp; done) | (go_simp; rfl)); intro gb117 hg w55 hbox hb; have n0_ := aA (below_step mB hb); have n1_ := aA (hbox); have n2_ := aA ((bZ hg mB)); have n3_ := aA ((bZ hg mB)); clear HB; have HB := n0_; have BK117 := n1_; have GW117 := n2_; have GE117 := n3_; clear n0_ n1_ n2_ n3_ hb hbox hg) | ((with_reducible refine gate_callee (f := 40) rfl ?_); refine goesL_ (some 7) rfl rfl Tryz.func40 (by kernel_rfl) rfl #[.string a0, .string (⟨#[61, 33, 94, 63]⟩ : ByteArray)] rfl mS ?_; (with_reducible refine (strings_IndexAny.calls a0 (⟨#[61, 33, 94, 63]⟩ : ByteArray) t118 _ A2.out).mono ?_); rintro e w56 ⟨rfl, hb⟩; refine ⟨_, rfl, ?_⟩; have n0_ := aA (bB BK117.out hb); have n1_ := aA (below_step (mD1 GE117.out) hb); clear BK117 HB; have BK117 := n0_; have HB := n1_; clear n0_ n1_; (try clear hb); (try clear hb2); (try clear hk); (try clear hi)))
          have n0_ := aA (blk_drew BK117.out)
          have n1_ := aA (below_drew1 HB.out)
          clear BK117
          clear HB
          have BK117 := n0_
          have HB := n1_
          clear n0_ n1_
          refine start_ (n := 10) (S := fun w' => True) (ds := []) (bA 10 0) (by kernel_rfl) rfl rfl trivial (fun hHeld => ?_); refine with_tabW wire_Asked.tab4 wire_Asked.bits4 (fun HT_ HW_ => ?_)
          generalize w56.drew = w57 at BK117 HB hHeld ⊢
          refine pure_ (i := 0) (N := some 11) (v := ?_) (a' := ?_) (bA 10 1) rfl rfl (any_of HT_.out (by kernel_rfl)) (fun _ _ _ h => h) (Or.inl ⟨by rfl, ?_⟩) ?_ ?_
          rotate_left
          ·intro w'
           go_simp
           with_reducible rfl
          rotate_left
          ·exact mP
          refine pure_ (i := 1) (N := some 12) (v := ?_) (a' := ?_) (bA 10 3) rfl rfl (any_of HT_.out (by kernel_rfl)) (fun _ _ _ h => h) (Or.inl ⟨by rfl, ?_⟩) ?_ ?_
          rotate_left
          ·intro w'
           go_simp
           with_reducible rfl
          rotate_left
          ·exact mP
          refine pure_ (i := 2) (N := some 13) (v := ?_) (a' := ?_) (bA 10 7) rfl rfl (any_of HT_.out (by kernel_rfl)) (fun _ _ _ h => h) (Or.inl ⟨by rfl, ?_⟩) ?_ ?_
          rotate_left
          ·intro w'
           go_simp
           with_reducible rfl
          rotate_left
          ·exact mP
          refine pure_ (i := 3) (N := some 14) (v := ?_) (a' := ?_) (bA 10 15) rfl rfl (any_of HT_.out (by kernel_rfl)) (fun _ _ _ h => h) (Or.inl ⟨by rfl, ?_⟩) ?_ ?_
          rotate_left
          ·intro w'
           go_simp
           with_reducible rfl
          rotate_left
          ·exact mP
          refine pure_ (i := 4) (N := some 15) (v := ?_) (a' := ?_) (bA 10 31) rfl rfl (any_of HT_.out (by kernel_rfl)) (fun _ _ _ h => h) (Or.inl ⟨by rfl, ?_⟩) ?_ ?_
          rotate_left
          ·intro w'
           go_simp
           with_reducible rfl
          rotate_left
          ·exact mP
          refine pure_ (i := 5) (N := some 16) (v := ?_) (a' := ?_) (bA 10 63) rfl rfl (any_of HT_.out (by kernel_rfl)) (fun _ _ _ h => h) (Or.inl ⟨by rfl, ?_⟩) ?_ ?_
          rotate_left
          ·intro w'
           go_simp
           with_reducible rfl
          rotate_left
          ·exact mP
          refine pure_ (i := 6) (N := some 17) (v := ?_) (a' := ?_) (bA 10 127) rfl rfl (any_of HT_.out (by kernel_rfl)) (fun _ _ _ h => h) (Or.inl ⟨by rfl, ?_⟩) ?_ ?_
          rotate_left
          ·intro w'
           go_simp
           with_reducible rfl
          rotate_left
          ·exact mP
          refine pure_ (i := 7) (N := some 18) (v := ?_) (a' := ?_) (bA 10 255) rfl rfl (any_of HT_.out (by kernel_rfl)) (fun _ _ _ h => h) (Or.inl ⟨by rfl, ?_⟩) ?_ ?_
          rotate_left
          ·intro w'
           go_simp
           with_reducible rfl
          rotate_left
          ·exact mP
          refine one_ (i := 8) (N := some 5) (bA 10 511) rfl rfl (one_of HT_.out (by kernel_rfl)) (by decide) (fun K hK => ?_)
          refine box_step ?hg (N := 5) ?hd (cs := #[.int .i64 0, .string (⟨#[]⟩ : ByteArray), .string (⟨#[]⟩ : ByteArray)]) (t := 32) ?hr ?_; (case hd => rfl); (case hg => rfl); (case hr => first | (go_simp; done) | (go_simp; rfl))
          intro gb119 hg w58 hbox hb
          have n0_ := aA (bB BK117.out hb)
          have n1_ := aA (below_step (mD1 GE117.out) hb)
          have n2_ := aA (hbox)
          have n3_ := aA ((bZ hg (mD1 GE117.out)))
          have n4_ := aA ((bZ hg (mD1 GE117.out)))
          have n5_ := aA ((bL hg BK117.out))
          have n6_ := aA ((bG hg BK117.out))
          clear BK117
          clear HB
          have BK117 := n0_
          have HB := n1_
          have BK119 := n2_
          have GW119 := n3_
          have GE119 := n4_
          have NB117_119 := n5_
          have NB119_117 := n6_
          clear n0_ n1_ n2_ n3_ n4_ n5_ n6_
          clear hb hbox hg
          refine hK.out _ _ trivial (fun hHeld => ?_)
          clear hK K
          refine norm_ (a' := ?_) ?_ ?_
          rotate_left
          ·show Act.put _ (some 5) _ = _
           simp only [Act.put, List.setIfInBounds_toArray, List.set_cons_zero, List.set_cons_succ, i64_w, i32_w]
           rfl
          refine one_ (i := 9) (N := none) (bA 10 1023) rfl rfl (one_of HT_.out (by kernel_rfl)) (by decide) (fun K hK => ?_)
          have hs59 : w58.cell? ⟨gb119, 0, none⟩ = some (.int .i64 0) := (blk_cell BK119.out 0).trans rfl
          have hfs59 := blk_frozen BK119.out 0
          have hns59_0 := NB117_119.out
          have hms59_0 := NB119_117.out
          have hs60 : w58.cell? ⟨gb119, 1, none⟩ = some (.string (⟨#[]⟩ : ByteArray)) := (blk_cell BK119.out 1).trans rfl
          have hfs60 := blk_frozen BK119.out 1
          have hns60_0 := NB117_119.out
          have hms60_0 := NB119_117.out
          have hs61 : w58.cell? ⟨gb119, 2, none⟩ = some (.string (⟨#[]⟩ : ByteArray)) := (blk_cell BK119.out 2).trans rfl
          have hfs61 := blk_frozen BK119.out 2
          have hns61_0 := NB117_119.out
          have hms61_0 := NB119_117.out
          refine skip_ (w1 := ?_) (by rfl) rfl ?_ ?_
          rotate_left
          ·go_simp
           rfl
          refine hK.out _ _ trivial (fun hHeld => ?_)
          clear hK K
          refine done_ (done_of HT_.out (by kernel_rfl)) ?_
          have p13 : 0 ≤ (t118 : Int) := of_decide_eq_true (by first | (with_reducible assumption) | assumption)
          have q13 : t118 < (a0.size : Int) := of_decide_eq_true (by first | (with_reducible assumption) | assumption)
          have hx13 := bt_at a0 t118
          replace p13 := eq_true p13
          replace q13 := eq_true q13
          have hnb62 := NB119_117.out
          have hnc62 := NB117_119.out
          obtain ⟨hcz63_0, hcz63_1, hcz63_2⟩ := bC3 BK119.out
          obtain ⟨hfz63_0, hfz63_1, hfz63_2⟩ := bF3 BK119.out
          try go_wp2_with (first | ((with_reducible refine gate_callee (f := 41) rfl ?_); refine goesL_ (some 34) rfl rfl Tryz.func41 (by kernel_rfl) rfl #[.agg #[.int .i64 1, .string (a0.extract 0 (t118 : Int).toNat), .string (a0.extract ((ji9) : Int).toNat a0.size)]] rfl (by (try simp only [List.map_toArray, List.map_cons, List.map_nil]); first | done | (simp only [hji9]; rfl) | rfl | (simp only [List.length_drop, List.length_take]; rfl)) ?_; (with_reducible refine (label_Matcher.calls 1 (a0.extract 0 (t118 : Int).toNat) (a0.extract ((ji9) : Int).toNat a0.size) false _ A41.out).mono ?_); rintro e w64 ⟨rfl, hb⟩; refine ⟨_, rfl, ?_⟩; have n0_ := aA (blk_below (g := gb117) (o := .cells #[.int .i64 0, .string (⟨#[]⟩ : ByteArray), .string (⟨#[]⟩ : ByteArray)] 32 (0, 0)) (by (with_reducible repeat (first | refine blk_drewN ?_ _ | refine blk_drew ?_ | refine blk_alloc ?_ _)); refine blk_far ?_ NB117_119.out _; (with_reducible repeat (first | refine blk_drewN ?_ _ | refine blk_drew ?_ | refine blk_alloc ?_ _)); refine blk_far ?_ NB117_119.out _; (with_reducible repeat (first | refine blk_drewN ?_ _ | refine blk_drew ?_ | refine blk_alloc ?_ _)); refine blk_far ?_ NB117_119.out _; (with_reducible repeat (first | refine blk_drewN ?_ _ | refine blk_drew ?_ | refine blk_alloc ?_ _)); refine blk_far ?_ NB117_119.out _; (with_reducible repeat (first | refine blk_drewN ?_ _ | refine blk_drew ?_ | refine blk_alloc ?_ _)); exact BK117.out) hb); have n1_ := aA (blk_below (g := gb119) (o := .cells #[.int .i64 1, .string (a0.extract 0 (t118 : Int).toNat), .string (a0.extract ((ji9) : Int).toNat a0.size)] 32 (0, 0)) (by (with_reducible repeat (first | refine blk_drewN ?_ _ | refine blk_drew ?_ | refine blk_alloc ?_ _)); have h_ := BK119.out; exact pK 0 (pK 2 (pK 1 (pK 0 (h_))))) hb); have n2_ := aA (below_step (mD2 GE117.out GE119.out) hb); clear BK117 BK119 HB; have BK117 := n0_; have BK119 := n1_; have HB := n2_; clear n0_ n1_ n2_; (try clear hb); (try clear hb2); (try clear hk); (try clear hi); obtain ⟨hcz65_0, hcz65_1, hcz65_2⟩ := bC3 BK117.out; obtain ⟨hfz65_0, hfz65_1, hfz65_2⟩ := bF3 BK117.out))
          refine bodyPost_ret (results_ct rfl _ _ gb117 32 #[.int .i64 0, .string (⟨#[]⟩ : ByteArray), .string (⟨#[]⟩ : ByteArray)] (0, 0) _ rfl (by (with_reducible repeat (first | refine blk_drewN ?_ _ | refine blk_drew ?_ | refine blk_alloc ?_ _)); have h_ := BK117.out; exact pK 2 (pK 1 (pK 0 (h_)))) Tryz.underlying32 rfl (by kernel_rfl)) rfl ?_
          exact ⟨by first | rfl | (simp [errW_none, errW_some] <;> rfl) | (simp only [← hji9]; first | rfl | (simp [errW_none, errW_some] <;> rfl)) | (simp [*, errW_none, errW_some] <;> rfl), by repeat (first | (with_reducible first | exact HB.out | apply below_alloc | apply pw_below_drewN | apply below_drew1 | refine below_set ?_ GE117.out | refine below_set ?_ GE119.out) | exact HB.out)⟩
        ·rw [if_neg c40] at H
         have c40b0 : ((wrap32 (bt a0 t118)) == 33) = false := beq_eq_false_iff_ne.mpr c40
         have c40b1 : ((wrap32 (bt a0 t118)) != 33) = true := bne_iff_ne.mpr c40
         by_cases c66 : (wrap32 (bt a0 t118)) = 94
         ·rw [if_pos c66] at H
          have c66b0 : ((wrap32 (bt a0 t118)) == 94) = true := beq_iff_eq.mpr c66
          have c66b1 : ((wrap32 (bt a0 t118)) != 94) = false := bne_eq_false_iff_eq.mpr c66
          clear c66
          replace H := Option.bind_eq_some_iff.mp H
          obtain ⟨t122, A670, H⟩ := H
          replace H : (if t122 = true then (some (2, a0.extract 0 (t118 : Int).toNat, a0.extract ((ji9) : Int).toNat a0.size, 0)) else (some (0, (⟨#[]⟩ : ByteArray), (⟨#[]⟩ : ByteArray), 13))) = some (r1, r2, r3, r4) := H
          have A67 := aA A670
          clear A670
          by_cases c68 : t122 = true
          ·subst c68
           have H1 : (some (2, a0.extract 0 (t118 : Int).toNat, a0.extract ((ji9) : Int).toNat a0.size, 0)) = some (r1, r2, r3, r4) := by rw [if_pos rfl] at H; exact H
           clear H
           have H := H1
           clear H1
           simp only [Option.some.injEq, Prod.mk.injEq] at H
           obtain ⟨rfl, rfl, rfl, rfl⟩ := H
           go_enter Tryz.func12, Tryz.ntmps12
           try go_wp2_with (first | ((with_reducible refine gate_dst (N := 2) rfl ?_); refine box_event ?hg (N := 2) ?hd (cs := #[.int .i64 0, .string (⟨#[]⟩ : ByteArray), .string (⟨#[]⟩ : ByteArray)]) (t := 32) ?hr ?_; (case hd => rfl); (case hg => rfl); (case hr => first | (go_simp; done) | (go_simp; rfl)); intro gb117 hg w69 hbox hb; have n0_ := aA (below_step mB hb); have n1_ := aA (hbox); have n2_ := aA ((bZ hg mB)); have n3_ := aA ((bZ hg mB)); clear HB; have HB := n0_; have BK117 := n1_; have GW117 := n2_; have GE117 := n3_; clear n0_ n1_ n2_ n3_ hb hbox hg) | ((with_reducible refine gate_callee (f := 40) rfl ?_); refine goesL_ (some 7) rfl rfl Tryz.func40 (by kernel_rfl) rfl #[.string a0, .string (⟨#[61, 33, 94, 63]⟩ : ByteArray)] rfl mS ?_; (with_reducible refine (strings_IndexAny.calls a0 (⟨#[61, 33, 94, 63]⟩ : ByteArray) t118 _ A2.out).mono ?_); rintro e w70 ⟨rfl, hb⟩; refine ⟨_, rfl, ?_⟩; have n0_ := aA (bB BK117.out hb); have n1_ := aA (below_step (mD1 GE117.out) hb); clear BK117 HB; have BK117 := n0_; have HB := n1_; clear n0_ n1_; (try clear hb); (try clear hb2); (try clear hk); (try clear hi)))
           have n0_ := aA (blk_drew BK117.out)
           have n1_ := aA (below_drew1 HB.out)
           clear BK117
           clear HB
           have BK117 := n0_
           have HB := n1_
           clear n0_ n1_
           refine start_ (n := 10) (S := fun w' => True) (ds := []) (bA 10 0) (by kernel_rfl) rfl rfl trivial (fun hHeld => ?_); refine with_tabW wire_Asked.tab4 wire_Asked.bits4 (fun HT_ HW_ => ?_)
           generalize w70.drew = w71 at BK117 HB hHeld ⊢
           refine pure_ (i := 0) (N := some 11) (v := ?_) (a' := ?_) (bA 10 1) rfl rfl (any_of HT_.out (by kernel_rfl)) (fun _ _ _ h => h) (Or.inl ⟨by rfl, ?_⟩) ?_ ?_
           rotate_left
           ·intro w'
            go_simp
            with_reducible rfl
           rotate_left
           ·exact mP
           refine pure_ (i := 1) (N := some 12) (v := ?_) (a' := ?_) (bA 10 3) rfl rfl (any_of HT_.out (by kernel_rfl)) (fun _ _ _ h => h) (Or.inl ⟨by rfl, ?_⟩) ?_ ?_
           rotate_left
           ·intro w'
            go_simp
            with_reducible rfl
           rotate_left
           ·exact mP
           refine pure_ (i := 2) (N := some 13) (v := ?_) (a' := ?_) (bA 10 7) rfl rfl (any_of HT_.out (by kernel_rfl)) (fun _ _ _ h => h) (Or.inl ⟨by rfl, ?_⟩) ?_ ?_
           rotate_left
           ·intro w'
            go_simp
            with_reducible rfl
           rotate_left
           ·exact mP
           refine pure_ (i := 3) (N := some 14) (v := ?_) (a' := ?_) (bA 10 15) rfl rfl (any_of HT_.out (by kernel_rfl)) (fun _ _ _ h => h) (Or.inl ⟨by rfl, ?_⟩) ?_ ?_
           rotate_left
           ·intro w'
            go_simp
            with_reducible rfl
           rotate_left
           ·exact mP
           refine pure_ (i := 4) (N := some 15) (v := ?_) (a' := ?_) (bA 10 31) rfl rfl (any_of HT_.out (by kernel_rfl)) (fun _ _ _ h => h) (Or.inl ⟨by rfl, ?_⟩) ?_ ?_
           rotate_left
           ·intro w'
            go_simp
            with_reducible rfl
           rotate_left
           ·exact mP
           refine pure_ (i := 5) (N := some 16) (v := ?_) (a' := ?_) (bA 10 63) rfl rfl (any_of HT_.out (by kernel_rfl)) (fun _ _ _ h => h) (Or.inl ⟨by rfl, ?_⟩) ?_ ?_
           rotate_left
           ·intro w'
            go_simp
            with_reducible rfl
           rotate_left
           ·exact mP
           refine pure_ (i := 6) (N := some 17) (v := ?_) (a' := ?_) (bA 10 127) rfl rfl (any_of HT_.out (by kernel_rfl)) (fun _ _ _ h => h) (Or.inl ⟨by rfl, ?_⟩) ?_ ?_
           rotate_left
           ·intro w'
            go_simp
            with_reducible rfl
           rotate_left
           ·exact mP
           refine pure_ (i := 7) (N := some 18) (v := ?_) (a' := ?_) (bA 10 255) rfl rfl (any_of HT_.out (by kernel_rfl)) (fun _ _ _ h => h) (Or.inl ⟨by rfl, ?_⟩) ?_ ?_
           rotate_left
           ·intro w'
            go_simp
            with_reducible rfl
           rotate_left
           ·exact mP
           refine one_ (i := 8) (N := some 5) (bA 10 511) rfl rfl (one_of HT_.out (by kernel_rfl)) (by decide) (fun K hK => ?_)
           refine box_step ?hg (N := 5) ?hd (cs := #[.int .i64 0, .string (⟨#[]⟩ : ByteArray), .string (⟨#[]⟩ : ByteArray)]) (t := 32) ?hr ?_; (case hd => rfl); (case hg => rfl); (case hr => first | (go_simp; done) | (go_simp; rfl))
           intro gb119 hg w72 hbox hb
           have n0_ := aA (bB BK117.out hb)
           have n1_ := aA (below_step (mD1 GE117.out) hb)
           have n2_ := aA (hbox)
           have n3_ := aA ((bZ hg (mD1 GE117.out)))
           have n4_ := aA ((bZ hg (mD1 GE117.out)))
           have n5_ := aA ((bL hg BK117.out))
           have n6_ := aA ((bG hg BK117.out))
           clear BK117
           clear HB
           have BK117 := n0_
           have HB := n1_
           have BK119 := n2_
           have GW119 := n3_
           have GE119 := n4_
           have NB117_119 := n5_
           have NB119_117 := n6_
           clear n0_ n1_ n2_ n3_ n4_ n5_ n6_
           clear hb hbox hg
           refine hK.out _ _ trivial (fun hHeld => ?_)
           clear hK K
           refine norm_ (a' := ?_) ?_ ?_
           rotate_left
           ·show Act.put _ (some 5) _ = _
            simp only [Act.put, List.setIfInBounds_toArray, List.set_cons_zero, List.set_cons_succ, i64_w, i32_w]
            rfl
           refine one_ (i := 9) (N := none) (bA 10 1023) rfl rfl (one_of HT_.out (by kernel_rfl)) (by decide) (fun K hK => ?_)
           have hs73 : w72.cell? ⟨gb119, 0, none⟩ = some (.int .i64 0) := (blk_cell BK119.out 0).trans rfl
           have hfs73 := blk_frozen BK119.out 0
           have hns73_0 := NB117_119.out
           have hms73_0 := NB119_117.out
           have hs74 : w72.cell? ⟨gb119, 1, none⟩ = some (.string (⟨#[]⟩ : ByteArray)) := (blk_cell BK119.out 1).trans rfl
           have hfs74 := blk_frozen BK119.out 1
           have hns74_0 := NB117_119.out
           have hms74_0 := NB119_117.out
           have hs75 : w72.cell? ⟨gb119, 2, none⟩ = some (.string (⟨#[]⟩ : ByteArray)) := (blk_cell BK119.out 2).trans rfl
           have hfs75 := blk_frozen BK119.out 2
           have hns75_0 := NB117_119.out
           have hms75_0 := NB119_117.out
           refine skip_ (w1 := ?_) (by rfl) rfl ?_ ?_
           rotate_left
           ·go_simp
            rfl
           refine hK.out _ _ trivial (fun hHeld => ?_)
           clear hK K
           refine done_ (done_of HT_.out (by kernel_rfl)) ?_
           have p13 : 0 ≤ (t118 : Int) := of_decide_eq_true (by first | (with_reducible assumption) | assumption)
           have q13 : t118 < (a0.size : Int) := of_decide_eq_true (by first | (with_reducible assumption) | assumption)
           have hx13 := bt_at a0 t118
           replace p13 := eq_true p13
           replace q13 := eq_true q13
           have hnb76 := NB119_117.out
           have hnc76 := NB117_119.out
           obtain ⟨hcz77_0, hcz77_1, hcz77_2⟩ := bC3 BK119.out
           obtain ⟨hfz77_0, hfz77_1, hfz77_2⟩ := bF3 BK119.out
           try go_wp2_with (first | ((with_reducible refine gate_callee (f := 41) rfl ?_); refine goesL_ (some 34) rfl rfl Tryz.func41 (by kernel_rfl) rfl #[.agg #[.int .i64 2, .string (a0.extract 0 (t118 : Int).toNat), .string (a0.extract ((ji9) : Int).toNat a0.size)]] rfl (by (try simp only [List.map_toArray, List.map_cons, List.map_nil]); first | done | (simp only [hji9]; rfl) | rfl | (simp only [List.length_drop, List.length_take]; rfl)) ?_; (with_reducible refine (label_Matcher.calls 2 (a0.extract 0 (t118 : Int).toNat) (a0.extract ((ji9) : Int).toNat a0.size) true _ A67.out).mono ?_); rintro e w78 ⟨rfl, hb⟩; refine ⟨_, rfl, ?_⟩; have n0_ := aA (blk_below (g := gb117) (o := .cells #[.int .i64 0, .string (⟨#[]⟩ : ByteArray), .string (⟨#[]⟩ : ByteArray)] 32 (0, 0)) (by (with_reducible repeat (first | refine blk_drewN ?_ _ | refine blk_drew ?_ | refine blk_alloc ?_ _)); refine blk_far ?_ NB117_119.out _; (with_reducible repeat (first | refine blk_drewN ?_ _ | refine blk_drew ?_ | refine blk_alloc ?_ _)); refine blk_far ?_ NB117_119.out _; (with_reducible repeat (first | refine blk_drewN ?_ _ | refine blk_drew ?_ | refine blk_alloc ?_ _)); refine blk_far ?_ NB117_119.out _; (with_reducible repeat (first | refine blk_drewN ?_ _ | refine blk_drew ?_ | refine blk_alloc ?_ _)); refine blk_far ?_ NB117_119.out _; (with_reducible repeat (first | refine blk_drewN ?_ _ | refine blk_drew ?_ | refine blk_alloc ?_ _)); exact BK117.out) hb); have n1_ := aA (blk_below (g := gb119) (o := .cells #[.int .i64 2, .string (a0.extract 0 (t118 : Int).toNat), .string (a0.extract ((ji9) : Int).toNat a0.size)] 32 (0, 0)) (by (with_reducible repeat (first | refine blk_drewN ?_ _ | refine blk_drew ?_ | refine blk_alloc ?_ _)); have h_ := BK119.out; exact pK 0 (pK 2 (pK 1 (pK 0 (h_))))) hb); have n2_ := aA (below_step (mD2 GE117.out GE119.out) hb); clear BK117 BK119 HB; have BK117 := n0_; have BK119 := n1_; have HB := n2_; clear n0_ n1_ n2_; (try clear hb); (try clear hb2); (try clear hk); (try clear hi); obtain ⟨hcz79_0, hcz79_1, hcz79_2⟩ := bC3 BK119.out; obtain ⟨hfz79_0, hfz79_1, hfz79_2⟩ := bF3 BK119.out; obtain ⟨hcz80_0, hcz80_1, hcz80_2⟩ := bC3 BK117.out; obtain ⟨hfz80_0, hfz80_1, hfz80_2⟩ := bF3 BK117.out))
           refine bodyPost_ret (results_ct rfl _ _ gb117 32 #[.int .i64 2, .string (a0.extract 0 (t118 : Int).toNat), .string (a0.extract ((ji9) : Int).toNat a0.size)] (0, 0) _ rfl (by (with_reducible repeat (first | refine blk_drewN ?_ _ | refine blk_drew ?_ | refine blk_alloc ?_ _)); have h_ := BK117.out; exact pK 2 (pK 1 (pK 0 (h_)))) Tryz.underlying32 rfl (by kernel_rfl)) rfl ?_
           exact ⟨by first | rfl | (simp [errW_none, errW_some] <;> rfl) | (simp only [← hji9]; first | rfl | (simp [errW_none, errW_some] <;> rfl)) | (simp [*, errW_none, errW_some] <;> rfl), by repeat (first | (with_reducible first | exact HB.out | apply below_alloc | apply pw_below_drewN | apply below_drew1 | refine below_set ?_ GE117.out | refine below_set ?_ GE119.out) | exact HB.out)⟩
          ·replace c68 := Bool.eq_false_iff.mpr c68
           subst c68
           have H1 : (some (0, (⟨#[]⟩ : ByteArray), (⟨#[]⟩ : ByteArray), 13)) = some (r1, r2, r3, r4) := by rw [if_neg (show ¬ (false = true) by decide)] at H; exact H
           clear H
           have H := H1
           clear H1
           simp only [Option.some.injEq, Prod.mk.injEq] at H
           obtain ⟨rfl, rfl, rfl, rfl⟩ := H
           go_enter Tryz.func12, Tryz.ntmps12
           try go_wp2_with (first | ((with_reducible refine gate_dst (N := 2) rfl ?_); refine box_event ?hg (N := 2) ?hd (cs := #[.int .i64 0, .string (⟨#[]⟩ : ByteArray), .string (⟨#[]⟩ : ByteArray)]) (t := 32) ?hr ?_; (case hd => rfl); (case hg => rfl); (case hr => first | (go_simp; done) | (go_simp; rfl)); intro gb117 hg w81 hbox hb; have n0_ := aA (below_step mB hb); have n1_ := aA (hbox); have n2_ := aA ((bZ hg mB)); have n3_ := aA ((bZ hg mB)); clear HB; have HB := n0_; have BK117 := n1_; have GW117 := n2_; have GE117 := n3_; clear n0_ n1_ n2_ n3_ hb hbox hg) | ((with_reducible refine gate_callee (f := 40) rfl ?_); refine goesL_ (some 7) rfl rfl Tryz.func40 (by kernel_rfl) rfl #[.string a0, .string (⟨#[61, 33, 94, 63]⟩ : ByteArray)] rfl mS ?_; (with_reducible refine (strings_IndexAny.calls a0 (⟨#[61, 33, 94, 63]⟩ : ByteArray) t118 _ A2.out).mono ?_); rintro e w82 ⟨rfl, hb⟩; refine ⟨_, rfl, ?_⟩; have n0_ := aA (bB BK117.out hb); have n1_ := aA (below_step (mD1 GE117.out) hb); clear BK117 HB; have BK117 := n0_; have HB := n1_; clear n0_ n1_; (try clear hb); (try clear hb2); (try clear hk); (try clear hi)))
           have n0_ := aA (blk_drew BK117.out)
           have n1_ := aA (below_drew1 HB.out)
           clear BK117
           clear HB
           have BK117 := n0_
           have HB := n1_
           clear n0_ n1_
           refine start_ (n := 10) (S := fun w' => True) (ds := []) (bA 10 0) (by kernel_rfl) rfl rfl trivial (fun hHeld => ?_); refine with_tabW wire_Asked.tab4 wire_Asked.bits4 (fun HT_ HW_ => ?_)
           generalize w82.drew = w83 at BK117 HB hHeld ⊢
           refine pure_ (i := 0) (N := some 11) (v := ?_) (a' := ?_) (bA 10 1) rfl rfl (any_of HT_.out (by kernel_rfl)) (fun _ _ _ h => h) (Or.inl ⟨by rfl, ?_⟩) ?_ ?_
           rotate_left
           ·intro w'
            go_simp
            with_reducible rfl
           rotate_left
           ·exact mP
           refine pure_ (i := 1) (N := some 12) (v := ?_) (a' := ?_) (bA 10 3) rfl rfl (any_of HT_.out (by kernel_rfl)) (fun _ _ _ h => h) (Or.inl ⟨by rfl, ?_⟩) ?_ ?_
           rotate_left
           ·intro w'
            go_simp
            with_reducible rfl
           rotate_left
           ·exact mP
           refine pure_ (i := 2) (N := some 13) (v := ?_) (a' := ?_) (bA 10 7) rfl rfl (any_of HT_.out (by kernel_rfl)) (fun _ _ _ h => h) (Or.inl ⟨by rfl, ?_⟩) ?_ ?_
           rotate_left
           ·intro w'
            go_simp
            with_reducible rfl
           rotate_left
           ·exact mP
           refine pure_ (i := 3) (N := some 14) (v := ?_) (a' := ?_) (bA 10 15) rfl rfl (any_of HT_.out (by kernel_rfl)) (fun _ _ _ h => h) (Or.inl ⟨by rfl, ?_⟩) ?_ ?_
           rotate_left
           ·intro w'
            go_simp
            with_reducible rfl
           rotate_left
           ·exact mP
           refine pure_ (i := 4) (N := some 15) (v := ?_) (a' := ?_) (bA 10 31) rfl rfl (any_of HT_.out (by kernel_rfl)) (fun _ _ _ h => h) (Or.inl ⟨by rfl, ?_⟩) ?_ ?_
           rotate_left
           ·intro w'
            go_simp
            with_reducible rfl
           rotate_left
           ·exact mP
           refine pure_ (i := 5) (N := some 16) (v := ?_) (a' := ?_) (bA 10 63) rfl rfl (any_of HT_.out (by kernel_rfl)) (fun _ _ _ h => h) (Or.inl ⟨by rfl, ?_⟩) ?_ ?_
           rotate_left
           ·intro w'
            go_simp
            with_reducible rfl
           rotate_left
           ·exact mP
           refine pure_ (i := 6) (N := some 17) (v := ?_) (a' := ?_) (bA 10 127) rfl rfl (any_of HT_.out (by kernel_rfl)) (fun _ _ _ h => h) (Or.inl ⟨by rfl, ?_⟩) ?_ ?_
           rotate_left
           ·intro w'
            go_simp
            with_reducible rfl
           rotate_left
           ·exact mP
           refine pure_ (i := 7) (N := some 18) (v := ?_) (a' := ?_) (bA 10 255) rfl rfl (any_of HT_.out (by kernel_rfl)) (fun _ _ _ h => h) (Or.inl ⟨by rfl, ?_⟩) ?_ ?_
           rotate_left
           ·intro w'
            go_simp
            with_reducible rfl
           rotate_left
           ·exact mP
           refine one_ (i := 8) (N := some 5) (bA 10 511) rfl rfl (one_of HT_.out (by kernel_rfl)) (by decide) (fun K hK => ?_)
           refine box_step ?hg (N := 5) ?hd (cs := #[.int .i64 0, .string (⟨#[]⟩ : ByteArray), .string (⟨#[]⟩ : ByteArray)]) (t := 32) ?hr ?_; (case hd => rfl); (case hg => rfl); (case hr => first | (go_simp; done) | (go_simp; rfl))
           intro gb119 hg w84 hbox hb
           have n0_ := aA (bB BK117.out hb)
           have n1_ := aA (below_step (mD1 GE117.out) hb)
           have n2_ := aA (hbox)
           have n3_ := aA ((bZ hg (mD1 GE117.out)))
           have n4_ := aA ((bZ hg (mD1 GE117.out)))
           have n5_ := aA ((bL hg BK117.out))
           have n6_ := aA ((bG hg BK117.out))
           clear BK117
           clear HB
           have BK117 := n0_
           have HB := n1_
           have BK119 := n2_
           have GW119 := n3_
           have GE119 := n4_
           have NB117_119 := n5_
           have NB119_117 := n6_
           clear n0_ n1_ n2_ n3_ n4_ n5_ n6_
           clear hb hbox hg
           refine hK.out _ _ trivial (fun hHeld => ?_)
           clear hK K
           refine norm_ (a' := ?_) ?_ ?_
           rotate_left
           ·show Act.put _ (some 5) _ = _
            simp only [Act.put, List.setIfInBounds_toArray, List.set_cons_zero, List.set_cons_succ, i64_w, i32_w]
            rfl
           refine one_ (i := 9) (N := none) (bA 10 1023) rfl rfl (one_of HT_.out (by kernel_rfl)) (by decide) (fun K hK => ?_)
           have hs85 : w84.cell? ⟨gb119, 0, none⟩ = some (.int .i64 0) := (blk_cell BK119.out 0).trans rfl
           have hfs85 := blk_frozen BK119.out 0
           have hns85_0 := NB117_119.out
           have hms85_0 := NB119_117.out
           have hs86 : w84.cell? ⟨gb119, 1, none⟩ = some (.string (⟨#[]⟩ : ByteArray)) := (blk_cell BK119.out 1).trans rfl
           have hfs86 := blk_frozen BK119.out 1
           have hns86_0 := NB117_119.out
           have hms86_0 := NB119_117.out
           have hs87 : w84.cell? ⟨gb119, 2, none⟩ = some (.string (⟨#[]⟩ : ByteArray)) := (blk_cell BK119.out 2).trans rfl
           have hfs87 := blk_frozen BK119.out 2
           have hns87_0 := NB117_119.out
           have hms87_0 := NB119_117.out
           refine skip_ (w1 := ?_) (by rfl) rfl ?_ ?_
           rotate_left
           ·go_simp
            rfl
           refine hK.out _ _ trivial (fun hHeld => ?_)
           clear hK K
           refine done_ (done_of HT_.out (by kernel_rfl)) ?_
           have p13 : 0 ≤ (t118 : Int) := of_decide_eq_true (by first | (with_reducible assumption) | assumption)
           have q13 : t118 < (a0.size : Int) := of_decide_eq_true (by first | (with_reducible assumption) | assumption)
           have hx13 := bt_at a0 t118
           replace p13 := eq_true p13
           replace q13 := eq_true q13
           have hnb88 := NB119_117.out
           have hnc88 := NB117_119.out
           obtain ⟨hcz89_0, hcz89_1, hcz89_2⟩ := bC3 BK119.out
           obtain ⟨hfz89_0, hfz89_1, hfz89_2⟩ := bF3 BK119.out
           try go_wp2_with (first | ((with_reducible refine gate_callee (f := 41) rfl ?_); refine goesL_ (some 34) rfl rfl Tryz.func41 (by kernel_rfl) rfl #[.agg #[.int .i64 2, .string (a0.extract 0 (t118 : Int).toNat), .string (a0.extract ((ji9) : Int).toNat a0.size)]] rfl (by (try simp only [List.map_toArray, List.map_cons, List.map_nil]); first | done | (simp only [hji9]; rfl) | rfl | (simp only [List.length_drop, List.length_take]; rfl)) ?_; (with_reducible refine (label_Matcher.calls 2 (a0.extract 0 (t118 : Int).toNat) (a0.extract ((ji9) : Int).toNat a0.size) false _ A67.out).mono ?_); rintro e w90 ⟨rfl, hb⟩; refine ⟨_, rfl, ?_⟩; have n0_ := aA (blk_below (g := gb117) (o := .cells #[.int .i64 0, .string (⟨#[]⟩ : ByteArray), .string (⟨#[]⟩ : ByteArray)] 32 (0, 0)) (by (with_reducible repeat (first | refine blk_drewN ?_ _ | refine blk_drew ?_ | refine blk_alloc ?_ _)); refine blk_far ?_ NB117_119.out _; (with_reducible repeat (first | refine blk_drewN ?_ _ | refine blk_drew ?_ | refine blk_alloc ?_ _)); refine blk_far ?_ NB117_119.out _; (with_reducible repeat (first | refine blk_drewN ?_ _ | refine blk_drew ?_ | refine blk_alloc ?_ _)); refine blk_far ?_ NB117_119.out _; (with_reducible repeat (first | refine blk_drewN ?_ _ | refine blk_drew ?_ | refine blk_alloc ?_ _)); refine blk_far ?_ NB117_119.out _; (with_reducible repeat (first | refine blk_drewN ?_ _ | refine blk_drew ?_ | refine blk_alloc ?_ _)); exact BK117.out) hb); have n1_ := aA (blk_below (g := gb119) (o := .cells #[.int .i64 2, .string (a0.extract 0 (t118 : Int).toNat), .string (a0.extract ((ji9) : Int).toNat a0.size)] 32 (0, 0)) (by (with_reducible repeat (first | refine blk_drewN ?_ _ | refine blk_drew ?_ | refine blk_alloc ?_ _)); have h_ := BK119.out; exact pK 0 (pK 2 (pK 1 (pK 0 (h_))))) hb); have n2_ := aA (below_step (mD2 GE117.out GE119.out) hb); clear BK117 BK119 HB; have BK117 := n0_; have BK119 := n1_; have HB := n2_; clear n0_ n1_ n2_; (try clear hb); (try clear hb2); (try clear hk); (try clear hi); obtain ⟨hcz91_0, hcz91_1, hcz91_2⟩ := bC3 BK117.out; obtain ⟨hfz91_0, hfz91_1, hfz91_2⟩ := bF3 BK117.out))
           refine bodyPost_ret (results_ct rfl _ _ gb117 32 #[.int .i64 0, .string (⟨#[]⟩ : ByteArray), .string (⟨#[]⟩ : ByteArray)] (0, 0) _ rfl (by (with_reducible repeat (first | refine blk_drewN ?_ _ | refine blk_drew ?_ | refine blk_alloc ?_ _)); have h_ := BK117.out; exact pK 2 (pK 1 (pK 0 (h_)))) Tryz.underlying32 rfl (by kernel_rfl)) rfl ?_
           exact ⟨by first | rfl | (simp [errW_none, errW_some] <;> rfl) | (simp only [← hji9]; first | rfl | (simp [errW_none, errW_some] <;> rfl)) | (simp [*, errW_none, errW_some] <;> rfl), by repeat (first | (with_reducible first | exact HB.out | apply below_alloc | apply pw_below_drewN | apply below_drew1 | refine below_set ?_ GE117.out | refine below_set ?_ GE119.out) | exact HB.out)⟩
         ·rw [if_neg c66] at H
          have c66b0 : ((wrap32 (bt a0 t118)) == 94) = false := beq_eq_false_iff_ne.mpr c66
          have c66b1 : ((wrap32 (bt a0 t118)) != 94) = true := bne_iff_ne.mpr c66
          replace H := Option.bind_eq_some_iff.mp H
          obtain ⟨t123, A920, H⟩ := H
          replace H : (if t123 = true then (some (3, a0.extract 0 (t118 : Int).toNat, a0.extract ((ji9) : Int).toNat a0.size, 0)) else (some (0, (⟨#[]⟩ : ByteArray), (⟨#[]⟩ : ByteArray), 13))) = some (r1, r2, r3, r4) := H
          have A92 := aA A920
          clear A920
          by_cases c93 : t123 = true
          ·subst c93
           have H1 : (some (3, a0.extract 0 (t118 : Int).toNat, a0.extract ((ji9) : Int).toNat a0.size, 0)) = some (r1, r2, r3, r4) := by rw [if_pos rfl] at H; exact H
           clear H
           have H := H1
           clear H1
           simp only [Option.some.injEq, Prod.mk.injEq] at H
           obtain ⟨rfl, rfl, rfl, rfl⟩ := H
           go_enter Tryz.func12, Tryz.ntmps12
           try go_wp2_with (first | ((with_reducible refine gate_dst (N := 2) rfl ?_); refine box_event ?hg (N := 2) ?hd (cs := #[.int .i64 0, .string (⟨#[]⟩ : ByteArray), .string (⟨#[]⟩ : ByteArray)]) (t := 32) ?hr ?_; (case hd => rfl); (case hg => rfl); (case hr => first | (go_simp; done) | (go_simp; rfl)); intro gb117 hg w94 hbox hb; have n0_ := aA (below_step mB hb); have n1_ := aA (hbox); have n2_ := aA ((bZ hg mB)); have n3_ := aA ((bZ hg mB)); clear HB; have HB := n0_; have BK117 := n1_; have GW117 := n2_; have GE117 := n3_; clear n0_ n1_ n2_ n3_ hb hbox hg) | ((with_reducible refine gate_callee (f := 40) rfl ?_); refine goesL_ (some 7) rfl rfl Tryz.func40 (by kernel_rfl) rfl #[.string a0, .string (⟨#[61, 33, 94, 63]⟩ : ByteArray)] rfl mS ?_; (with_reducible refine (strings_IndexAny.calls a0 (⟨#[61, 33, 94, 63]⟩ : ByteArray) t118 _ A2.out).mono ?_); rintro e w95 ⟨rfl, hb⟩; refine ⟨_, rfl, ?_⟩; have n0_ := aA (bB BK117.out hb); have n1_ := aA (below_step (mD1 GE117.out) hb); clear BK117 HB; have BK117 := n0_; have HB := n1_; clear n0_ n1_; (try clear hb); (try clear hb2); (try clear hk); (try clear hi)))
           have n0_ := aA (blk_drew BK117.out)
           have n1_ := aA (below_drew1 HB.out)
           clear BK117
           clear HB
           have BK117 := n0_
           have HB := n1_
           clear n0_ n1_
           refine start_ (n := 10) (S := fun w' => True) (ds := []) (bA 10 0) (by kernel_rfl) rfl rfl trivial (fun hHeld => ?_); refine with_tabW wire_Asked.tab4 wire_Asked.bits4 (fun HT_ HW_ => ?_)
           generalize w95.drew = w96 at BK117 HB hHeld ⊢
           refine pure_ (i := 0) (N := some 11) (v := ?_) (a' := ?_) (bA 10 1) rfl rfl (any_of HT_.out (by kernel_rfl)) (fun _ _ _ h => h) (Or.inl ⟨by rfl, ?_⟩) ?_ ?_
           rotate_left
           ·intro w'
            go_simp
            with_reducible rfl
           rotate_left
           ·exact mP
           refine pure_ (i := 1) (N := some 12) (v := ?_) (a' := ?_) (bA 10 3) rfl rfl (any_of HT_.out (by kernel_rfl)) (fun _ _ _ h => h) (Or.inl ⟨by rfl, ?_⟩) ?_ ?_
           rotate_left
           ·intro w'
            go_simp
            with_reducible rfl
           rotate_left
           ·exact mP
           refine pure_ (i := 2) (N := some 13) (v := ?_) (a' := ?_) (bA 10 7) rfl rfl (any_of HT_.out (by kernel_rfl)) (fun _ _ _ h => h) (Or.inl ⟨by rfl, ?_⟩) ?_ ?_
           rotate_left
           ·intro w'
            go_simp
            with_reducible rfl
           rotate_left
           ·exact mP
           refine pure_ (i := 3) (N := some 14) (v := ?_) (a' := ?_) (bA 10 15) rfl rfl (any_of HT_.out (by kernel_rfl)) (fun _ _ _ h => h) (Or.inl ⟨by rfl, ?_⟩) ?_ ?_
           rotate_left
           ·intro w'
            go_simp
            with_reducible rfl
           rotate_left
           ·exact mP
           refine pure_ (i := 4) (N := some 15) (v := ?_) (a' := ?_) (bA 10 31) rfl rfl (any_of HT_.out (by kernel_rfl)) (fun _ _ _ h => h) (Or.inl ⟨by rfl, ?_⟩) ?_ ?_
           rotate_left
           ·intro w'
            go_simp
            with_reducible rfl
           rotate_left
           ·exact mP
           refine pure_ (i := 5) (N := some 16) (v := ?_) (a' := ?_) (bA 10 63) rfl rfl (any_of HT_.out (by kernel_rfl)) (fun _ _ _ h => h) (Or.inl ⟨by rfl, ?_⟩) ?_ ?_
           rotate_left
           ·intro w'
            go_simp
            with_reducible rfl
           rotate_left
           ·exact mP
           refine pure_ (i := 6) (N := some 17) (v := ?_) (a' := ?_) (bA 10 127) rfl rfl (any_of HT_.out (by kernel_rfl)) (fun _ _ _ h => h) (Or.inl ⟨by rfl, ?_⟩) ?_ ?_
           rotate_left
           ·intro w'
            go_simp
            with_reducible rfl
           rotate_left
           ·exact mP
           refine pure_ (i := 7) (N := some 18) (v := ?_) (a' := ?_) (bA 10 255) rfl rfl (any_of HT_.out (by kernel_rfl)) (fun _ _ _ h => h) (Or.inl ⟨by rfl, ?_⟩) ?_ ?_
           rotate_left
           ·intro w'
            go_simp
            with_reducible rfl
           rotate_left
           ·exact mP
           refine one_ (i := 8) (N := some 5) (bA 10 511) rfl rfl (one_of HT_.out (by kernel_rfl)) (by decide) (fun K hK => ?_)
           refine box_step ?hg (N := 5) ?hd (cs := #[.int .i64 0, .string (⟨#[]⟩ : ByteArray), .string (⟨#[]⟩ : ByteArray)]) (t := 32) ?hr ?_; (case hd => rfl); (case hg => rfl); (case hr => first | (go_simp; done) | (go_simp; rfl))
           intro gb119 hg w97 hbox hb
           have n0_ := aA (bB BK117.out hb)
           have n1_ := aA (below_step (mD1 GE117.out) hb)
           have n2_ := aA (hbox)
           have n3_ := aA ((bZ hg (mD1 GE117.out)))
           have n4_ := aA ((bZ hg (mD1 GE117.out)))
           have n5_ := aA ((bL hg BK117.out))
           have n6_ := aA ((bG hg BK117.out))
           clear BK117
           clear HB
           have BK117 := n0_
           have HB := n1_
           have BK119 := n2_
           have GW119 := n3_
           have GE119 := n4_
           have NB117_119 := n5_
           have NB119_117 := n6_
           clear n0_ n1_ n2_ n3_ n4_ n5_ n6_
           clear hb hbox hg
           refine hK.out _ _ trivial (fun hHeld => ?_)
           clear hK K
           refine norm_ (a' := ?_) ?_ ?_
           rotate_left
           ·show Act.put _ (some 5) _ = _
            simp only [Act.put, List.setIfInBounds_toArray, List.set_cons_zero, List.set_cons_succ, i64_w, i32_w]
            rfl
           refine one_ (i := 9) (N := none) (bA 10 1023) rfl rfl (one_of HT_.out (by kernel_rfl)) (by decide) (fun K hK => ?_)
           have hs98 : w97.cell? ⟨gb119, 0, none⟩ = some (.int .i64 0) := (blk_cell BK119.out 0).trans rfl
           have hfs98 := blk_frozen BK119.out 0
           have hns98_0 := NB117_119.out
           have hms98_0 := NB119_117.out
           have hs99 : w97.cell? ⟨gb119, 1, none⟩ = some (.string (⟨#[]⟩ : ByteArray)) := (blk_cell BK119.out 1).trans rfl
           have hfs99 := blk_frozen BK119.out 1
           have hns99_0 := NB117_119.out
           have hms99_0 := NB119_117.out
           have hs100 : w97.cell? ⟨gb119, 2, none⟩ = some (.string (⟨#[]⟩ : ByteArray)) := (blk_cell BK119.out 2).trans rfl
           have hfs100 := blk_frozen BK119.out 2
           have hns100_0 := NB117_119.out
           have hms100_0 := NB119_117.out
           refine skip_ (w1 := ?_) (by rfl) rfl ?_ ?_
           rotate_left
           ·go_simp
            rfl
           refine hK.out _ _ trivial (fun hHeld => ?_)
           clear hK K
           refine done_ (done_of HT_.out (by kernel_rfl)) ?_
           have p13 : 0 ≤ (t118 : Int) := of_decide_eq_true (by first | (with_reducible assumption) | assumption)
           have q13 : t118 < (a0.size : Int) := of_decide_eq_true (by first | (with_reducible assumption) | assumption)
           have hx13 := bt_at a0 t118
           replace p13 := eq_true p13
           replace q13 := eq_true q13
           have hnb101 := NB119_117.out
           have hnc101 := NB117_119.out
           obtain ⟨hcz102_0, hcz102_1, hcz102_2⟩ := bC3 BK119.out
           obtain ⟨hfz102_0, hfz102_1, hfz102_2⟩ := bF3 BK119.out
           try go_wp2_with (first | ((with_reducible refine gate_callee (f := 41) rfl ?_); refine goesL_ (some 34) rfl rfl Tryz.func41 (by kernel_rfl) rfl #[.agg #[.int .i64 3, .string (a0.extract 0 (t118 : Int).toNat), .string (a0.extract ((ji9) : Int).toNat a0.size)]] rfl (by (try simp only [List.map_toArray, List.map_cons, List.map_nil]); first | done | (simp only [hji9]; rfl) | rfl | (simp only [List.length_drop, List.length_take]; rfl)) ?_; (with_reducible refine (label_Matcher.calls 3 (a0.extract 0 (t118 : Int).toNat) (a0.extract ((ji9) : Int).toNat a0.size) true _ A92.out).mono ?_); rintro e w103 ⟨rfl, hb⟩; refine ⟨_, rfl, ?_⟩; have n0_ := aA (blk_below (g := gb117) (o := .cells #[.int .i64 0, .string (⟨#[]⟩ : ByteArray), .string (⟨#[]⟩ : ByteArray)] 32 (0, 0)) (by (with_reducible repeat (first | refine blk_drewN ?_ _ | refine blk_drew ?_ | refine blk_alloc ?_ _)); refine blk_far ?_ NB117_119.out _; (with_reducible repeat (first | refine blk_drewN ?_ _ | refine blk_drew ?_ | refine blk_alloc ?_ _)); refine blk_far ?_ NB117_119.out _; (with_reducible repeat (first | refine blk_drewN ?_ _ | refine blk_drew ?_ | refine blk_alloc ?_ _)); refine blk_far ?_ NB117_119.out _; (with_reducible repeat (first | refine blk_drewN ?_ _ | refine blk_drew ?_ | refine blk_alloc ?_ _)); refine blk_far ?_ NB117_119.out _; (with_reducible repeat (first | refine blk_drewN ?_ _ | refine blk_drew ?_ | refine blk_alloc ?_ _)); exact BK117.out) hb); have n1_ := aA (blk_below (g := gb119) (o := .cells #[.int .i64 3, .string (a0.extract 0 (t118 : Int).toNat), .string (a0.extract ((ji9) : Int).toNat a0.size)] 32 (0, 0)) (by (with_reducible repeat (first | refine blk_drewN ?_ _ | refine blk_drew ?_ | refine blk_alloc ?_ _)); have h_ := BK119.out; exact pK 0 (pK 2 (pK 1 (pK 0 (h_))))) hb); have n2_ := aA (below_step (mD2 GE117.out GE119.out) hb); clear BK117 BK119 HB; have BK117 := n0_; have BK119 := n1_; have HB := n2_; clear n0_ n1_ n2_; (try clear hb); (try clear hb2); (try clear hk); (try clear hi); obtain ⟨hcz104_0, hcz104_1, hcz104_2⟩ := bC3 BK119.out; obtain ⟨hfz104_0, hfz104_1, hfz104_2⟩ := bF3 BK119.out; obtain ⟨hcz105_0, hcz105_1, hcz105_2⟩ := bC3 BK117.out; obtain ⟨hfz105_0, hfz105_1, hfz105_2⟩ := bF3 BK117.out))
           refine bodyPost_ret (results_ct rfl _ _ gb117 32 #[.int .i64 3, .string (a0.extract 0 (t118 : Int).toNat), .string (a0.extract ((ji9) : Int).toNat a0.size)] (0, 0) _ rfl (by (with_reducible repeat (first | refine blk_drewN ?_ _ | refine blk_drew ?_ | refine blk_alloc ?_ _)); have h_ := BK117.out; exact pK 2 (pK 1 (pK 0 (h_)))) Tryz.underlying32 rfl (by kernel_rfl)) rfl ?_
           exact ⟨by first | rfl | (simp [errW_none, errW_some] <;> rfl) | (simp only [← hji9]; first | rfl | (simp [errW_none, errW_some] <;> rfl)) | (simp [*, errW_none, errW_some] <;> rfl), by repeat (first | (with_reducible first | exact HB.out | apply below_alloc | apply pw_below_drewN | apply below_drew1 | refine below_set ?_ GE117.out | refine below_set ?_ GE119.out) | exact HB.out)⟩
          ·replace c93 := Bool.eq_false_iff.mpr c93
           subst c93
           have H1 : (some (0, (⟨#[]⟩ : ByteArray), (⟨#[]⟩ : ByteArray), 13)) = some (r1, r2, r3, r4) := by rw [if_neg (show ¬ (false = true) by decide)] at H; exact H
           clear H
           have H := H1
           clear H1
           simp only [Option.some.injEq, Prod.mk.injEq] at H
           obtain ⟨rfl, rfl, rfl, rfl⟩ := H
           go_enter Tryz.func12, Tryz.ntmps12
           try go_wp2_with (first | ((with_reducible refine gate_dst (N := 2) rfl ?_); refine box_event ?hg (N := 2) ?hd (cs := #[.int .i64 0, .string (⟨#[]⟩ : ByteArray), .string (⟨#[]⟩ : ByteArray)]) (t := 32) ?hr ?_; (case hd => rfl); (case hg => rfl); (case hr => first | (go_simp; done) | (go_simp; rfl)); intro gb117 hg w106 hbox hb; have n0_ := aA (below_step mB hb); have n1_ := aA (hbox); have n2_ := aA ((bZ hg mB)); have n3_ := aA ((bZ hg mB)); clear HB; have HB := n0_; have BK117 := n1_; have GW117 := n2_; have GE117 := n3_; clear n0_ n1_ n2_ n3_ hb hbox hg) | ((with_reducible refine gate_callee (f := 40) rfl ?_); refine goesL_ (some 7) rfl rfl Tryz.func40 (by kernel_rfl) rfl #[.string a0, .string (⟨#[61, 33, 94, 63]⟩ : ByteArray)] rfl mS ?_; (with_reducible refine (strings_IndexAny.calls a0 (⟨#[61, 33, 94, 63]⟩ : ByteArray) t118 _ A2.out).mono ?_); rintro e w107 ⟨rfl, hb⟩; refine ⟨_, rfl, ?_⟩; have n0_ := aA (bB BK117.out hb); have n1_ := aA (below_step (mD1 GE117.out) hb); clear BK117 HB; have BK117 := n0_; have HB := n1_; clear n0_ n1_; (try clear hb); (try clear hb2); (try clear hk); (try clear hi)))
           have n0_ := aA (blk_drew BK117.out)
           have n1_ := aA (below_drew1 HB.out)
           clear BK117
           clear HB
           have BK117 := n0_
           have HB := n1_
           clear n0_ n1_
           refine start_ (n := 10) (S := fun w' => True) (ds := []) (bA 10 0) (by kernel_rfl) rfl rfl trivial (fun hHeld => ?_); refine with_tabW wire_Asked.tab4 wire_Asked.bits4 (fun HT_ HW_ => ?_)
           generalize w107.drew = w108 at BK117 HB hHeld ⊢
           refine pure_ (i := 0) (N := some 11) (v := ?_) (a' := ?_) (bA 10 1) rfl rfl (any_of HT_.out (by kernel_rfl)) (fun _ _ _ h => h) (Or.inl ⟨by rfl, ?_⟩) ?_ ?_
           rotate_left
           ·intro w'
            go_simp
            with_reducible rfl
           rotate_left
           ·exact mP
           refine pure_ (i := 1) (N := some 12) (v := ?_) (a' := ?_) (bA 10 3) rfl rfl (any_of HT_.out (by kernel_rfl)) (fun _ _ _ h => h) (Or.inl ⟨by rfl, ?_⟩) ?_ ?_
           rotate_left
           ·intro w'
            go_simp
            with_reducible rfl
           rotate_left
           ·exact mP
           refine pure_ (i := 2) (N := some 13) (v := ?_) (a' := ?_) (bA 10 7) rfl rfl (any_of HT_.out (by kernel_rfl)) (fun _ _ _ h => h) (Or.inl ⟨by rfl, ?_⟩) ?_ ?_
           rotate_left
           ·intro w'
            go_simp
            with_reducible rfl
           rotate_left
           ·exact mP
           refine pure_ (i := 3) (N := some 14) (v := ?_) (a' := ?_) (bA 10 15) rfl rfl (any_of HT_.out (by kernel_rfl)) (fun _ _ _ h => h) (Or.inl ⟨by rfl, ?_⟩) ?_ ?_
           rotate_left
           ·intro w'
            go_simp
            with_reducible rfl
           rotate_left
           ·exact mP
           refine pure_ (i := 4) (N := some 15) (v := ?_) (a' := ?_) (bA 10 31) rfl rfl (any_of HT_.out (by kernel_rfl)) (fun _ _ _ h => h) (Or.inl ⟨by rfl, ?_⟩) ?_ ?_
           rotate_left
           ·intro w'
            go_simp
            with_reducible rfl
           rotate_left
           ·exact mP
           refine pure_ (i := 5) (N := some 16) (v := ?_) (a' := ?_) (bA 10 63) rfl rfl (any_of HT_.out (by kernel_rfl)) (fun _ _ _ h => h) (Or.inl ⟨by rfl, ?_⟩) ?_ ?_
           rotate_left
           ·intro w'
            go_simp
            with_reducible rfl
           rotate_left
           ·exact mP
           refine pure_ (i := 6) (N := some 17) (v := ?_) (a' := ?_) (bA 10 127) rfl rfl (any_of HT_.out (by kernel_rfl)) (fun _ _ _ h => h) (Or.inl ⟨by rfl, ?_⟩) ?_ ?_
           rotate_left
           ·intro w'
            go_simp
            with_reducible rfl
           rotate_left
           ·exact mP
           refine pure_ (i := 7) (N := some 18) (v := ?_) (a' := ?_) (bA 10 255) rfl rfl (any_of HT_.out (by kernel_rfl)) (fun _ _ _ h => h) (Or.inl ⟨by rfl, ?_⟩) ?_ ?_
           rotate_left
           ·intro w'
            go_simp
            with_reducible rfl
           rotate_left
           ·exact mP
           refine one_ (i := 8) (N := some 5) (bA 10 511) rfl rfl (one_of HT_.out (by kernel_rfl)) (by decide) (fun K hK => ?_)
           refine box_step ?hg (N := 5) ?hd (cs := #[.int .i64 0, .string (⟨#[]⟩ : ByteArray), .string (⟨#[]⟩ : ByteArray)]) (t := 32) ?hr ?_; (case hd => rfl); (case hg => rfl); (case hr => first | (go_simp; done) | (go_simp; rfl))
           intro gb119 hg w109 hbox hb
           have n0_ := aA (bB BK117.out hb)
           have n1_ := aA (below_step (mD1 GE117.out) hb)
           have n2_ := aA (hbox)
           have n3_ := aA ((bZ hg (mD1 GE117.out)))
           have n4_ := aA ((bZ hg (mD1 GE117.out)))
           have n5_ := aA ((bL hg BK117.out))
           have n6_ := aA ((bG hg BK117.out))
           clear BK117
           clear HB
           have BK117 := n0_
           have HB := n1_
           have BK119 := n2_
           have GW119 := n3_
           have GE119 := n4_
           have NB117_119 := n5_
           have NB119_117 := n6_
           clear n0_ n1_ n2_ n3_ n4_ n5_ n6_
           clear hb hbox hg
           refine hK.out _ _ trivial (fun hHeld => ?_)
           clear hK K
           refine norm_ (a' := ?_) ?_ ?_
           rotate_left
           ·show Act.put _ (some 5) _ = _
            simp only [Act.put, List.setIfInBounds_toArray, List.set_cons_zero, List.set_cons_succ, i64_w, i32_w]
            rfl
           refine one_ (i := 9) (N := none) (bA 10 1023) rfl rfl (one_of HT_.out (by kernel_rfl)) (by decide) (fun K hK => ?_)
           have hs110 : w109.cell? ⟨gb119, 0, none⟩ = some (.int .i64 0) := (blk_cell BK119.out 0).trans rfl
           have hfs110 := blk_frozen BK119.out 0
           have hns110_0 := NB117_119.out
           have hms110_0 := NB119_117.out
           have hs111 : w109.cell? ⟨gb119, 1, none⟩ = some (.string (⟨#[]⟩ : ByteArray)) := (blk_cell BK119.out 1).trans rfl
           have hfs111 := blk_frozen BK119.out 1
           have hns111_0 := NB117_119.out
           have hms111_0 := NB119_117.out
           have hs112 : w109.cell? ⟨gb119, 2, none⟩ = some (.string (⟨#[]⟩ : ByteArray)) := (blk_cell BK119.out 2).trans rfl
           have hfs112 := blk_frozen BK119.out 2
           have hns112_0 := NB117_119.out
           have hms112_0 := NB119_117.out
           refine skip_ (w1 := ?_) (by rfl) rfl ?_ ?_
           rotate_left
           ·go_simp
            rfl
           refine hK.out _ _ trivial (fun hHeld => ?_)
           clear hK K
           refine done_ (done_of HT_.out (by kernel_rfl)) ?_
           have p13 : 0 ≤ (t118 : Int) := of_decide_eq_true (by first | (with_reducible assumption) | assumption)
           have q13 : t118 < (a0.size : Int) := of_decide_eq_true (by first | (with_reducible assumption) | assumption)
           have hx13 := bt_at a0 t118
           replace p13 := eq_true p13
           replace q13 := eq_true q13
           have hnb113 := NB119_117.out
           have hnc113 := NB117_119.out
           obtain ⟨hcz114_0, hcz114_1, hcz114_2⟩ := bC3 BK119.out
           obtain ⟨hfz114_0, hfz114_1, hfz114_2⟩ := bF3 BK119.out
           try go_wp2_with (first | ((with_reducible refine gate_callee (f := 41) rfl ?_); refine goesL_ (some 34) rfl rfl Tryz.func41 (by kernel_rfl) rfl #[.agg #[.int .i64 3, .string (a0.extract 0 (t118 : Int).toNat), .string (a0.extract ((ji9) : Int).toNat a0.size)]] rfl (by (try simp only [List.map_toArray, List.map_cons, List.map_nil]); first | done | (simp only [hji9]; rfl) | rfl | (simp only [List.length_drop, List.length_take]; rfl)) ?_; (with_reducible refine (label_Matcher.calls 3 (a0.extract 0 (t118 : Int).toNat) (a0.extract ((ji9) : Int).toNat a0.size) false _ A92.out).mono ?_); rintro e w115 ⟨rfl, hb⟩; refine ⟨_, rfl, ?_⟩; have n0_ := aA (blk_below (g := gb117) (o := .cells #[.int .i64 0, .string (⟨#[]⟩ : ByteArray), .string (⟨#[]⟩ : ByteArray)] 32 (0, 0)) (by (with_reducible repeat (first | refine blk_drewN ?_ _ | refine blk_drew ?_ | refine blk_alloc ?_ _)); refine blk_far ?_ NB117_119.out _; (with_reducible repeat (first | refine blk_drewN ?_ _ | refine blk_drew ?_ | refine blk_alloc ?_ _)); refine blk_far ?_ NB117_119.out _; (with_reducible repeat (first | refine blk_drewN ?_ _ | refine blk_drew ?_ | refine blk_alloc ?_ _)); refine blk_far ?_ NB117_119.out _; (with_reducible repeat (first | refine blk_drewN ?_ _ | refine blk_drew ?_ | refine blk_alloc ?_ _)); refine blk_far ?_ NB117_119.out _; (with_reducible repeat (first | refine blk_drewN ?_ _ | refine blk_drew ?_ | refine blk_alloc ?_ _)); exact BK117.out) hb); have n1_ := aA (blk_below (g := gb119) (o := .cells #[.int .i64 3, .string (a0.extract 0 (t118 : Int).toNat), .string (a0.extract ((ji9) : Int).toNat a0.size)] 32 (0, 0)) (by (with_reducible repeat (first | refine blk_drewN ?_ _ | refine blk_drew ?_ | refine blk_alloc ?_ _)); have h_ := BK119.out; exact pK 0 (pK 2 (pK 1 (pK 0 (h_))))) hb); have n2_ := aA (below_step (mD2 GE117.out GE119.out) hb); clear BK117 BK119 HB; have BK117 := n0_; have BK119 := n1_; have HB := n2_; clear n0_ n1_ n2_; (try clear hb); (try clear hb2); (try clear hk); (try clear hi); obtain ⟨hcz116_0, hcz116_1, hcz116_2⟩ := bC3 BK117.out; obtain ⟨hfz116_0, hfz116_1, hfz116_2⟩ := bF3 BK117.out))
           refine bodyPost_ret (results_ct rfl _ _ gb117 32 #[.int .i64 0, .string (⟨#[]⟩ : ByteArray), .string (⟨#[]⟩ : ByteArray)] (0, 0) _ rfl (by (with_reducible repeat (first | refine blk_drewN ?_ _ | refine blk_drew ?_ | refine blk_alloc ?_ _)); have h_ := BK117.out; exact pK 2 (pK 1 (pK 0 (h_)))) Tryz.underlying32 rfl (by kernel_rfl)) rfl ?_
           exact ⟨by first | rfl | (simp [errW_none, errW_some] <;> rfl) | (simp only [← hji9]; first | rfl | (simp [errW_none, errW_some] <;> rfl)) | (simp [*, errW_none, errW_some] <;> rfl), by repeat (first | (with_reducible first | exact HB.out | apply below_alloc | apply pw_below_drewN | apply below_drew1 | refine below_set ?_ GE117.out | refine below_set ?_ GE119.out) | exact HB.out)⟩
      ·rw [if_neg c12] at H
       exact absurd H (by simp)
     ·rw [if_neg c11] at H
      exact absurd H (by simp)
    ·rw [if_neg c10] at H
     exact absurd H (by simp)
   ·rw [if_neg c8] at H
    exact absurd H (by simp)
  ·rw [if_neg c7] at H
   exact absurd H (by simp)
end Go.Proofs.YtjfknmlchdifjaaGreatDoorQ.P
namespace Go.Proofs.YtjfknmlchdifjaaGreatDoorQ.P
open Go.RowKit Go.Proofs.YtjfknmlchdifjaaGreatDoorW.PrintWords Go.Proofs.YtjfknmlchdifjaaGreatDoor
def wire_time.f (a0 : ByteArray) : Option (Int × Bool) := if a0.size ≤ 1000000 then some (atoiV a0.data.toList, atoiB a0.data.toList) else none
theorem wire_time.calls (a0 : ByteArray) (r1 : Int) (r2 : Bool) (w : World) (hG : GOK w) (h : wire_time.f a0 = some (r1, r2)) :
    Calls Tryz.prog 76 #[.string a0] w fun e w' => e = .returned (.tuple #[.int .i64 r1, .bool r2]) ∧ Below w.heap.size w w' := by
  obtain ⟨h1, h2⟩ := if_someP h
  simp only [Prod.mk.injEq] at h2
  obtain ⟨rfl, rfl⟩ := h2
  exact time_any a0 w hG h1
end Go.Proofs.YtjfknmlchdifjaaGreatDoorQ.P
namespace Go.Proofs.YtjfknmlchdifjaaGreatDoorQ.P
open Go.RowKit Go.Proofs.YtjfknmlchdifjaaGreatDoorW.PrintWords Go.Proofs.YtjfknmlchdifjaaGreatDoorW.PrintLast Go.Proofs.YtjfknmlchdifjaaGreatDoorW.PrintMore
attribute [local go_sem] max2_int min2_int max_two min_two max_three min_three max_four min_four
mutual
def wire_hush.j0 : Nat → List ByteArray → Bool → Int → Int → Option (Int × (List (S52)) × Int × Int × (List (S32)) × Int)
 | 0, _, _, _, _ => none
 | k + 1, x0, x36, x126000, x126001 => if x36 = true then (some (0, ([] : List (S52)), 0, 0, ([] : List (S32)), 13)) else (if 2 ≤ (x0.length : Int) then (wire_hush.l0 k (x0.drop 2) ((x0.drop 2).length : Int) 0 x126000 x126001 ([] : List (S32))) else (none))
def wire_hush.l0 : Nat → List ByteArray → Int → Int → Int → Int → List (S32) → Option (Int × (List (S52)) × Int × Int × (List (S32)) × Int)
 | 0, _, _, _, _, _, _ => none
 | k + 1, x39, x40, x41, x126000, x126001, x126002 => if x41 < x40 then (if 0 ≤ x41 then (if x41 < (x39.length : Int) then ((wire_Asked.f (rdOf ByteArray.empty x39 x41)).bind fun bt134 => (if bt134.2.2.2 = 0 then (if x126002.length < 3518437208883 then (wire_hush.l0 k x39 x40 (wrap64 (x41 + 1)) x126000 x126001 (x126002 ++ [(⟨bt134.1, bt134.2.1, bt134.2.2.1⟩ : S32)])) else (none)) else (some (0, ([] : List (S52)), 0, 0, ([] : List (S32)), bt134.2.2.2)))) else (none)) else (none)) else (if (x126002.length : Int) > 4 then (some (0, ([] : List (S52)), 0, 0, ([] : List (S32)), 2)) else (if x126000 ≥ x126001 then (some (0, ([] : List (S52)), 0, 0, ([] : List (S32)), 3)) else (some (2, ([] : List (S52)), x126000, x126001, x126002, 0))))
end
def wire_hush.f (k : Nat) (l0 : List ByteArray) : Option (Int × (List (S52)) × Int × Int × (List (S32)) × Int) := if (l0.length : Int) < 3 then (some (0, ([] : List (S52)), 0, 0, ([] : List (S32)), 12)) else (if 0 < (l0.length : Int) then ((wire_time.f (rdOf ByteArray.empty l0 0)).bind fun bt127 => (if 1 < (l0.length : Int) then ((wire_time.f (rdOf ByteArray.empty l0 1)).bind fun bt130 => (if bt127.2 = true then (wire_hush.j0 k l0 (!bt130.2) bt127.1 bt130.1) else (wire_hush.j0 k l0 true bt127.1 bt130.1))) else (none))) else (none))
theorem wire_hush.mono_l : ∀ k, (∀ y0 y1 y2 y3, LeO (wire_hush.j0 k y0 y1 y2 y3) (wire_hush.j0 (k + 1) y0 y1 y2 y3)) ∧ (∀ y0 y1 y2 y3 y4 y5, LeO (wire_hush.l0 k y0 y1 y2 y3 y4 y5) (wire_hush.l0 (k + 1) y0 y1 y2 y3 y4 y5))
 | 0 => ⟨fun _ _ _ _ r h => by simp [wire_hush.j0] at h, fun _ _ _ _ _ _ r h => by simp [wire_hush.l0] at h⟩
 | k + 1 => by
  obtain ⟨ih0, ih1⟩ := wire_hush.mono_l k
  refine ⟨?_, ?_⟩
  ·intro y0 y1 y2 y3
   unfold wire_hush.j0
   repeat' first
   | (with_reducible exact ih0 _ _ _ _)
   | (with_reducible exact ih1 _ _ _ _ _ _)
   | (with_reducible exact LeO.refl _)
   | (with_reducible exact LeO.none _)
   | (with_reducible refine LeO.ite ?_ ?_)
   | (with_reducible refine LeO.bind ?_ (fun _ => ?_))
   | exact ih0 _ _ _ _
   | exact ih1 _ _ _ _ _ _
   | exact LeO.none _
   | refine LeO.ite ?_ ?_
   | refine LeO.bind ?_ (fun _ => ?_)
  ·intro y0 y1 y2 y3 y4 y5
   unfold wire_hush.l0
   repeat' first
   | (with_reducible exact ih0 _ _ _ _)
   | (with_reducible exact ih1 _ _ _ _ _ _)
   | (with_reducible exact LeO.refl _)
   | (with_reducible exact LeO.none _)
   | (with_reducible refine LeO.ite ?_ ?_)
   | (with_reducible refine LeO.bind ?_ (fun _ => ?_))
   | exact ih0 _ _ _ _
   | exact ih1 _ _ _ _ _ _
   | exact LeO.none _
   | refine LeO.ite ?_ ?_
   | refine LeO.bind ?_ (fun _ => ?_)
theorem wire_hush.mono : ∀ a0 k, LeO (wire_hush.f k a0) (wire_hush.f (k + 1) a0) := by
 intro a0 k
 obtain ⟨ih0, ih1⟩ := wire_hush.mono_l k
 unfold wire_hush.f
 repeat' first
   | (with_reducible exact ih0 _ _ _ _)
   | (with_reducible exact ih1 _ _ _ _ _ _)
   | (with_reducible exact LeO.refl _)
   | (with_reducible exact LeO.none _)
   | (with_reducible refine LeO.ite ?_ ?_)
   | (with_reducible refine LeO.bind ?_ (fun _ => ?_))
   | exact ih0 _ _ _ _
   | exact ih1 _ _ _ _ _ _
   | exact LeO.none _
   | refine LeO.ite ?_ ?_
   | refine LeO.bind ?_ (fun _ => ?_)
set_option maxHeartbeats 8000000 in
set_option maxRecDepth 100000 in
theorem wire_hush.calls (k : Nat) (A0 : Option Addr) (c0 : Nat) (l0 : List ByteArray) (r1 : Int) (r2 : List (S52)) (r3 : Int) (r4 : Int) (r5 : List (S32)) (r6 : Int) (w : World) (hG : GOK w) (hr0 : Kd.C Kd.string w A0 l0.length l0) (hc0 : l0.length ≤ c0) (h : wire_hush.f k l0 = some (r1, r2, r3, r4, r5, r6)) :
  Calls Tryz.prog 36 #[.slice A0 l0.length c0] w fun e w' => ∃ v1_ v4_ : Value, e = .returned (.tuple #[.agg #[.int .i64 r1, v1_, .int .i64 r3, .int .i64 r4, v4_], .int .i64 r6]) ∧ Kd.R k52 52 w' w.heap.size (fun _ => True) v1_ r2 ∧ Kd.R k32 32 w' w.heap.size (fun _ => True) v4_ r5 ∧ Below w.heap.size w w' := by
 have hu27 := Tryz.underlying27
 have hu25 := Tryz.underlying25
 have hu32 := Tryz.underlying32
 have HR0 := aA hr0
 have HC0 := aA hc0
 clear hr0 hc0
 have HG := aA hG
 clear hG
 have HB := aA (Below.refl w.heap.size w)
 have H : (if (l0.length : Int) < 3 then (some (0, ([] : List (S52)), 0, 0, ([] : List (S32)), 12)) else (if 0 < (l0.length : Int) then ((wire_time.f (rdOf ByteArray.empty l0 0)).bind fun bt127 => (if 1 < (l0.length : Int) then ((wire_time.f (rdOf ByteArray.empty l0 1)).bind fun bt130 => (if bt127.2 = true then (wire_hush.j0 k l0 (!bt130.2) bt127.1 bt130.1) else (wire_hush.j0 k l0 true bt127.1 bt130.1))) else (none))) else (none))) = some (r1, r2, r3, r4, r5, r6) := h
 clear h
 by_cases c2 : (l0.length : Int) < 3
 ·rw [if_pos c2] at H
  have c2b0 : decide ((l0.length : Int) < 3) = true := decide_eq_true c2
  have c2b1 : decide (l0.length < 3) = true := decide_eq_true (by omega)
  clear c2
  simp only [Option.some.injEq, Prod.mk.injEq] at H
  obtain ⟨rfl, rfl, rfl, rfl, rfl, rfl⟩ := H
  go_enter Tryz.func36, Tryz.ntmps36
  go_wp2_with (first | ((with_reducible refine gate_dst (N := 2) rfl ?_); refine box_event ?hg (N := 2) ?hd (cs := #[.int .i64 0, .slice none 0 0, .int .i64 0, .int .i64 0, .slice none 0 0]) (t := 27) ?hr ?_; (case hd => rfl); (case hg => rfl); (case hr => first | (go_simp; done) | (go_simp; rfl)); intro gb124 hg w3 hbox hb; have n0_ := aA (below_step mB hb); have n1_ := aA (hbox); have n2_ := aA ((bZ hg mB)); have n3_ := aA ((bZ hg mB)); clear HB; have HB := n0_; have BK124 := n1_; have GW124 := n2_; have GE124 := n3_; clear n0_ n1_ n2_ n3_ hb hbox hg; obtain ⟨hcz4_0, hcz4_1, hcz4_2, hcz4_3, hcz4_4⟩ := bC5 BK124.out; obtain ⟨hfz4_0, hfz4_1, hfz4_2, hfz4_3, hfz4_4⟩ := bF5 BK124.out))
  refine bodyPost_ret (results_ct rfl _ _ gb124 27 #[.int .i64 0, .slice none 0 0, .int .i64 0, .int .i64 0, .slice none 0 0] (0, 0) _ rfl (by (with_reducible repeat (first | refine blk_drewN ?_ _ | refine blk_drew ?_ | refine blk_alloc ?_ _)); have h_ := BK124.out; exact pK 4 (pK 3 (pK 2 (pK 1 (pK 0 (h_)))))) Tryz.underlying27 rfl (by kernel_rfl)) rfl ?_
  exact ⟨_, _, by first | rfl | (simp [errW_none, errW_some] <;> rfl) | (simp [*, errW_none, errW_some] <;> rfl), by first | exact Kd.R_nil _ _ _ _ _ | exact Kd.N_nil _ _ _ _ _ | exact Kd.V_nil _ _ _ _ _ | exact Kd.Q_nil _ _ _ _ _ | exact Kd.S_nil _ _ _ _ _, by first | exact Kd.R_nil _ _ _ _ _ | exact Kd.N_nil _ _ _ _ _ | exact Kd.V_nil _ _ _ _ _ | exact Kd.Q_nil _ _ _ _ _ | exact Kd.S_nil _ _ _ _ _, by repeat (first | (with_reducible first | exact HB.out | apply below_alloc | apply pw_below_drewN | apply below_drew1 | refine below_set ?_ GE124.out) | exact HB.out)⟩
 ·rw [if_neg c2] at H
  have c2b0 : decide ((l0.length : Int) < 3) = false := decide_eq_false c2
  have c2b1 : decide (l0.length < 3) = false := decide_eq_false (by omega)
  clear c2
  by_cases c5 : 0 < (l0.length : Int)
  ·rw [if_pos c5] at H
   have c5b0 : decide (0 < (l0.length : Int)) = true := decide_eq_true c5
   have c5b1 : decide (0 < l0.length) = true := decide_eq_true (by omega)
   clear c5
   replace H := Option.bind_eq_some_iff.mp H
   obtain ⟨⟨t127, t128⟩, A60, H⟩ := H
   replace H : (if 1 < (l0.length : Int) then ((wire_time.f (rdOf ByteArray.empty l0 1)).bind fun bt130 => (if t128 = true then (wire_hush.j0 k l0 (!bt130.2) t127 bt130.1) else (wire_hush.j0 k l0 true t127 bt130.1))) else (none)) = some (r1, r2, r3, r4, r5, r6) := H
   have A6 := aA A60
   clear A60
   by_cases c7 : 1 < (l0.length : Int)
   ·rw [if_pos c7] at H
    have c7b0 : decide (1 < (l0.length : Int)) = true := decide_eq_true c7
    have c7b1 : decide (1 < l0.length) = true := decide_eq_true (by omega)
    clear c7
    replace H := Option.bind_eq_some_iff.mp H
    obtain ⟨⟨t130, t131⟩, A80, H⟩ := H
    replace H : (if t128 = true then (wire_hush.j0 k l0 (!t131) t127 t130) else (wire_hush.j0 k l0 true t127 t130)) = some (r1, r2, r3, r4, r5, r6) := H
    have A8 := aA A80
    clear A80
    have HC9 := aA H
    clear H
    go_enter Tryz.func36, Tryz.ntmps36
    go_upto_region 7 with (first | ((with_reducible refine gate_dst (N := 2) rfl ?_); refine box_event ?hg (N := 2) ?hd (cs := #[.int .i64 0, .slice none 0 0, .int .i64 0, .int .i64 0, .slice none 0 0]) (t := 27) ?hr ?_; (case hd => rfl); (case hg => rfl); (case hr => first | (go_simp; done) | (go_simp; rfl)); intro gb124 hg w10 hbox hb; have n0_ := aA (below_step mB hb); have n1_ := aA (hbox); have n2_ := aA ((bZ hg mB)); have n3_ := aA ((bZ hg mB)); clear HB; have HB := n0_; have BK124 := n1_; have GW124 := n2_; have GE124 := n3_; clear n0_ n1_ n2_ n3_ hb hbox hg) | ((with_reducible refine gate_dst (N := 4) rfl ?_); refine box_event ?hg (N := 4) ?hd (cs := #[.int .i64 0, .int .i64 0, .slice none 0 0]) (t := 25) ?hr ?_; (case hd => rfl); (case hg => rfl); (case hr => first | (go_simp; done) | (go_simp; rfl)); intro gb125 hg w11 hbox hb; have n0_ := aA (bB BK124.out hb); have n1_ := aA (below_step (mD1 GE124.out) hb); have n2_ := aA (hbox); have n3_ := aA ((bZ hg (mD1 GE124.out))); have n4_ := aA ((bZ hg (mD1 GE124.out))); have n5_ := aA ((bL hg BK124.out)); have n6_ := aA ((bG hg BK124.out)); clear BK124 HB; have BK124 := n0_; have HB := n1_; have BK125 := n2_; have GW125 := n3_; have GE125 := n4_; have NB124_125 := n5_; have NB125_124 := n6_; clear n0_ n1_ n2_ n3_ n4_ n5_ n6_ hb hbox hg; have p126 : 0 ≤ (0 : Int) := (by omega); have q126 : 0 < (l0.length : Int) := of_decide_eq_true (by first | (with_reducible assumption) | assumption); obtain ⟨ad126, e126, hx126_0⟩ := Kd.at_string HR0.out 0 p126 q126; cases e126; have qi126 : (0 < l0.length) = True := eq_true (by omega); (try rw [show ((0 : Int)).toNat = 0 from rfl] at hx126_0); (try rw [Addr.add_zero'] at hx126_0); replace hx126_0 := (HB.out.cell (World.block_lt_of_cell? w _ hx126_0)).trans hx126_0; replace p126 := eq_true p126; replace q126 := eq_true q126) | ((with_reducible refine gate_callee (f := 76) rfl ?_); refine goesL_ (some 19) rfl rfl Tryz.func76 (by kernel_rfl) rfl #[.string (rdOf ByteArray.empty l0 0)] rfl mS ?_; (with_reducible refine (wire_time.calls (rdOf ByteArray.empty l0 0) t127 t128 _ ?side1 A6.out).mono ?_); (case side1 => exact gok_below HG.out (mD2 GE124.out GE125.out)); rintro e w12 ⟨rfl, hb⟩; refine ⟨_, rfl, ?_⟩; have n0_ := aA (bB BK124.out hb); have n1_ := aA (bB BK125.out hb); have n2_ := aA (below_step (mD2 GE124.out GE125.out) hb); clear BK124 BK125 HB; have BK124 := n0_; have BK125 := n1_; have HB := n2_; clear n0_ n1_ n2_; (try clear hb); (try clear hb2); (try clear hk); (try clear hi); have hnb13 := NB125_124.out; have hnc13 := NB124_125.out; obtain ⟨hcz14_0, hcz14_1, hcz14_2⟩ := bC3 BK125.out; obtain ⟨hfz14_0, hfz14_1, hfz14_2⟩ := bF3 BK125.out; have p129 : 0 ≤ (1 : Int) := (by omega); have q129 : 1 < (l0.length : Int) := of_decide_eq_true (by first | (with_reducible assumption) | assumption); obtain ⟨ad129, e129, hx129_0⟩ := Kd.at_string HR0.out 1 p129 q129; obtain rfl : ad126 = ad129 := (by injection e129); (try simp only [show (1 : Int).toNat = 1 from rfl, Nat.reduceMul, Nat.reduceEqDiff, Go.Addr.add, ↓reduceIte] at hx129_0); have qi129 : (1 < l0.length) = True := eq_true (by omega); (try rw [show ((1 : Int)).toNat = 1 from rfl] at hx129_0); have hn129_0 : ad126.block ≠ gb125 := Nat.ne_of_lt (Nat.lt_of_lt_of_le (by have := World.block_lt_of_cell? _ _ hx129_0; first | rwa [add_block] at this | exact this) GW125.out); replace hx129_0 := (HB.out.cell (World.block_lt_of_cell? w _ hx129_0)).trans hx129_0; replace hx129_0 := (cell_far (p := ⟨gb125, 0, none⟩) (by first | (rw [add_block]; exact hn129_0) | (show (Addr.add _ _).block ≠ _; rw [add_block]; exact hn129_0) | exact hn129_0) (.int .i64 t127)).trans hx129_0; clear hn129_0; replace p129 := eq_true p129; replace q129 := eq_true q129) | ((with_reducible refine gate_callee (f := 76) rfl ?_); refine goesL_ (some 27) rfl rfl Tryz.func76 (by kernel_rfl) rfl #[.string (rdOf ByteArray.empty l0 1)] rfl mS ?_; (with_reducible refine (wire_time.calls (rdOf ByteArray.empty l0 1) t130 t131 _ ?side1 A8.out).mono ?_); (case side1 => exact gok_below HG.out (mD2 GE124.out GE125.out)); rintro e w15 ⟨rfl, hb⟩; refine ⟨_, rfl, ?_⟩; have n0_ := aA (blk_below (g := gb124) (o := .cells #[.int .i64 0, .slice none 0 0, .int .i64 0, .int .i64 0, .slice none 0 0] 27 (0, 0)) (by (with_reducible repeat (first | refine blk_drewN ?_ _ | refine blk_drew ?_ | refine blk_alloc ?_ _)); refine blk_far ?_ NB124_125.out _; (with_reducible repeat (first | refine blk_drewN ?_ _ | refine blk_drew ?_ | refine blk_alloc ?_ _)); exact BK124.out) hb); have n1_ := aA (blk_below (g := gb125) (o := .cells #[.int .i64 t127, .int .i64 0, .slice none 0 0] 25 (0, 0)) (by (with_reducible repeat (first | refine blk_drewN ?_ _ | refine blk_drew ?_ | refine blk_alloc ?_ _)); have h_ := BK125.out; exact pK 0 (h_)) hb); have n2_ := aA (below_step (mD2 GE124.out GE125.out) hb); clear BK124 BK125 HB; have BK124 := n0_; have BK125 := n1_; have HB := n2_; clear n0_ n1_ n2_; (try clear hb); (try clear hb2); (try clear hk); (try clear hi); obtain ⟨hcz16_0, hcz16_1, hcz16_2⟩ := bC3 BK125.out; obtain ⟨hfz16_0, hfz16_1, hfz16_2⟩ := bF3 BK125.out))
    (try simp only [Act.put, List.setIfInBounds_toArray, List.set_cons_zero, List.set_cons_succ])
    go_cut [36] (fun v36 wc => ∃ (kq : Nat) (x36_8 : Bool), v36 = .bool x36_8 ∧ Aside0 (wire_hush.j0 kq l0 x36_8 t127 t130 = some (r1, r2, r3, r4, r5, r6)) ∧ Aside0 (kq ≤ k) ∧ Aside0 (wc.heap[gb124]? = some (.cells #[.int .i64 0, (.slice none 0 0), .int .i64 0, .int .i64 0, (.slice none 0 0)] 27 (0, 0))) ∧ Aside0 (wc.heap[gb125]? = some (.cells #[.int .i64 t127, .int .i64 t130, (.slice none 0 0)] 25 (0, 0))) ∧ Aside0 (Below w.heap.size w wc))
    case first =>
     have H := HC9.out
     clear HC9
     by_cases c17 : t128 = true
     ·subst c17
      have H1 : (wire_hush.j0 k l0 (!t131) t127 t130) = some (r1, r2, r3, r4, r5, r6) := by rw [if_pos rfl] at H; exact H
      clear H
      have H := H1
      clear H1
      have H' := aA H
      clear H
      go_wp2
      go_meet
      case rel => exact ⟨_, (!t131), (by first | rfl | (simp; done) | (simp [*]; done)), H', ⟨by first | omega | exact Nat.le_refl _⟩, ⟨by (with_reducible repeat (first | refine blk_drewN ?_ _ | refine blk_drew ?_ | refine blk_alloc ?_ _)); refine blk_far ?_ NB124_125.out _; (with_reducible repeat (first | refine blk_drewN ?_ _ | refine blk_drew ?_ | refine blk_alloc ?_ _)); exact BK124.out⟩, ⟨by (with_reducible repeat (first | refine blk_drewN ?_ _ | refine blk_drew ?_ | refine blk_alloc ?_ _)); refine blk_put (cs := #[.int .i64 t127, .int .i64 0, .slice none 0 0]) ?_ 1 _ rfl; (with_reducible repeat (first | refine blk_drewN ?_ _ | refine blk_drew ?_ | refine blk_alloc ?_ _)); exact BK125.out⟩, ⟨by repeat (first | (with_reducible first | exact HB.out | apply below_alloc | apply pw_below_drewN | apply below_drew1 | refine below_set ?_ GE124.out | refine below_set ?_ GE125.out) | exact HB.out)⟩⟩
     ·replace c17 := Bool.eq_false_iff.mpr c17
      subst c17
      have H1 : (wire_hush.j0 k l0 true t127 t130) = some (r1, r2, r3, r4, r5, r6) := by rw [if_neg (show ¬ (false = true) by decide)] at H; exact H
      clear H
      have H := H1
      clear H1
      have H' := aA H
      clear H
      go_wp2
      go_meet
      case rel => exact ⟨_, (true), (by first | rfl | (simp; done) | (simp [*]; done)), H', ⟨by first | omega | exact Nat.le_refl _⟩, ⟨by (with_reducible repeat (first | refine blk_drewN ?_ _ | refine blk_drew ?_ | refine blk_alloc ?_ _)); refine blk_far ?_ NB124_125.out _; (with_reducible repeat (first | refine blk_drewN ?_ _ | refine blk_drew ?_ | refine blk_alloc ?_ _)); exact BK124.out⟩, ⟨by (with_reducible repeat (first | refine blk_drewN ?_ _ | refine blk_drew ?_ | refine blk_alloc ?_ _)); refine blk_put (cs := #[.int .i64 t127, .int .i64 0, .slice none 0 0]) ?_ 1 _ rfl; (with_reducible repeat (first | refine blk_drewN ?_ _ | refine blk_drew ?_ | refine blk_alloc ?_ _)); exact BK125.out⟩, ⟨by repeat (first | (with_reducible first | exact HB.out | apply below_alloc | apply pw_below_drewN | apply below_drew1 | refine below_set ?_ GE124.out | refine below_set ?_ GE125.out) | exact HB.out)⟩⟩
    case rest =>
     clear HC9
     try clear c1
     try clear p1
     try clear q1
     try clear hx1
     try clear qi1
     try clear c2
     try clear c2b0
     try clear c2b1
     try clear p2
     try clear c3
     try clear c5
     try clear c5b0
     try clear c5b1
     try clear c7
     try clear c7b0
     try clear c7b1
     try clear p12
     try clear q12
     try clear hx12
     try clear qi12
     try clear c13
     try clear c17
     try clear hcz14_0 hcz14_1 hcz14_2
     try clear hcz16_0 hcz16_1 hcz16_2
     try clear hcz4_0 hcz4_1 hcz4_2 hcz4_3 hcz4_4
     try clear hfz14_0 hfz14_1 hfz14_2
     try clear hfz16_0 hfz16_1 hfz16_2
     try clear hfz4_0 hfz4_1 hfz4_2 hfz4_3 hfz4_4
     try clear hx126_0
     try clear hx129_0
     try clear p126
     try clear p129
     try clear q126
     try clear q129
     obtain ⟨kq, x36_8, rfl, HA, HJ8, BK124, BK125, HB⟩ := hcut
     cases kq with
     | zero => exact absurd HA.out (by simp [wire_hush.j0])
     | succ kj8 =>
      have H := HA.out
      clear HA
      simp only [wire_hush.j0] at H
      by_cases c18 : x36_8 = true
      ·subst c18
       have H1 : (some (0, ([] : List (S52)), 0, 0, ([] : List (S32)), 13)) = some (r1, r2, r3, r4, r5, r6) := by rw [if_pos rfl] at H; exact H
       clear H
       have H := H1
       clear H1
       simp only [Option.some.injEq, Prod.mk.injEq] at H
       obtain ⟨rfl, rfl, rfl, rfl, rfl, rfl⟩ := H
       have hnb19 := NB124_125.out
       have hnc19 := NB125_124.out
       obtain ⟨hcz20_0, hcz20_1, hcz20_2, hcz20_3, hcz20_4⟩ := bC5 BK124.out
       obtain ⟨hfz20_0, hfz20_1, hfz20_2, hfz20_3, hfz20_4⟩ := bF5 BK124.out
       go_wp2
       refine bodyPost_ret (results_ct rfl _ _ gb124 27 #[.int .i64 0, .slice none 0 0, .int .i64 0, .int .i64 0, .slice none 0 0] (0, 0) _ rfl (by (with_reducible repeat (first | refine blk_drewN ?_ _ | refine blk_drew ?_ | refine blk_alloc ?_ _)); have h_ := BK124.out; exact pK 4 (pK 3 (pK 2 (pK 1 (pK 0 (h_)))))) Tryz.underlying27 rfl (by kernel_rfl)) rfl ?_
       exact ⟨_, _, by first | rfl | (simp [errW_none, errW_some] <;> rfl) | (simp [*, errW_none, errW_some] <;> rfl), by first | exact Kd.R_nil _ _ _ _ _ | exact Kd.N_nil _ _ _ _ _ | exact Kd.V_nil _ _ _ _ _ | exact Kd.Q_nil _ _ _ _ _ | exact Kd.S_nil _ _ _ _ _, by first | exact Kd.R_nil _ _ _ _ _ | exact Kd.N_nil _ _ _ _ _ | exact Kd.V_nil _ _ _ _ _ | exact Kd.Q_nil _ _ _ _ _ | exact Kd.S_nil _ _ _ _ _, by repeat (first | (with_reducible first | exact HB.out | apply below_alloc | apply pw_below_drewN | apply below_drew1 | refine below_set ?_ GE124.out | refine below_set ?_ GE125.out) | exact HB.out)⟩
      ·replace c18 := Bool.eq_false_iff.mpr c18
       subst c18
       have H1 : (if 2 ≤ (l0.length : Int) then (wire_hush.l0 kj8 (l0.drop 2) ((l0.drop 2).length : Int) 0 t127 t130 ([] : List (S32))) else (none)) = some (r1, r2, r3, r4, r5, r6) := by rw [if_neg (show ¬ (false = true) by decide)] at H; exact H
       clear H
       have H := H1
       clear H1
       by_cases c21 : 2 ≤ (l0.length : Int)
       ·rw [if_pos c21] at H
        have c21b0 := eq_true c21
        have c21b1 := decide_eq_true c21
        clear c21
        have H' := aA H
        clear H
        obtain ⟨i022, hi022, _, hsz22, _⟩ := info_parts info9
        obtain ⟨A22, hcut22, hA22, hC22⟩ := print_drop_of (P := Tryz.prog) Value.string (⟨#[]⟩ : ByteArray) 67 9 .i64 Tryz.underlying67 hi022 hsz22 (some ad126) c0 l0 2 (by omega) (of_decide_eq_true (by first | (with_reducible assumption) | assumption)) HC0.out
        have HR132 := aA (Kd.C_of_reads (h1 := fun _ => rfl) (hA22 _ (Kd.reads_of_C HR0.out)))
        have HC132 := aA hC22
        clear hA22 hC22 hi022 hsz22
        go_wp2
        go_loopg [41] kj8 (fun kq v41 w' => ∃ (x41_2 : Int) (x125000_2 : Int) (x125002_2 : Int) (x125003_2 : Int) (x126002_2 : List (S32)) (u126002 : Value), v41 = .int .i64 x41_2 ∧ Aside0 (wire_hush.l0 kq (l0.drop 2) ((l0.drop 2).length : Int) x41_2 t127 t130 x126002_2 = some (r1, r2, r3, r4, r5, r6)) ∧ Aside0 (kq ≤ kj8) ∧ Aside0 (Kd.R k32 32 w' w.heap.size (fun _ => True) u126002 x126002_2) ∧ Aside0 (w'.heap[gb124]? = some (.cells #[.int .i64 x125000_2, (.slice none 0 0), .int .i64 x125002_2, .int .i64 x125003_2, (.slice none 0 0)] 27 (0, 0))) ∧ Aside0 (w'.heap[gb125]? = some (.cells #[.int .i64 t127, .int .i64 t130, u126002] 25 (0, 0))) ∧ Aside0 (Below w.heap.size w w'))
        case atStart => exact ⟨(0), (0), (0), (0), (([] : List (S32))), (.slice none 0 0), (by first | rfl | (simp; done) | (simp [*]; done)), H', ⟨Nat.le_refl _⟩, ⟨by first | exact Kd.R_nil _ _ _ _ _ | exact Kd.N_nil _ _ _ _ _ | exact Kd.V_nil _ _ _ _ _ | exact Kd.Q_nil _ _ _ _ _ | exact Kd.S_nil _ _ _ _ _⟩, ⟨by (with_reducible repeat (first | refine blk_drewN ?_ _ | refine blk_drew ?_ | refine blk_alloc ?_ _)); exact BK124.out⟩, ⟨by (with_reducible repeat (first | refine blk_drewN ?_ _ | refine blk_drew ?_ | refine blk_alloc ?_ _)); exact BK125.out⟩, ⟨by repeat (first | (with_reducible first | exact HB.out | apply below_alloc | apply pw_below_drewN | apply below_drew1 | refine below_set ?_ GE124.out | refine below_set ?_ GE125.out) | exact HB.out)⟩⟩
        case round =>
         clear H'
         try clear c1
         try clear p1
         try clear q1
         try clear hx1
         try clear qi1
         try clear c2
         try clear c2b0
         try clear c2b1
         try clear p2
         try clear c3
         try clear c5
         try clear c5b0
         try clear c5b1
         try clear c7
         try clear c7b0
         try clear c7b1
         try clear p12
         try clear q12
         try clear hx12
         try clear qi12
         try clear c13
         try clear c17
         try clear c18
         try clear c19
         try clear c21
         try clear c21b0
         try clear c21b1
         try clear hcz14_0 hcz14_1 hcz14_2
         try clear hcz16_0 hcz16_1 hcz16_2
         try clear hcz20_0 hcz20_1 hcz20_2 hcz20_3 hcz20_4
         try clear hcz4_0 hcz4_1 hcz4_2 hcz4_3 hcz4_4
         try clear hfz14_0 hfz14_1 hfz14_2
         try clear hfz16_0 hfz16_1 hfz16_2
         try clear hfz20_0 hfz20_1 hfz20_2 hfz20_3 hfz20_4
         try clear hfz4_0 hfz4_1 hfz4_2 hfz4_3 hfz4_4
         try clear hx126_0
         try clear hx129_0
         try clear p1
         try clear p12
         try clear p126
         try clear p129
         try clear p2
         try clear q1
         try clear q12
         try clear q126
         try clear q129
         obtain ⟨x41_2, x125000_2, x125002_2, x125003_2, x126002_2, u126002, rfl, HA, HK2, HO_126002, BK124, BK125, HB⟩ := hrel
         cases gk with
         | zero => exact absurd HA.out (by simp [wire_hush.l0])
         | succ k2 =>
          have H := HA.out
          clear HA
          simp only [wire_hush.l0] at H
          by_cases c23 : x41_2 < ((l0.drop 2).length : Int)
          ·rw [if_pos c23] at H
           have c23b0 : decide (x41_2 < ((l0.drop 2).length : Int)) = true := decide_eq_true c23
           have c23b0d : decide (x41_2 < ((l0.length - 2 : Nat) : Int)) = true := by have h_ := c23b0; rw [List.length_drop] at h_; exact h_
           clear c23
           by_cases c24 : 0 ≤ x41_2
           ·rw [if_pos c24] at H
            have c24b0 : decide (0 ≤ x41_2) = true := decide_eq_true c24
            clear c24
            by_cases c25 : x41_2 < ((l0.drop 2).length : Int)
            ·rw [if_pos c25] at H
             have c25b0 : decide (x41_2 < ((l0.drop 2).length : Int)) = true := decide_eq_true c25
             have c25b0d : decide (x41_2 < ((l0.length - 2 : Nat) : Int)) = true := by have h_ := c25b0; rw [List.length_drop] at h_; exact h_
             clear c25
             replace H := Option.bind_eq_some_iff.mp H
             obtain ⟨⟨t134, t135, t136, t137⟩, A260, H⟩ := H
             replace H : (if t137 = 0 then (if x126002_2.length < 3518437208883 then (wire_hush.l0 k2 (l0.drop 2) ((l0.drop 2).length : Int) (wrap64 (x41_2 + 1)) t127 t130 (x126002_2 ++ [(⟨t134, t135, t136⟩ : S32)])) else (none)) else (some (0, ([] : List (S52)), 0, 0, ([] : List (S32)), t137))) = some (r1, r2, r3, r4, r5, r6) := H
             have A26 := aA A260
             clear A260
             by_cases c27 : t137 = 0
             ·rw [if_pos c27] at H
              have c27b0 : (t137 == 0) = true := beq_iff_eq.mpr c27
              have c27b1 : (t137 != 0) = false := bne_eq_false_iff_eq.mpr c27
              clear c27
              by_cases c28 : x126002_2.length < 3518437208883
              ·rw [if_pos c28] at H
               have LMc28 := aA c28
               clear c28
               obtain ⟨y139, hy139⟩ : ∃ y_ : List (S32), y_ = (x126002_2 ++ [(⟨t134, t135, t136⟩ : S32)]) := ⟨_, rfl⟩
               replace H : (wire_hush.l0 k2 (l0.drop 2) ((l0.drop 2).length : Int) (wrap64 (x41_2 + 1)) t127 t130 y139) = some (r1, r2, r3, r4, r5, r6) := by first | (rw [hy139]; with_reducible exact H) | (have H2_ := (Option.bind_some _ _).symm.trans H; rw [hy139]; with_reducible exact H2_) | (have H2_ := (Option.bind_some _ _).symm.trans H; with_reducible exact H2_) | with_reducible exact H | (rw [hy139]; exact H) | exact H
               have Ny139 := aA hy139
               clear hy139
               have H' := aA H
               clear H
               have p133 : 0 ≤ (x41_2 : Int) := of_decide_eq_true (by first | (with_reducible assumption) | assumption)
               have q133 : x41_2 < ((l0.drop 2).length : Int) := of_decide_eq_true (by first | (with_reducible assumption) | assumption)
               have q133e : (x41_2 < ((l0.length - 2 : Nat) : Int)) = True := eq_true (by have h_ := q133; rw [List.length_drop] at h_; exact h_)
               obtain ⟨ad133, e133, hx133_0⟩ := Kd.at_string HR132.out x41_2 p133 q133
               cases e133
               replace hx133_0 := (HB.out.cell (World.block_lt_of_cell? w _ hx133_0)).trans hx133_0
               replace p133 := eq_true p133
               replace q133 := eq_true q133
               go_wp2_with (first | ((with_reducible refine gate_callee (f := 12) rfl ?_); refine goesL_ (some 47) rfl rfl Tryz.func12 (by kernel_rfl) rfl #[.string (rdOf ByteArray.empty (l0.drop 2) x41_2)] rfl mS ?_; (with_reducible refine (wire_Asked.calls (rdOf ByteArray.empty (l0.drop 2) x41_2) t134 t135 t136 t137 _ A26.out).mono ?_); rintro e w29 ⟨rfl, hb⟩; refine ⟨_, rfl, ?_⟩; have n0_ := aA (Kd.R_below (mR HO_126002.out) hb); have n1_ := aA (bB BK124.out hb); have n2_ := aA (bB BK125.out hb); have n3_ := aA (below_step (mD2 GE124.out GE125.out) hb); clear HO_126002 BK124 BK125 HB; have HO_126002 := n0_; have BK124 := n1_; have BK125 := n2_; have HB := n3_; clear n0_ n1_ n2_ n3_; (try clear hb); (try clear hb2); (try clear hk); (try clear hi)) | ((with_reducible refine gate_dst (N := 9) rfl ?_); refine box_event ?hg (N := 9) ?hd (cs := #[.int .i64 0, .string (⟨#[]⟩ : ByteArray), .string (⟨#[]⟩ : ByteArray)]) (t := 32) ?hr ?_; (case hd => rfl); (case hg => rfl); (case hr => first | (go_simp; done) | (go_simp; rfl)); intro gb138 hg w30 hbox hb; have n0_ := aA (Kd.R_below (Kd.R_elderB (mR HO_126002.out) gb138 (Nat.le_of_eq hg.symm)) hb); have n1_ := aA (bB BK124.out hb); have n2_ := aA (bB BK125.out hb); have n3_ := aA (below_step (mD2 GE124.out GE125.out) hb); have n4_ := aA (hbox); have n5_ := aA ((bZ hg (mD2 GE124.out GE125.out))); have n6_ := aA ((bZ hg (mD2 GE124.out GE125.out))); have n7_ := aA ((bL hg BK124.out)); have n8_ := aA ((bG hg BK124.out)); have n9_ := aA ((bL hg BK125.out)); have n10_ := aA ((bG hg BK125.out)); clear HO_126002 BK124 BK125 HB; have HO_126002 := n0_; have BK124 := n1_; have BK125 := n2_; have HB := n3_; have BK138 := n4_; have GW138 := n5_; have GE138 := n6_; have NB124_138 := n7_; have NB138_124 := n8_; have NB125_138 := n9_; have NB138_125 := n10_; clear n0_ n1_ n2_ n3_ n4_ n5_ n6_ n7_ n8_ n9_ n10_ hb hbox hg; have hnb31 := NB138_124.out; have hnc31 := NB124_138.out; have hnb32 := NB138_125.out; have hnc32 := NB125_138.out; obtain ⟨hcz33_0, hcz33_1, hcz33_2⟩ := bC3 BK138.out; obtain ⟨hfz33_0, hfz33_1, hfz33_2⟩ := bF3 BK138.out; have hnb34 := NB125_124.out; have hnc34 := NB124_125.out; obtain ⟨hcz35_0, hcz35_1, hcz35_2⟩ := bC3 BK125.out; obtain ⟨hfz35_0, hfz35_1, hfz35_2⟩ := bF3 BK125.out) | ((with_reducible refine gate_builtin (b := .append) (xs := #[.tmp 55, .tmp 57]) rfl ?_); at_builtin; refine Kd.R_append k32 (w0 := w) w.heap.size rfl (.tmp 55) (.tmp 57) 23 32 (.agg #[(.int .i64 0), (.string ⟨#[]⟩), (.string ⟨#[]⟩)]) 40 rfl Tryz.underlying23 info32 rfl (by decide) (by omega) u126002 x126002_2 (⟨t134, t135, t136⟩ : S32) [.int .i64 t134, .string t135, .string t136] (fun k_ => k_ ≠ gb138) (fun _ => False) rfl (by first | (go_simp; done) | (go_simp; rfl)) ?aP (fun _ hk => hk.elim) ?aF ?aO ?aB ?aS ?aL ?_; (case aP => exact k32_mkM _ _ _ (⟨t134, t135, t136⟩ : S32)); (case aB => exact (mD3 GE124.out GE125.out GE138.out)); (case aF => exact (fun k_ hk => Kd.freshB (g := gb138) (o := .cells #[.int .i64 t134, .string t135, .string t136] 32 (0, 0)) (by (with_reducible repeat (first | refine blk_drewN ?_ _ | refine blk_drew ?_ | refine blk_alloc ?_ _)); have h_ := BK138.out; exact pK 2 (pK 1 (pK 0 (h_)))) k_ hk)); (case aO => exact (by (with_reducible repeat (first | apply Kd.R_alloc | apply Kd.R_drewN | apply Kd.R_drew)); exact Kd.R_mono (rF 2 (rF 1 (rF 0 (Kd.R_mono HO_126002.out (fun k_ hk => (⟨hk, hk.2⟩ : _ ∧ k_ ≠ gb138)))))) (fun _ hk => hk.1.2))); (case aS => exact (below_size (mD3 GE124.out GE125.out GE138.out))); (case aL => have := LMc28.out; omega); intro v140 w36 ho hb hg hat; rw [← Ny139.out] at ho; have n0_ := aA (blk_grown (g := gb124) (o := .cells #[.int .i64 x125000_2, .slice none 0 0, .int .i64 x125002_2, .int .i64 x125003_2, .slice none 0 0] 27 (0, 0)) (by (with_reducible repeat (first | refine blk_drewN ?_ _ | refine blk_drew ?_ | refine blk_alloc ?_ _)); refine blk_far ?_ NB124_138.out _; (with_reducible repeat (first | refine blk_drewN ?_ _ | refine blk_drew ?_ | refine blk_alloc ?_ _)); refine blk_far ?_ NB124_138.out _; (with_reducible repeat (first | refine blk_drewN ?_ _ | refine blk_drew ?_ | refine blk_alloc ?_ _)); refine blk_far ?_ NB124_138.out _; (with_reducible repeat (first | refine blk_drewN ?_ _ | refine blk_drew ?_ | refine blk_alloc ?_ _)); exact BK124.out) hg (Kd.R_ne HO_126002.out BK124.out (by decide))); have n1_ := aA (blk_grown (g := gb125) (o := .cells #[.int .i64 t127, .int .i64 t130, u126002] 25 (0, 0)) (by (with_reducible repeat (first | refine blk_drewN ?_ _ | refine blk_drew ?_ | refine blk_alloc ?_ _)); refine blk_far ?_ NB125_138.out _; (with_reducible repeat (first | refine blk_drewN ?_ _ | refine blk_drew ?_ | refine blk_alloc ?_ _)); refine blk_far ?_ NB125_138.out _; (with_reducible repeat (first | refine blk_drewN ?_ _ | refine blk_drew ?_ | refine blk_alloc ?_ _)); refine blk_far ?_ NB125_138.out _; (with_reducible repeat (first | refine blk_drewN ?_ _ | refine blk_drew ?_ | refine blk_alloc ?_ _)); exact BK125.out) hg (Kd.R_ne HO_126002.out BK125.out (by decide))); have n2_ := aA (blk_grown (g := gb138) (o := .cells #[.int .i64 t134, .string t135, .string t136] 32 (0, 0)) (by (with_reducible repeat (first | refine blk_drewN ?_ _ | refine blk_drew ?_ | refine blk_alloc ?_ _)); have h_ := BK138.out; exact pK 2 (pK 1 (pK 0 (h_)))) hg (Kd.R_away HO_126002.out (fun _ hk => hk.2))); have n3_ := aA (hb); have n4_ := aA (ho); clear BK124 BK125 BK138 HB HO_126002; have BK124 := n0_; have BK125 := n1_; have BK138 := n2_; have HB := n3_; have HO141 := n4_; clear n0_ n1_ n2_ n3_ n4_ ho hb hg hat; obtain ⟨Ao37, co37, eo37⟩ := Kd.R_slice HO141.out; subst eo37; obtain ⟨hcz38_0, hcz38_1, hcz38_2⟩ := bC3 BK125.out; obtain ⟨hfz38_0, hfz38_1, hfz38_2⟩ := bF3 BK125.out))
               go_roundg k2
               case measure => have := HJ8.out; have := HK2.out; omega
               case rel => exact ⟨(wrap64 (x41_2 + 1)), (x125000_2), (x125002_2), (x125003_2), (y139), (.slice Ao37 y139.length co37), (by first | rfl | (simp; done) | (simp [*]; done)), H', ⟨by have := HJ8.out; have := HK2.out; omega⟩, ⟨by (with_reducible repeat (first | apply Kd.R_alloc | apply Kd.R_drewN | apply Kd.R_drew)); exact Kd.R_mono (rF 2 (Kd.R_types HO141.out BK125.out (by decide))) (fun _ hk => trivial)⟩, ⟨by (with_reducible repeat (first | refine blk_drewN ?_ _ | refine blk_drew ?_ | refine blk_alloc ?_ _)); refine blk_far ?_ NB124_125.out _; (with_reducible repeat (first | refine blk_drewN ?_ _ | refine blk_drew ?_ | refine blk_alloc ?_ _)); exact BK124.out⟩, ⟨by (with_reducible repeat (first | refine blk_drewN ?_ _ | refine blk_drew ?_ | refine blk_alloc ?_ _)); refine blk_put (cs := #[.int .i64 t127, .int .i64 t130, u126002]) ?_ 2 _ rfl; (with_reducible repeat (first | refine blk_drewN ?_ _ | refine blk_drew ?_ | refine blk_alloc ?_ _)); exact BK125.out⟩, ⟨by repeat (first | (with_reducible first | exact HB.out | apply below_alloc | apply pw_below_drewN | apply below_drew1 | refine below_set ?_ GE124.out | refine below_set ?_ GE125.out | refine below_set ?_ GE138.out) | exact HB.out)⟩⟩
              ·rw [if_neg c28] at H
               exact absurd H (by simp)
             ·rw [if_neg c27] at H
              have c27b0 : (t137 == 0) = false := beq_eq_false_iff_ne.mpr c27
              have c27b1 : (t137 != 0) = true := bne_iff_ne.mpr c27
              simp only [Option.some.injEq, Prod.mk.injEq] at H
              obtain ⟨rfl, rfl, rfl, rfl, rfl, rfl⟩ := H
              have p133 : 0 ≤ (x41_2 : Int) := of_decide_eq_true (by first | (with_reducible assumption) | assumption)
              have q133 : x41_2 < ((l0.drop 2).length : Int) := of_decide_eq_true (by first | (with_reducible assumption) | assumption)
              have q133e : (x41_2 < ((l0.length - 2 : Nat) : Int)) = True := eq_true (by have h_ := q133; rw [List.length_drop] at h_; exact h_)
              obtain ⟨ad133, e133, hx133_0⟩ := Kd.at_string HR132.out x41_2 p133 q133
              cases e133
              replace hx133_0 := (HB.out.cell (World.block_lt_of_cell? w _ hx133_0)).trans hx133_0
              replace p133 := eq_true p133
              replace q133 := eq_true q133
              go_wp2_with (first | ((with_reducible refine gate_callee (f := 12) rfl ?_); refine goesL_ (some 47) rfl rfl Tryz.func12 (by kernel_rfl) rfl #[.string (rdOf ByteArray.empty (l0.drop 2) x41_2)] rfl mS ?_; (with_reducible refine (wire_Asked.calls (rdOf ByteArray.empty (l0.drop 2) x41_2) t134 t135 t136 t137 _ A26.out).mono ?_); rintro e w39 ⟨rfl, hb⟩; refine ⟨_, rfl, ?_⟩; have n0_ := aA (Kd.R_below (mR HO_126002.out) hb); have n1_ := aA (bB BK124.out hb); have n2_ := aA (bB BK125.out hb); have n3_ := aA (below_step (mD2 GE124.out GE125.out) hb); clear HO_126002 BK124 BK125 HB; have HO_126002 := n0_; have BK124 := n1_; have BK125 := n2_; have HB := n3_; clear n0_ n1_ n2_ n3_; (try clear hb); (try clear hb2); (try clear hk); (try clear hi)) | ((with_reducible refine gate_dst (N := 9) rfl ?_); refine box_event ?hg (N := 9) ?hd (cs := #[.int .i64 0, .string (⟨#[]⟩ : ByteArray), .string (⟨#[]⟩ : ByteArray)]) (t := 32) ?hr ?_; (case hd => rfl); (case hg => rfl); (case hr => first | (go_simp; done) | (go_simp; rfl)); intro gb138 hg w40 hbox hb; have n0_ := aA (Kd.R_below (Kd.R_elderB (mR HO_126002.out) gb138 (Nat.le_of_eq hg.symm)) hb); have n1_ := aA (bB BK124.out hb); have n2_ := aA (bB BK125.out hb); have n3_ := aA (below_step (mD2 GE124.out GE125.out) hb); have n4_ := aA (hbox); have n5_ := aA ((bZ hg (mD2 GE124.out GE125.out))); have n6_ := aA ((bZ hg (mD2 GE124.out GE125.out))); have n7_ := aA ((bL hg BK124.out)); have n8_ := aA ((bG hg BK124.out)); have n9_ := aA ((bL hg BK125.out)); have n10_ := aA ((bG hg BK125.out)); clear HO_126002 BK124 BK125 HB; have HO_126002 := n0_; have BK124 := n1_; have BK125 := n2_; have HB := n3_; have BK138 := n4_; have GW138 := n5_; have GE138 := n6_; have NB124_138 := n7_; have NB138_124 := n8_; have NB125_138 := n9_; have NB138_125 := n10_; clear n0_ n1_ n2_ n3_ n4_ n5_ n6_ n7_ n8_ n9_ n10_ hb hbox hg; have hnb41 := NB138_124.out; have hnc41 := NB124_138.out; have hnb42 := NB138_125.out; have hnc42 := NB125_138.out; obtain ⟨hcz43_0, hcz43_1, hcz43_2⟩ := bC3 BK138.out; obtain ⟨hfz43_0, hfz43_1, hfz43_2⟩ := bF3 BK138.out; have hnb44 := NB124_125.out; have hnc44 := NB125_124.out; obtain ⟨hcz45_0, hcz45_1, hcz45_2, hcz45_3, hcz45_4⟩ := bC5 BK124.out; obtain ⟨hfz45_0, hfz45_1, hfz45_2, hfz45_3, hfz45_4⟩ := bF5 BK124.out))
              refine bodyPost_ret (results_ct rfl _ _ gb124 27 #[.int .i64 0, .slice none 0 0, .int .i64 0, .int .i64 0, .slice none 0 0] (0, 0) _ rfl (by (with_reducible repeat (first | refine blk_drewN ?_ _ | refine blk_drew ?_ | refine blk_alloc ?_ _)); refine blk_put (cs := #[.int .i64 0, .slice none 0 0, .int .i64 0, .int .i64 0, .slice none 0 0]) ?_ 4 _ rfl; (with_reducible repeat (first | refine blk_drewN ?_ _ | refine blk_drew ?_ | refine blk_alloc ?_ _)); refine blk_put (cs := #[.int .i64 0, .slice none 0 0, .int .i64 0, .int .i64 x125003_2, .slice none 0 0]) ?_ 3 _ rfl; (with_reducible repeat (first | refine blk_drewN ?_ _ | refine blk_drew ?_ | refine blk_alloc ?_ _)); refine blk_put (cs := #[.int .i64 0, .slice none 0 0, .int .i64 x125002_2, .int .i64 x125003_2, .slice none 0 0]) ?_ 2 _ rfl; (with_reducible repeat (first | refine blk_drewN ?_ _ | refine blk_drew ?_ | refine blk_alloc ?_ _)); refine blk_put (cs := #[.int .i64 0, .slice none 0 0, .int .i64 x125002_2, .int .i64 x125003_2, .slice none 0 0]) ?_ 1 _ rfl; (with_reducible repeat (first | refine blk_drewN ?_ _ | refine blk_drew ?_ | refine blk_alloc ?_ _)); refine blk_put (cs := #[.int .i64 x125000_2, .slice none 0 0, .int .i64 x125002_2, .int .i64 x125003_2, .slice none 0 0]) ?_ 0 _ rfl; (with_reducible repeat (first | refine blk_drewN ?_ _ | refine blk_drew ?_ | refine blk_alloc ?_ _)); refine blk_far ?_ NB124_138.out _; (with_reducible repeat (first | refine blk_drewN ?_ _ | refine blk_drew ?_ | refine blk_alloc ?_ _)); refine blk_far ?_ NB124_138.out _; (with_reducible repeat (first | refine blk_drewN ?_ _ | refine blk_drew ?_ | refine blk_alloc ?_ _)); refine blk_far ?_ NB124_138.out _; (with_reducible repeat (first | refine blk_drewN ?_ _ | refine blk_drew ?_ | refine blk_alloc ?_ _)); exact BK124.out) Tryz.underlying27 rfl (by kernel_rfl)) rfl ?_
              exact ⟨_, _, by first | rfl | (simp [errW_none, errW_some] <;> rfl) | (simp [*, errW_none, errW_some] <;> rfl), by first | exact Kd.R_nil _ _ _ _ _ | exact Kd.N_nil _ _ _ _ _ | exact Kd.V_nil _ _ _ _ _ | exact Kd.Q_nil _ _ _ _ _ | exact Kd.S_nil _ _ _ _ _, by first | exact Kd.R_nil _ _ _ _ _ | exact Kd.N_nil _ _ _ _ _ | exact Kd.V_nil _ _ _ _ _ | exact Kd.Q_nil _ _ _ _ _ | exact Kd.S_nil _ _ _ _ _, by repeat (first | (with_reducible first | exact HB.out | apply below_alloc | apply pw_below_drewN | apply below_drew1 | refine below_set ?_ GE124.out | refine below_set ?_ GE125.out | refine below_set ?_ GE138.out) | exact HB.out)⟩
            ·rw [if_neg c25] at H
             exact absurd H (by simp)
           ·rw [if_neg c24] at H
            exact absurd H (by simp)
          ·rw [if_neg c23] at H
           have c23b0 : decide (x41_2 < ((l0.drop 2).length : Int)) = false := decide_eq_false c23
           have c23b0d : decide (x41_2 < ((l0.length - 2 : Nat) : Int)) = false := by have h_ := c23b0; rw [List.length_drop] at h_; exact h_
           clear c23
           by_cases c46 : (x126002_2.length : Int) > 4
           ·rw [if_pos c46] at H
            have c46b0 : decide (4 < (x126002_2.length : Int)) = true := decide_eq_true c46
            have c46b1 : decide (4 < x126002_2.length) = true := decide_eq_true (by omega)
            clear c46
            simp only [Option.some.injEq, Prod.mk.injEq] at H
            obtain ⟨rfl, rfl, rfl, rfl, rfl, rfl⟩ := H
            have hnb47 := NB125_124.out
            have hnc47 := NB124_125.out
            obtain ⟨hcz48_0, hcz48_1, hcz48_2⟩ := bC3 BK125.out
            obtain ⟨hfz48_0, hfz48_1, hfz48_2⟩ := bF3 BK125.out
            obtain ⟨Ao49, co49, eo49⟩ := Kd.R_slice HO_126002.out
            subst eo49
            obtain ⟨hcz50_0, hcz50_1, hcz50_2, hcz50_3, hcz50_4⟩ := bC5 BK124.out
            obtain ⟨hfz50_0, hfz50_1, hfz50_2, hfz50_3, hfz50_4⟩ := bF5 BK124.out
            go_wp2
            refine bodyPost_ret (results_ct rfl _ _ gb124 27 #[.int .i64 0, .slice none 0 0, .int .i64 0, .int .i64 0, .slice none 0 0] (0, 0) _ rfl (by (with_reducible repeat (first | refine blk_drewN ?_ _ | refine blk_drew ?_ | refine blk_alloc ?_ _)); have h_ := BK124.out; exact pK 4 (pK 3 (pK 2 (pK 1 (pK 0 (h_)))))) Tryz.underlying27 rfl (by kernel_rfl)) rfl ?_
            exact ⟨_, _, by first | rfl | (simp [errW_none, errW_some] <;> rfl) | (simp [*, errW_none, errW_some] <;> rfl), by first | exact Kd.R_nil _ _ _ _ _ | exact Kd.N_nil _ _ _ _ _ | exact Kd.V_nil _ _ _ _ _ | exact Kd.Q_nil _ _ _ _ _ | exact Kd.S_nil _ _ _ _ _, by first | exact Kd.R_nil _ _ _ _ _ | exact Kd.N_nil _ _ _ _ _ | exact Kd.V_nil _ _ _ _ _ | exact Kd.Q_nil _ _ _ _ _ | exact Kd.S_nil _ _ _ _ _, by repeat (first | (with_reducible first | exact HB.out | apply below_alloc | apply pw_below_drewN | apply below_drew1 | refine below_set ?_ GE124.out | refine below_set ?_ GE125.out) | exact HB.out)⟩
           ·rw [if_neg c46] at H
            have c46b0 : decide (4 < (x126002_2.length : Int)) = false := decide_eq_false c46
            have c46b1 : decide (4 < x126002_2.length) = false := decide_eq_false (by omega)
            clear c46
            by_cases c51 : t127 ≥ t130
            ·rw [if_pos c51] at H
             have c51b0 : decide (t130 ≤ t127) = true := decide_eq_true c51
             clear c51
             simp only [Option.some.injEq, Prod.mk.injEq] at H
             obtain ⟨rfl, rfl, rfl, rfl, rfl, rfl⟩ := H
             have hnb52 := NB125_124.out
             have hnc52 := NB124_125.out
             obtain ⟨hcz53_0, hcz53_1, hcz53_2⟩ := bC3 BK125.out
             obtain ⟨hfz53_0, hfz53_1, hfz53_2⟩ := bF3 BK125.out
             obtain ⟨Ao54, co54, eo54⟩ := Kd.R_slice HO_126002.out
             subst eo54
             obtain ⟨hcz55_0, hcz55_1, hcz55_2, hcz55_3, hcz55_4⟩ := bC5 BK124.out
             obtain ⟨hfz55_0, hfz55_1, hfz55_2, hfz55_3, hfz55_4⟩ := bF5 BK124.out
             go_wp2
             refine bodyPost_ret (results_ct rfl _ _ gb124 27 #[.int .i64 0, .slice none 0 0, .int .i64 0, .int .i64 0, .slice none 0 0] (0, 0) _ rfl (by (with_reducible repeat (first | refine blk_drewN ?_ _ | refine blk_drew ?_ | refine blk_alloc ?_ _)); have h_ := BK124.out; exact pK 4 (pK 3 (pK 2 (pK 1 (pK 0 (h_)))))) Tryz.underlying27 rfl (by kernel_rfl)) rfl ?_
             exact ⟨_, _, by first | rfl | (simp [errW_none, errW_some] <;> rfl) | (simp [*, errW_none, errW_some] <;> rfl), by first | exact Kd.R_nil _ _ _ _ _ | exact Kd.N_nil _ _ _ _ _ | exact Kd.V_nil _ _ _ _ _ | exact Kd.Q_nil _ _ _ _ _ | exact Kd.S_nil _ _ _ _ _, by first | exact Kd.R_nil _ _ _ _ _ | exact Kd.N_nil _ _ _ _ _ | exact Kd.V_nil _ _ _ _ _ | exact Kd.Q_nil _ _ _ _ _ | exact Kd.S_nil _ _ _ _ _, by repeat (first | (with_reducible first | exact HB.out | apply below_alloc | apply pw_below_drewN | apply below_drew1 | refine below_set ?_ GE124.out | refine below_set ?_ GE125.out) | exact HB.out)⟩
            ·rw [if_neg c51] at H
             have c51b0 : decide (t130 ≤ t127) = false := decide_eq_false c51
             clear c51
             simp only [Option.some.injEq, Prod.mk.injEq] at H
             obtain ⟨rfl, rfl, rfl, rfl, rfl, rfl⟩ := H
             have hnb56 := NB125_124.out
             have hnc56 := NB124_125.out
             obtain ⟨hcz57_0, hcz57_1, hcz57_2⟩ := bC3 BK125.out
             obtain ⟨hfz57_0, hfz57_1, hfz57_2⟩ := bF3 BK125.out
             obtain ⟨Ao58, co58, eo58⟩ := Kd.R_slice HO_126002.out
             subst eo58
             obtain ⟨hcz59_0, hcz59_1, hcz59_2, hcz59_3, hcz59_4⟩ := bC5 BK124.out
             obtain ⟨hfz59_0, hfz59_1, hfz59_2, hfz59_3, hfz59_4⟩ := bF5 BK124.out
             go_wp2
             refine bodyPost_ret (results_ct rfl _ _ gb124 27 #[.int .i64 2, .slice none 0 0, .int .i64 t127, .int .i64 t130, .slice Ao58 x126002_2.length co58] (0, 0) _ rfl (by (with_reducible repeat (first | refine blk_drewN ?_ _ | refine blk_drew ?_ | refine blk_alloc ?_ _)); have h_ := BK124.out; exact pK 4 (pK 3 (pK 2 (pK 1 (pK 0 (h_)))))) Tryz.underlying27 rfl (by kernel_rfl)) rfl ?_
             exact ⟨_, _, by first | rfl | (simp [errW_none, errW_some] <;> rfl) | (simp [*, errW_none, errW_some] <;> rfl), by first | exact Kd.R_nil _ _ _ _ _ | exact Kd.N_nil _ _ _ _ _ | exact Kd.V_nil _ _ _ _ _ | exact Kd.Q_nil _ _ _ _ _ | exact Kd.S_nil _ _ _ _ _, by (with_reducible repeat (first | apply Kd.R_alloc | apply Kd.R_drewN | apply Kd.R_drew)); exact Kd.R_mono (rF 4 (rF 3 (rF 2 (rF 1 (rF 0 (Kd.R_types HO_126002.out BK124.out (by decide))))))) (fun _ hk => trivial), by repeat (first | (with_reducible first | exact HB.out | apply below_alloc | apply pw_below_drewN | apply below_drew1 | refine below_set ?_ GE124.out | refine below_set ?_ GE125.out) | exact HB.out)⟩
       ·rw [if_neg c21] at H
        exact absurd H (by simp)
   ·rw [if_neg c7] at H
    exact absurd H (by simp)
  ·rw [if_neg c5] at H
   exact absurd H (by simp)
end Go.Proofs.YtjfknmlchdifjaaGreatDoorQ.P
