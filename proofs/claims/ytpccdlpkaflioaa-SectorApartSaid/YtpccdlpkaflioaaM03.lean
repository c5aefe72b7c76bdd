/- Laws for the walk over a row of bytes that the call itself has made: an array in memory, cut, appended to, copied into, made a text. No program in sight. -/
import Derived.Test.YtpccdlpkaflioaaM02
import Derived.Laws.CopyOwn
import Derived.Laws.BytesArg
import Derived.Lib.UnsafeStr
set_option linter.unusedVariables false
set_option linter.unusedSimpArgs false
namespace Go.Proofs.Ytpccdlpkaflioaa
open Go.RowKit
def u8 (x : Int) : UInt8 := UInt8.ofNat (x % 256).toNat
theorem u8_toNat (x : Int) : ((u8 x).toNat : Int) = x % 256 := by
  unfold u8
  rw [UInt8.toNat_ofNat']
  omega
def zeros (n : Nat) : List UInt8 := List.replicate n 0
theorem zeros_len (n : Nat) : (zeros n).length = n := by simp [zeros]
theorem lit_src (W : World) (arr : Array Value) (e : TypeId) (cells : List Value) (h : cells = arr.toList) : ∀ j v, cells[j]? = some v → (W.alloc (.cells arr e)).cell? ((⟨W.heap.size, 0, none⟩ : Addr).add j) = some v := by
  subst h
  intro j v hv
  have hadd : (⟨W.heap.size, 0, none⟩ : Addr).add j = ⟨W.heap.size, j, none⟩ := by unfold Addr.add; split <;> simp_all
  rw [hadd]
  exact blk_cell (blk_new W _) (by simpa using hv)
/-- Block g holds these bytes. -/
def Bts (W : World) (g : Nat) (t : TypeId) (l : List UInt8) : Prop := W.heap[g]? = some (.cells (Lib.byteCells l).toArray t (0, 0))
def bytesOf (s : ByteArray) : List UInt8 := s.data.toList
theorem results_tmp4 {fn : Func} {t u v x : Tmp} (h : fn.results = #[.tmp t, .tmp u, .tmp v, .tmp x]) (tmps : Array Value) (P : Program) (w : World) :
    (results fn tmps).run P w = .ok (.tuple #[tmps.getD t undef, tmps.getD u undef, tmps.getD v undef, tmps.getD x undef]) w := by
  simp [results, h]
theorem strOfNums_eq' (xs : List Int) : strOfNums xs = ⟨(xs.map fun x => UInt8.ofNat x.toNat).toArray⟩ := rfl
theorem splice_mid {α : Type} (A B C B' : List α) (n : Nat) (hA : A.length = n) (h : B'.length = B.length) : splice (A ++ (B ++ C)) n B' = A ++ (B' ++ C) := by
  subst hA
  unfold splice
  rw [List.take_left' rfl, h]
  congr 2
  rw [← List.drop_drop, List.drop_left' rfl, List.drop_left' rfl]
section
variable {P : Program} {ops : Array Oper} {rest : List Oper} {o : Oper} {a : Act} {Q : Exit → Act → World → Prop} {w w0 : World} {g : Nat} {t : TypeId} {l : List UInt8}
/-- A gate: this operation alone. -/
theorem gate (N : Tmp) (_ : o.dst = some N) (h : wpList P ops Q (o :: rest) a w) : wpList P ops Q (o :: rest) a w := h
theorem byteCells_splice (l : List UInt8) (off : Nat) (m : List UInt8) : splice (Lib.byteCells l) off (Lib.byteCells m) = Lib.byteCells (splice l off m) := by
  simp [splice, Lib.byteCells, List.map_take, List.map_drop]
theorem byteCells_get (l : List UInt8) (j : Nat) : (Lib.byteCells l)[j]? = (l[j]?).map fun b => Value.int .u8 b.toNat := by simp [Lib.byteCells]
theorem byteCells_one (l : List UInt8) : ∀ v ∈ Lib.byteCells l, v.oneCell' = true := by
  intro v hv
  obtain ⟨b, _, rfl⟩ := List.mem_map.1 hv
  rfl
theorem Bts.cell (h : Bts w g t l) {j : Nat} (hj : j < l.length) : w.cell? ⟨g, j, none⟩ = some (.int .u8 (l[j]).toNat) :=
  blk_cell h (by simp [Lib.byteCells, hj])
theorem name4 {W : World} {g : Nat} {t : TypeId} {L M : List UInt8} (h : Bts W g t L) (hL : M = L) : Hid (Bts W g t M) := by
  rw [hL]
  exact h
theorem Bts.drew (h : Bts w g t l) : Bts w.drew g t l := h
theorem Bts.below {W' : World} (h : Bts w g t l) (hb : Below w.heap.size w W') : Bts W' g t l := blk_below hb (blk_lt h) h
theorem Bts.lt (h : Bts w g t l) : g < w.heap.size := blk_lt h
/-- An array of bytes, all 0. -/
theorem ev_alloc (N : Tmp) (hN : o.dst = some N) (hg : o.guard = none) (n : Nat) (ho : o.op = .alloc t)
    (hrun : ∀ W : World, (Instr.alloc t true (.tuple #[])).run P W = .ok (.pointer (some ⟨W.heap.size, 0, none⟩)) (W.alloc (.cells (Lib.byteCells (zeros n)).toArray t)))
    (h : ∀ W g, w.heap.size ≤ g → g < W.heap.size → Hid (Bts W g t (zeros n)) → Below w.heap.size w W → wpList P ops Q rest (a.put (some N) (.pointer (some ⟨g, 0, none⟩))) W) : wpList P ops Q (o :: rest) a w := by
  refine wpList_plain hg fun K hK => ?_
  unfold Oper.wp
  simp only [execOp, ho]
  have hr := hrun w
  simp [hr, Result.andThen]
  rw [Oper.upon_value, hN]
  exact hK _ _ (h _ _ (Nat.le_refl _) (by simp) (blk_new _ _) (bal (Below.refl _ _) _))
theorem grown_setRow (w : World) (g : Nat) (cs : Array Value) : w.grownBy (w.setRow g cs) (some g) :=
  ⟨rfl, rfl, rfl, by simp [World.setRow], fun k hk hne => setRow_other w g k cs (by intro e; exact hne (by rw [e]))⟩
theorem grown_below {B : Nat} {w0 w w' : World} (hb : Below B w0 w) (hg : w.grownBy w' (some g)) (hB : B ≤ w.heap.size) (hBg : B ≤ g) : Below B w0 w' :=
  hb.grown hg hB (fun k hk => by injection hk with e; omega)
/-- copy(block g from off on, a text): as many bytes as the shorter of the two has. -/
theorem run_copy_str (dT sT ty elem : TypeId) (hu : P.underlying dT = some (.slice elem)) (hs : (P.info? elem).map (·.size) = some 1) (off dLen dCap : Nat) (s : ByteArray) (hb : Bts w g t l) (hfit : off + min s.size dLen ≤ l.length) :
    (Builtin.copy_ #[dT, sT] ty #[.slice (some ⟨g, off, none⟩) dLen dCap, .string s]).run P w =
      .ok (goInt (min s.size dLen)) (w.setRow g (Lib.byteCells (splice l off ((bytesOf s).take (min s.size dLen)))).toArray) := by
  have hlen : (Lib.byteCells ((bytesOf s).take (min s.size dLen))).length = min s.size dLen := by
    rw [Lib.byteCells_length, List.length_take]
    unfold bytesOf
    rw [len_data]
    omega
  have hst := run_storeCells_at P g off t (Lib.byteCells ((bytesOf s).take (min s.size dLen))) 0 (Lib.byteCells l).toArray w hb (by simp only [Nat.add_zero, List.size_toArray]; rw [hlen, Lib.byteCells_length]; exact hfit) (byteCells_one _)
  have hcells : ((s.extract 0 (min s.size dLen)).data.map fun b => Value.int .u8 b.toNat).toList = Lib.byteCells ((bytesOf s).take (min s.size dLen)) := by
    simp [Lib.byteCells, bytesOf, ByteArray.data_extract]
  cases hq : P.info? elem with
  | none => simp [hq] at hs
  | some i =>
    have hi : i.size = 1 := by simpa [hq] using hs
    simp only [Builtin.copy_]
    simp [run_underlying hu, Builtin.lenOf, Builtin.firstCells, sizeOf, typeInfo, hq, hi]
    have e2 : Nat.min s.size dLen = min s.size dLen := rfl
    rw [e2]
    have e3 : List.take (min s.size dLen) (List.map (fun b => Value.int IntKind.u8 ↑b.toNat) s.data.toList) = Lib.byteCells ((bytesOf s).take (min s.size dLen)) := by
      simp [Lib.byteCells, bytesOf, List.map_take]
    rw [e3, hst, Result.andThen_ok, ← byteCells_splice]
    congr 1
    · exact congrArg goInt (by omega)
    · unfold splice
      rw [List.append_assoc]
      rfl
theorem ev_copy_str (hgd : o.guard = none) (d s : Operand) (dT sT : TypeId) (ho : o.op = .call { callee := .builtin .copy, args := #[d, s], argTypes := #[dT, sT] }) (elem : TypeId) (hu : P.underlying dT = some (.slice elem)) (hs : (P.info? elem).map (·.size) = some 1)
    (off dLen dCap : Nat) (x : ByteArray) (hd : a.eval d = .slice (some ⟨g, off, none⟩) dLen dCap) (hx : a.eval s = .string x) (hb : Bts w g t l) (hfit : off + min x.size dLen ≤ l.length)
    (h : ∀ W, Hid (Bts W g t (splice l off ((bytesOf x).take (min x.size dLen)))) → w.grownBy W (some g) → wpList P ops Q rest (a.put o.dst (goInt (min x.size dLen))) W) : wpList P ops Q (o :: rest) a w := by
  refine wpList_plain hgd fun K hK => ?_
  have hrun := run_copy_str (P := P) dT sT o.type elem hu hs off dLen dCap x hb hfit
  unfold Oper.wp
  simp [execOp, ho, resolve, invoke, builtin, hd, hx, hrun, Result.andThen]
  exact hK _ _ (h _ (setRow_heap w g _ _ t _ hb) (grown_setRow w g _))
/-- As a step of a region that draws its order. -/
theorem st_copy_str {K : Act → World → Prop} {E : Prop} (hgd : o.guard = none) (d s : Operand) (dT sT : TypeId) (ho : o.op = .call { callee := .builtin .copy, args := #[d, s], argTypes := #[dT, sT] }) (elem : TypeId) (hu : P.underlying dT = some (.slice elem)) (hs : (P.info? elem).map (·.size) = some 1)
    (off dLen dCap : Nat) (x : ByteArray) (hd : a.eval d = .slice (some ⟨g, off, none⟩) dLen dCap) (hx : a.eval s = .string x) (hb : Bts w g t l) (hfit : off + min x.size dLen ≤ l.length)
    (h : ∀ W, Hid (Bts W g t (splice l off ((bytesOf x).take (min x.size dLen)))) → w.grownBy W (some g) → K (a.put o.dst (goInt (min x.size dLen))) W) : if Region.wanted o (yielded ops a.tmps) = true then Oper.wp P o a w K Q else E := by
  have hw : Region.wanted o (yielded ops a.tmps) = true := by simp [Region.wanted, hgd]
  rw [if_pos hw]
  have hrun := run_copy_str (P := P) dT sT o.type elem hu hs off dLen dCap x hb hfit
  unfold Oper.wp
  simp [execOp, ho, resolve, invoke, builtin, hd, hx, hrun, Result.andThen]
  exact h _ (setRow_heap w g _ _ t _ hb) (grown_setRow w g _)
/-- copy(block g from off on, a slice whose bytes are known). -/
theorem run_copy_bytes (dT sT ty elem : TypeId) (hu : P.underlying dT = some (.slice elem)) (hs : (P.info? elem).map (·.size) = some 1) (off dLen dCap : Nat) (ad : Addr) (sLen sCap : Nat) (cs : List UInt8) (hn : cs.length = Nat.min sLen dLen) (hb : Bts w g t l)
    (hsrc : ∀ j v, (Lib.byteCells cs)[j]? = some v → w.cell? (ad.add j) = some v) (hfit : off + cs.length ≤ l.length) :
    (Builtin.copy_ #[dT, sT] ty #[.slice (some ⟨g, off, none⟩) dLen dCap, .slice (some ad) sLen sCap]).run P w = .ok (goInt cs.length) (w.setRow g (Lib.byteCells (splice l off cs)).toArray) := by
  have := run_copy_row (P := P) w dT sT ty elem g off dLen dCap ad sLen sCap (Lib.byteCells l).toArray t (Lib.byteCells cs) hu hs hb (by rw [Lib.byteCells_length]; exact hn) hsrc (by rw [List.size_toArray, Lib.byteCells_length, Lib.byteCells_length]; exact hfit) (byteCells_one _)
  rw [this, ← byteCells_splice, Lib.byteCells_length]
  unfold splice
  rw [List.append_assoc, Lib.byteCells_length]
theorem st_copy_bytes {K : Act → World → Prop} {E : Prop} (hgd : o.guard = none) (d s : Operand) (dT sT : TypeId) (ho : o.op = .call { callee := .builtin .copy, args := #[d, s], argTypes := #[dT, sT] }) (elem : TypeId) (hu : P.underlying dT = some (.slice elem)) (hs : (P.info? elem).map (·.size) = some 1)
    (off dLen dCap : Nat) (ad : Addr) (sLen sCap : Nat) (cs : List UInt8) (hd : a.eval d = .slice (some ⟨g, off, none⟩) dLen dCap) (hx : a.eval s = .slice (some ad) sLen sCap) (hn : cs.length = Nat.min sLen dLen) (hb : Bts w g t l)
    (hsrc : ∀ j v, (Lib.byteCells cs)[j]? = some v → w.cell? (ad.add j) = some v) (hfit : off + cs.length ≤ l.length)
    (h : ∀ W, Hid (Bts W g t (splice l off cs)) → w.grownBy W (some g) → K (a.put o.dst (goInt cs.length)) W) : if Region.wanted o (yielded ops a.tmps) = true then Oper.wp P o a w K Q else E := by
  have hw : Region.wanted o (yielded ops a.tmps) = true := by simp [Region.wanted, hgd]
  rw [if_pos hw]
  have hrun := run_copy_bytes (P := P) dT sT o.type elem hu hs off dLen dCap ad sLen sCap cs hn hb hsrc hfit
  unfold Oper.wp
  simp [execOp, ho, resolve, invoke, builtin, hd, hx, hrun, Result.andThen]
  exact h _ (setRow_heap w g _ _ t _ hb) (grown_setRow w g _)
theorem Bts.src (h : Bts w g t l) (off : Nat) (cs : List UInt8) (hcs : ∀ j, j < cs.length → l[off + j]? = cs[j]?) : ∀ j v, (Lib.byteCells cs)[j]? = some v → w.cell? ((⟨g, off, none⟩ : Addr).add j) = some v := by
  intro j v hv
  rw [byteCells_get] at hv
  obtain ⟨b, hb, rfl⟩ := Option.map_eq_some_iff.1 hv
  have hj : j < cs.length := (List.getElem?_eq_some_iff.1 hb).1
  have hl := hcs j hj
  rw [hb] at hl
  have hadd : (⟨g, off, none⟩ : Addr).add j = ⟨g, off + j, none⟩ := by unfold Addr.add; split <;> simp_all
  rw [hadd]
  exact blk_cell h (by rw [List.getElem?_toArray, byteCells_get, hl]; rfl)
/-- append(a part of block g that has room, a few bytes). -/
theorem run_append_in (T ty e : TypeId) (i : TypeInfo) (hu : P.underlying T = some (.slice e)) (hi : P.info? e = some i) (hs : i.size = 1) (off n cap : Nat) (ad : Addr) (cs : List UInt8) (c : Nat) (hb : Bts w g t l)
    (hsrc : ∀ j v, (Lib.byteCells cs)[j]? = some v → w.cell? (ad.add j) = some v) (hroom : n + cs.length ≤ cap) (hfit : off + n + cs.length ≤ l.length) :
    (Builtin.append_ #[T, T] ty #[.slice (some ⟨g, off, none⟩) n cap, .slice (some ad) cs.length c]).run P w =
      .ok (.slice (some ⟨g, off, none⟩) (n + cs.length) cap) (w.setRow g (Lib.byteCells (splice l (off + n) cs)).toArray) := by
  have hl := run_loadCells_list (P := P) w ad (Lib.byteCells cs) hsrc
  rw [Lib.byteCells_length] at hl
  have hst := run_storeCells_at P g (off + n) t (Lib.byteCells cs) 0 (Lib.byteCells l).toArray w hb (by simp only [Nat.add_zero, List.size_toArray]; rw [Lib.byteCells_length, Lib.byteCells_length]; exact hfit) (byteCells_one _)
  have hadd : (⟨g, off, none⟩ : Addr).add n = ⟨g, off + n, none⟩ := by unfold Addr.add; split <;> simp_all
  simp [Builtin.append_, run_underlying hu, Builtin.lenOf, Builtin.firstCells, sizeOf, typeInfo, hi, hs, hl, hroom, hadd, hst]
  rw [← byteCells_splice]
  rfl
theorem ev_append_in (hgd : o.guard = none) (s x : Operand) (T e : TypeId) (ho : o.op = .call { callee := .builtin .append, args := #[s, x], argTypes := #[T, T] }) (i : TypeInfo) (hu : P.underlying T = some (.slice e)) (hi : P.info? e = some i) (hs : i.size = 1)
    (off n cap : Nat) (ad : Addr) (cs : List UInt8) (m c : Nat) (hm : m = cs.length) (hd : a.eval s = .slice (some ⟨g, off, none⟩) n cap) (hx : a.eval x = .slice (some ad) m c) (hb : Bts w g t l)
    (hsrc : ∀ j v, (Lib.byteCells cs)[j]? = some v → w.cell? (ad.add j) = some v) (hroom : n + cs.length ≤ cap) (hfit : off + n + cs.length ≤ l.length)
    (h : ∀ W, Hid (Bts W g t (splice l (off + n) cs)) → w.grownBy W (some g) → wpList P ops Q rest (a.put o.dst (.slice (some ⟨g, off, none⟩) (n + m) cap)) W) : wpList P ops Q (o :: rest) a w := by
  subst hm
  refine wpList_plain hgd fun K hK => ?_
  have hrun := run_append_in (P := P) T o.type e i hu hi hs off n cap ad cs c hb hsrc hroom hfit
  unfold Oper.wp
  simp [execOp, ho, resolve, invoke, builtin, hd, hx, hrun, Result.andThen]
  exact hK _ _ (h _ (setRow_heap w g _ _ t _ hb) (grown_setRow w g _))
/-- The text of a part of the row. -/
theorem run_text {src dst e : TypeId} (hs : P.underlying src = some (.slice e)) (he : P.underlying e = some (.int .u8)) (hd : P.underlying dst = some .string) (hb : Bts w g t l) (off n cap : Nat) (hfit : off + n ≤ l.length) :
    (convert src dst (.slice (some ⟨g, off, none⟩) n cap)).run P w = .ok (.string ⟨((l.drop off).take n).toArray⟩) w := by
  have hlen : ((l.drop off).take n).length = n := by rw [List.length_take, List.length_drop]; omega
  have := run_convert_bytes_arg (P := P) w src e hs he g off n cap (((l.drop off).take n).map fun b => (b.toNat : Int)) (by rw [List.length_map, hlen]) (fun i hi => by
    rw [hb.cell (show off + i < l.length by omega)]
    rw [List.getD_eq_getElem?_getD, List.getElem?_map, List.getElem?_take, if_pos hi, List.getElem?_drop, List.getElem?_eq_getElem (show off + i < l.length by omega)]
    rfl) dst hd
  have e : ((fun x : Int => UInt8.ofNat x.toNat) ∘ fun b : UInt8 => (b.toNat : Int)) = id := by
    funext b
    simp
  rw [this, strOfNums_eq', List.map_map, e, List.map_id]
end
end Go.Proofs.Ytpccdlpkaflioaa
