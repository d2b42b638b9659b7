/- Rules of the walk for single operations over own memory ('Mem'): a new variable, a load, a store. Conditions: as each rule says; plain theorems over any program. -/
import Derived.Test.YtenaklgkbchbdaaMem
import Derived.Laws.Rows
import Derived.Laws.CopyRow
import Derived.Outline
import Derived.Laws.ResultCell
set_option linter.unusedVariables false
set_option linter.unusedSimpArgs false
namespace Go.Proofs.Ytenaklgkbchbdaa
open Go.RowKit

theorem addr_add (g o n : Nat) : (⟨g, o, none⟩ : Addr).add n = ⟨g, o + n, none⟩ := by
  unfold Addr.add; split <;> simp_all

/-- vs laid over cs from place o on. -/
def lay (cs : Array Value) (o : Nat) (vs : List Value) : Array Value := (cs.toList.take o ++ vs ++ cs.toList.drop (o + vs.length)).toArray
theorem lay_size (cs : Array Value) (o : Nat) (vs : List Value) (h : o + vs.length ≤ cs.size) : (lay cs o vs).size = cs.size := by
  simp [lay]; omega
theorem lay_get (cs : Array Value) (o : Nat) (vs : List Value) (h : o + vs.length ≤ cs.size) (j : Nat) : (lay cs o vs)[j]? = if o ≤ j ∧ j < o + vs.length then vs[j - o]? else cs[j]? := by
  simp only [lay, List.getElem?_toArray, List.append_assoc]
  by_cases h1 : j < o
  · rw [List.getElem?_append_left (by simp; omega), if_neg (by omega), List.getElem?_take_of_lt h1]; simp
  · rw [List.getElem?_append_right (by simp; omega)]
    have e : (List.take o cs.toList).length = o := by simp; omega
    rw [e]
    by_cases h2 : j < o + vs.length
    · rw [List.getElem?_append_left (by omega), if_pos ⟨by omega, h2⟩]
    · rw [List.getElem?_append_right (by omega), if_neg (by omega), List.getElem?_drop]
      have e2 : o + vs.length + (j - o - vs.length) = j := by omega
      rw [e2]; simp
theorem lay_one (cs : Array Value) (o : Nat) (v : Value) (h : o < cs.size) : lay cs o [v] = cs.setIfInBounds o v := by
  apply Array.ext_getElem?
  intro j
  rw [lay_get _ _ _ (by simp; omega), Array.getElem?_setIfInBounds]
  by_cases e : o = j
  · subst e; simp [h]
  · have : ¬ (o ≤ j ∧ j < o + [v].length) := by simp; omega
    rw [if_neg this]; simp [e]

section
variable {P : Program} {w0 w : World} {L : List Res} {ops : Array Oper} {rest : List Oper} {o : Oper} {a : Act} {Q : Exit → Act → World → Prop}

theorem wl_value {v : Value} {w' : World} (hgd : Region.wanted o (yielded ops a.tmps) = true) (hr : (execOp a.eval o).run P w = .ok (.value v) w') (h : wpList P ops Q rest (a.put o.dst v) w') : wpList P ops Q (o :: rest) a w :=
  wpList_step fun K hK => by rw [if_pos hgd]; unfold Oper.wp; rw [hr]; exact hK _ _ h
theorem wl_skip {w' : World} (hgd : Region.wanted o (yielded ops a.tmps) = true) (hr : (execOp a.eval o).run P w = .ok .skip w') (h : wpList P ops Q rest (a.put o.dst undef) w') : wpList P ops Q (o :: rest) a w :=
  wpList_step fun K hK => by rw [if_pos hgd]; unfold Oper.wp; rw [hr]; exact hK _ _ h

/-- A new variable of type T. -/
theorem mem_alloc (hM : Mem w0 w L) (t : TypeId) (cs : Array Value) : Mem w0 (w.alloc (.cells cs t)) (blk w.heap.size t cs :: L) :=
  hM.add ((Below.refl _ w).alloc (Nat.le_refl _) _) (heap_alloc_new w _) (fun i hi => by
    have : i = w.heap.size := hi
    omega)
theorem mem_allocMap {H : Type} (hM : Mem w0 w L) (k : TypeId) (R : Value → Option (DataW H × List MemPlace)) : Mem w0 (w.alloc (.map #[] 0)) (mapR P k R w.heap.size 0 (.map []) :: L) :=
  hM.add ((Below.refl _ w).alloc (Nat.le_refl _) _) (World.ownsMap_made w P k R) (fun i hi => by
    have : i = w.heap.size := hi
    omega)
theorem wl_alloc (hM : Mem w0 w L) (hgd : Region.wanted o (yielded ops a.tmps) = true) (T : TypeId) (ho : o.op = .alloc T) (z : Value) (hz : (zeroValue T).run P w = .ok z w)
    (h : ∀ g w1, Mem w0 w1 (blk g T z.cells :: L) → wpList P ops Q rest (a.put o.dst (.pointer (some ⟨g, 0, none⟩))) w1) : wpList P ops Q (o :: rest) a w := by
  refine wl_value (v := .pointer (some ⟨w.heap.size, 0, none⟩)) (w' := w.alloc (.cells z.cells T)) hgd ?_ (h _ _ (mem_alloc hM T z.cells))
  unfold execOp
  simp only [ho, Instr.alloc, Sem.run_bind, hz, Result.andThen_ok]
  rfl
theorem wl_box (hM : Mem w0 w L) (hgd : Region.wanted o (yielded ops a.tmps) = true) (T : TypeId) (x : Operand) (ho : o.op = .box T x) (z : Value) (hz : a.eval x = z)
    (h : ∀ g w1, Mem w0 w1 (blk g T z.cells :: L) → wpList P ops Q rest (a.put o.dst (.pointer (some ⟨g, 0, none⟩))) w1) : wpList P ops Q (o :: rest) a w := by
  refine wl_value (v := .pointer (some ⟨w.heap.size, 0, none⟩)) (w' := w.alloc (.cells z.cells T)) hgd ?_ (h _ _ (mem_alloc hM T z.cells))
  unfold execOp
  simp only [ho, hz]
  rfl
theorem cell_blk {g t off : Nat} {cs : Array Value} (h : w.heap[g]? = some (.cells cs t (0, 0))) : w.cell? ⟨g, off, none⟩ = cs[off]? := cell_of_row w g off cs t (0, 0) h
/-- A load of one cell. -/
theorem wl_load1 {g t off : Nat} {cs : Array Value} (hM : Mem w0 w (blk g t cs :: L)) (hgd : Region.wanted o (yielded ops a.tmps) = true) (ty : TypeId) (x : Operand) (ho : o.op = .load ty x) (hx : a.eval x = .pointer (some ⟨g, off, none⟩))
    (v : Value) (hv : cs[off]? = some v) (hna : (isAgg ty).run P w = .ok false w) (h : wpList P ops Q rest (a.put o.dst v) w) : wpList P ops Q (o :: rest) a w := by
  refine wl_value hgd ?_ h
  have hc : w.cell? ⟨g, off, none⟩ = some v := (cell_blk hM.head).trans hv
  unfold execOp
  simp [ho, hx, Instr.loadAt, Instr.sureAddr, loadVar, Sem.run_bind, hna, load, Sem.run, hc]
/-- A load of a part of several cells. -/
theorem run_loadVar_part {g t off : Nat} {cs : Array Value} (hg : w.heap[g]? = some (.cells cs t (0, 0))) (ty : TypeId) (n : Nat) (hag : (isAgg ty).run P w = .ok true w) (hsz : (sizeOf ty).run P w = .ok n w) (hn : off + n ≤ cs.size) :
    (loadVar ty ⟨g, off, none⟩).run P w = .ok (.agg (cs.extract off (off + n))) w := by
  have hl : (loadCells ⟨g, off, none⟩ (cs.extract off (off + n)).toList.length).run P w = .ok (cs.extract off (off + n)).toList.toArray w :=
    run_loadCells_list (P := P) w ⟨g, off, none⟩ (cs.extract off (off + n)).toList (fun j v hv => by
      rw [addr_add, cell_blk hg]
      rw [Array.getElem?_toList, Array.getElem?_extract] at hv
      split at hv
      · exact hv
      · cases hv)
  simp only [Array.length_toList, Array.toArray_toList, Array.size_extract] at hl
  have e : min (off + n) cs.size - off = n := by omega
  rw [e] at hl
  simp [loadVar, Sem.run_bind, hag, hsz, hl]
theorem wl_loadA {g t off : Nat} {cs : Array Value} (hM : Mem w0 w (blk g t cs :: L)) (hgd : Region.wanted o (yielded ops a.tmps) = true) (ty : TypeId) (x : Operand) (ho : o.op = .load ty x) (hx : a.eval x = .pointer (some ⟨g, off, none⟩))
    (n : Nat) (hag : (isAgg ty).run P w = .ok true w) (hsz : (sizeOf ty).run P w = .ok n w) (hn : off + n ≤ cs.size) (h : wpList P ops Q rest (a.put o.dst (.agg (cs.extract off (off + n)))) w) : wpList P ops Q (o :: rest) a w := by
  refine wl_value hgd ?_ h
  unfold execOp
  simp [ho, hx, Instr.loadAt, Instr.sureAddr, Sem.run_bind, run_loadVar_part hM.head ty n hag hsz hn]
/-- A load of a whole block. -/
theorem wl_loadW {g t : Nat} {cs : Array Value} (hM : Mem w0 w (blk g t cs :: L)) (hgd : Region.wanted o (yielded ops a.tmps) = true) (ty : TypeId) (x : Operand) (ho : o.op = .load ty x) (hx : a.eval x = .pointer (some ⟨g, 0, none⟩))
    (hag : (isAgg ty).run P w = .ok true w) (hsz : (sizeOf ty).run P w = .ok cs.size w) (h : wpList P ops Q rest (a.put o.dst (.agg cs)) w) : wpList P ops Q (o :: rest) a w := by
  refine wl_loadA hM hgd ty x ho hx cs.size hag hsz (by omega) ?_
  have e : cs.extract 0 (0 + cs.size) = cs := by simp
  rw [e]; exact h
/-- A store. -/
theorem mem_store {g t : Nat} {cs cs' : Array Value} (hM : Mem w0 w (blk g t cs :: L)) : Mem w0 (w.setRow g cs') (blk g t cs' :: L) :=
  hM.turn rfl rfl rfl (by simp) (fun k hk hne => setRow_other w g k cs' hne) (setRow_heap w g cs cs' t (0, 0) hM.head) (fun i hi => .inl hi)
theorem wl_store {g t off : Nat} {cs : Array Value} (hM : Mem w0 w (blk g t cs :: L)) (hgd : Region.wanted o (yielded ops a.tmps) = true) (ty : TypeId) (x y : Operand) (ho : o.op = .store ty x y) (hx : a.eval x = .pointer (some ⟨g, off, none⟩))
    (v : Value) (hy : a.eval y = v) (hsz : (sizeOf ty).run P w = .ok v.cells.size w) (hn : off + v.cells.size ≤ cs.size) (h1 : v.cells.all (·.oneCell') = true)
    (h : ∀ w1, Mem w0 w1 (blk g t (lay cs off v.cells.toList) :: L) → wpList P ops Q rest (a.put o.dst undef) w1) : wpList P ops Q (o :: rest) a w := by
  refine wl_skip (w' := w.setRow g (lay cs off v.cells.toList)) hgd ?_ (h _ (mem_store hM))
  have hst := run_storeCells_at P g off t v.cells.toList 0 cs w hM.head (by simpa using hn) (fun u hu => (Array.all_eq_true_iff_forall_mem.1 h1) u (by simpa using hu))
  simp only [Nat.add_zero] at hst
  unfold execOp
  simp [ho, hx, hy, Instr.storeAt, Instr.sureAddr, storeVar, Sem.run_bind, hsz, hst, lay]
theorem wl_store1 {g t off : Nat} {cs : Array Value} (hM : Mem w0 w (blk g t cs :: L)) (hgd : Region.wanted o (yielded ops a.tmps) = true) (ty : TypeId) (x y : Operand) (ho : o.op = .store ty x y) (hx : a.eval x = .pointer (some ⟨g, off, none⟩))
    (v : Value) (hy : a.eval y = v) (h1 : v.oneCell' = true) (hsz : (sizeOf ty).run P w = .ok 1 w) (hn : off < cs.size)
    (h : ∀ w1, Mem w0 w1 (blk g t (cs.setIfInBounds off v) :: L) → wpList P ops Q rest (a.put o.dst undef) w1) : wpList P ops Q (o :: rest) a w := by
  have hc : v.cells = #[v] := by cases v <;> simp_all [Value.cells, Value.oneCell']
  refine wl_store hM hgd ty x y ho hx v hy (by rw [hc]; simpa using hsz) (by rw [hc]; simp; omega) (by rw [hc]; simpa using h1) (fun w1 hM1 => h w1 ?_)
  rw [hc] at hM1
  rw [← lay_one cs off v hn]; simpa using hM1
theorem wl_alloc1 (hM : Mem w0 w L) (hgd : Region.wanted o (yielded ops a.tmps) = true) (T : TypeId) (ho : o.op = .alloc T) (z : Value) (hz : (zeroValue T).run P w = .ok z w) (hc : z.cells = #[z])
    (h : ∀ g w1, Mem w0 w1 (blk g T #[z] :: L) → wpList P ops Q rest (a.put o.dst (.pointer (some ⟨g, 0, none⟩))) w1) : wpList P ops Q (o :: rest) a w :=
  wl_alloc hM hgd T ho z hz (fun g w1 h1 => h g w1 (by rw [hc] at h1; exact h1))
theorem wl_allocA (hM : Mem w0 w L) (hgd : Region.wanted o (yielded ops a.tmps) = true) (T : TypeId) (ho : o.op = .alloc T) (cs : Array Value) (hz : (zeroValue T).run P w = .ok (.agg cs) w)
    (h : ∀ g w1, Mem w0 w1 (blk g T cs :: L) → wpList P ops Q rest (a.put o.dst (.pointer (some ⟨g, 0, none⟩))) w1) : wpList P ops Q (o :: rest) a w :=
  wl_alloc hM hgd T ho (.agg cs) hz h
theorem wl_box1 (hM : Mem w0 w L) (hgd : Region.wanted o (yielded ops a.tmps) = true) (T : TypeId) (x : Operand) (ho : o.op = .box T x) (z : Value) (hz : a.eval x = z) (hc : z.cells = #[z])
    (h : ∀ g w1, Mem w0 w1 (blk g T #[z] :: L) → wpList P ops Q rest (a.put o.dst (.pointer (some ⟨g, 0, none⟩))) w1) : wpList P ops Q (o :: rest) a w :=
  wl_box hM hgd T x ho z hz (fun g w1 h1 => h g w1 (by rw [hc] at h1; exact h1))
theorem wl_boxA (hM : Mem w0 w L) (hgd : Region.wanted o (yielded ops a.tmps) = true) (T : TypeId) (x : Operand) (ho : o.op = .box T x) (cs : Array Value) (hz : a.eval x = .agg cs)
    (h : ∀ g w1, Mem w0 w1 (blk g T cs :: L) → wpList P ops Q rest (a.put o.dst (.pointer (some ⟨g, 0, none⟩))) w1) : wpList P ops Q (o :: rest) a w :=
  wl_box hM hgd T x ho (.agg cs) hz h
theorem wl_storeA {g t off : Nat} {cs : Array Value} (hM : Mem w0 w (blk g t cs :: L)) (hgd : Region.wanted o (yielded ops a.tmps) = true) (ty : TypeId) (x y : Operand) (ho : o.op = .store ty x y) (hx : a.eval x = .pointer (some ⟨g, off, none⟩))
    (vs : Array Value) (hy : a.eval y = .agg vs) (hsz : (sizeOf ty).run P w = .ok vs.size w) (hn : off + vs.size ≤ cs.size) (h1 : vs.all (·.oneCell') = true)
    (h : ∀ w1, Mem w0 w1 (blk g t (lay cs off vs.toList) :: L) → wpList P ops Q rest (a.put o.dst undef) w1) : wpList P ops Q (o :: rest) a w :=
  wl_store hM hgd ty x y ho hx (.agg vs) hy hsz hn h1 h
/-- A load of one cell that lay there ahead of the call. -/
theorem wl_loadO {b off : Nat} {v : Value} (hM : Mem w0 w L) (hgd : Region.wanted o (yielded ops a.tmps) = true) (ty : TypeId) (x : Operand) (ho : o.op = .load ty x) (hx : a.eval x = .pointer (some ⟨b, off, none⟩))
    (hc : w0.cell? ⟨b, off, none⟩ = some v) (hna : (isAgg ty).run P w = .ok false w) (h : wpList P ops Q rest (a.put o.dst v) w) : wpList P ops Q (o :: rest) a w := by
  refine wl_value hgd ?_ h
  have hc : w.cell? ⟨b, off, none⟩ = some v := (hM.below.cell (p := ⟨b, off, none⟩) (World.block_lt_of_cell? w0 _ hc)).trans hc
  unfold execOp
  simp [ho, hx, Instr.loadAt, Instr.sureAddr, loadVar, Sem.run_bind, hna, load, Sem.run, hc]
/-- A store into a variable of one cell. -/
theorem wl_storeV {g t : Nat} {u : Value} (hM : Mem w0 w (blk g t #[u] :: L)) (hgd : Region.wanted o (yielded ops a.tmps) = true) (ty : TypeId) (x y : Operand) (ho : o.op = .store ty x y) (hx : a.eval x = .pointer (some ⟨g, 0, none⟩))
    (v : Value) (hy : a.eval y = v) (h1 : v.oneCell' = true) (hsz : (sizeOf ty).run P w = .ok 1 w)
    (h : ∀ w1, Mem w0 w1 (blk g t #[v] :: L) → wpList P ops Q rest (a.put o.dst undef) w1) : wpList P ops Q (o :: rest) a w :=
  wl_store1 hM hgd ty x y ho hx v hy h1 hsz (by simp) (fun w1 hM1 => h w1 (by simpa using hM1))
theorem lay_all (cs vs : Array Value) (h : cs.size = vs.size) : lay cs 0 vs.toList = vs := by
  apply Array.ext_getElem?
  intro j
  rw [lay_get _ _ _ (by simp; omega)]
  by_cases hj : j < vs.size
  · rw [if_pos (by simp; omega)]; simp
  · rw [if_neg (by simp; omega), Array.getElem?_eq_none (by omega), Array.getElem?_eq_none (by omega)]
/-- A store over a whole block. -/
theorem wl_storeW {g t : Nat} {cs : Array Value} (hM : Mem w0 w (blk g t cs :: L)) (hgd : Region.wanted o (yielded ops a.tmps) = true) (ty : TypeId) (x y : Operand) (ho : o.op = .store ty x y) (hx : a.eval x = .pointer (some ⟨g, 0, none⟩))
    (vs : Array Value) (hy : a.eval y = .agg vs) (hsz : (sizeOf ty).run P w = .ok vs.size w) (hn : cs.size = vs.size) (h1 : vs.all (·.oneCell') = true)
    (h : ∀ w1, Mem w0 w1 (blk g t vs :: L) → wpList P ops Q rest (a.put o.dst undef) w1) : wpList P ops Q (o :: rest) a w :=
  wl_storeA hM hgd ty x y ho hx vs hy hsz (by omega) h1 (fun w1 hM1 => h w1 (by rw [lay_all cs vs hn] at hM1; exact hM1))
/-- An element of an array by value, of several cells. -/
theorem wl_indexAZ (hgd : Region.wanted o (yielded ops a.tmps) = true) (T : TypeId) (x i : Operand) (ho : o.op = .index T x i) (cs : Array Value) (hx : a.eval x = .agg cs) (k : IntKind) (n : Int) (hi : a.eval i = .int k n)
    (len : Nat) (e : TypeId) (hu : (underlying T).run P w = .ok (.array len e) w) (h0 : 0 ≤ n) (h1 : n < len) (sz : Nat) (hag : (isAgg e).run P w = .ok true w) (hsz : (sizeOf e).run P w = .ok sz w)
    (h : wpList P ops Q rest (a.put o.dst (.agg (cs.extract (n.toNat * sz) (n.toNat * sz + sz)))) w) : wpList P ops Q (o :: rest) a w := by
  refine wl_value hgd ?_ h
  unfold execOp
  simp [ho, hx, hi, Instr.index, asIntOf, Sem.run_bind, hu, h0, h1, hsz, part, hag]
/-- .. of one cell. -/
theorem wl_index1Z (hgd : Region.wanted o (yielded ops a.tmps) = true) (T : TypeId) (x i : Operand) (ho : o.op = .index T x i) (cs : Array Value) (hx : a.eval x = .agg cs) (k : IntKind) (n : Int) (hi : a.eval i = .int k n)
    (len : Nat) (e : TypeId) (hu : (underlying T).run P w = .ok (.array len e) w) (h0 : 0 ≤ n) (h1 : n < len) (hag : (isAgg e).run P w = .ok false w) (hsz : (sizeOf e).run P w = .ok 1 w) (v : Value) (hv : cs[n.toNat]? = some v)
    (h : wpList P ops Q rest (a.put o.dst v) w) : wpList P ops Q (o :: rest) a w := by
  refine wl_value hgd ?_ h
  unfold execOp
  simp [ho, hx, hi, Instr.index, asIntOf, Sem.run_bind, hu, h0, h1, hsz, part, hag, hv]
theorem wl_indexA (hgd : Region.wanted o (yielded ops a.tmps) = true) (T : TypeId) (x i : Operand) (ho : o.op = .index T x i) (cs : Array Value) (hx : a.eval x = .agg cs) (k : IntKind) (n : Nat) (hi : a.eval i = .int k n)
    (len : Nat) (e : TypeId) (hu : (underlying T).run P w = .ok (.array len e) w) (h1 : n < len) (sz : Nat) (hag : (isAgg e).run P w = .ok true w) (hsz : (sizeOf e).run P w = .ok sz w)
    (h : wpList P ops Q rest (a.put o.dst (.agg (cs.extract (n * sz) (n * sz + sz)))) w) : wpList P ops Q (o :: rest) a w :=
  wl_indexAZ hgd T x i ho cs hx k n hi len e hu (by omega) (by omega) sz hag hsz h
theorem wl_index1 (hgd : Region.wanted o (yielded ops a.tmps) = true) (T : TypeId) (x i : Operand) (ho : o.op = .index T x i) (cs : Array Value) (hx : a.eval x = .agg cs) (k : IntKind) (n : Nat) (hi : a.eval i = .int k n)
    (len : Nat) (e : TypeId) (hu : (underlying T).run P w = .ok (.array len e) w) (h1 : n < len) (hag : (isAgg e).run P w = .ok false w) (hsz : (sizeOf e).run P w = .ok 1 w) (v : Value) (hv : cs[n]? = some v)
    (h : wpList P ops Q rest (a.put o.dst v) w) : wpList P ops Q (o :: rest) a w :=
  wl_index1Z hgd T x i ho cs hx k n hi len e hu (by omega) (by omega) hag hsz v hv h
/-- The end: a result that lies in a block of its own. -/
theorem bp_cell {fn : Func} {R : Ending → World → Prop} {p : Tmp} {ty : TypeId} {g t : Nat} {cs : Array Value} (hM : Mem w0 w (blk g t cs :: L)) (h : fn.results = #[.cell p ty]) (hp : a.tmps.getD p undef = .pointer (some ⟨g, 0, none⟩))
    (hag : (isAgg ty).run P w = .ok true w) (hsz : (sizeOf ty).run P w = .ok cs.size w) (hd : a.defers = []) (hR : R (.returned (.agg cs)) w) : bodyPost P fn R .ret a w := by
  have hl := run_loadVar_part hM.head ty cs.size hag hsz (off := 0) (by omega)
  have e : cs.extract 0 (0 + cs.size) = cs := by simp
  rw [e] at hl
  have hp' : a.tmps[p]?.getD undef = .pointer (some ⟨g, 0, none⟩) := by simpa using hp
  refine bodyPost_ret ?_ hd hR
  simp [results, h, hp', asAddr, hl]
theorem bp_cell_tmp {fn : Func} {R : Ending → World → Prop} {p u : Tmp} {ty : TypeId} {g t : Nat} {cs : Array Value} (hM : Mem w0 w (blk g t cs :: L)) (h : fn.results = #[.cell p ty, .tmp u]) (hp : a.tmps.getD p undef = .pointer (some ⟨g, 0, none⟩))
    (hag : (isAgg ty).run P w = .ok true w) (hsz : (sizeOf ty).run P w = .ok cs.size w) (v : Value) (hu : a.tmps.getD u undef = v) (hd : a.defers = []) (hR : R (.returned (.tuple #[.agg cs, v])) w) : bodyPost P fn R .ret a w := by
  have hl := run_loadVar_part hM.head ty cs.size hag hsz (off := 0) (by omega)
  have e : cs.extract 0 (0 + cs.size) = cs := by simp
  rw [e] at hl
  have hp' : a.tmps[p]?.getD undef = .pointer (some ⟨g, 0, none⟩) := by simpa using hp
  refine bodyPost_ret ?_ hd hR
  rw [results_cell_tmp h]
  simp [hp', asAddr, hl, ← hu]
end
end Go.Proofs.Ytenaklgkbchbdaa
