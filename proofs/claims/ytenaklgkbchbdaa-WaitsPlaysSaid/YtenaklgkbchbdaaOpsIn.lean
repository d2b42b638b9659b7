/- The rules of XOps and XVec for operations inside a fence: printed by tools/twin.py. Conditions: as each rule says; plain theorems over any program. -/
import Derived.Test.YtenaklgkbchbdaaVec
import Derived.OwnWalkIn
set_option linter.unusedVariables false
set_option linter.unusedSimpArgs false
namespace Go.Proofs.Ytenaklgkbchbdaa
open Go.RowKit
section
variable {F : Fence} {nF : Nat} {P : Program} {w0 w : World} {L : List Res} {ops : Array Oper} {rest : List Oper} {o : Oper} {a : Act} {Q : Exit → Act → World → Prop}

theorem wi_value {v : Value} {w' : World} (hgd : Region.wanted o (yielded ops a.tmps) = true) (hr : (execOp a.eval o).run P w = .ok (.value v) w') (h : wpListIn F nF P ops Q rest (a.put o.dst v) w')
    (hab : o.about P w a.eval = none := by simp [Oper.about, resolve, Target.leads, *]) (hnd : ∀ c, o.op ≠ .defer c := by intro c hc; simp_all) : wpListIn F nF P ops Q (o :: rest) a w :=
  wpListIn_step fun K hK => by
    rw [if_pos hgd]; unfold Oper.wpIn
    refine ⟨by simp [hab], ?_⟩
    rw [Oper.semAt_plain F _ _ hnd, hr]; exact hK _ _ h
theorem wi_skip {w' : World} (hgd : Region.wanted o (yielded ops a.tmps) = true) (hr : (execOp a.eval o).run P w = .ok .skip w') (h : wpListIn F nF P ops Q rest (a.put o.dst undef) w')
    (hab : o.about P w a.eval = none := by simp [Oper.about, resolve, Target.leads, *]) (hnd : ∀ c, o.op ≠ .defer c := by intro c hc; simp_all) : wpListIn F nF P ops Q (o :: rest) a w :=
  wpListIn_step fun K hK => by
    rw [if_pos hgd]; unfold Oper.wpIn
    refine ⟨by simp [hab], ?_⟩
    rw [Oper.semAt_plain F _ _ hnd, hr]; exact hK _ _ h
theorem wi_alloc (hM : Mem w0 w L) (hgd : Region.wanted o (yielded ops a.tmps) = true) (T : TypeId) (ho : o.op = .alloc T) (z : Value) (hz : (zeroValue T).run P w = .ok z w)
    (h : ∀ g w1, Mem w0 w1 (blk g T z.cells :: L) → wpListIn F nF P ops Q rest (a.put o.dst (.pointer (some ⟨g, 0, none⟩))) w1) : wpListIn F nF P ops Q (o :: rest) a w := by
  refine wi_value (v := .pointer (some ⟨w.heap.size, 0, none⟩)) (w' := w.alloc (.cells z.cells T)) hgd ?_ (h _ _ (mem_alloc hM T z.cells))
  unfold execOp
  simp only [ho, Instr.alloc, Sem.run_bind, hz, Result.andThen_ok]
  rfl
theorem wi_box (hM : Mem w0 w L) (hgd : Region.wanted o (yielded ops a.tmps) = true) (T : TypeId) (x : Operand) (ho : o.op = .box T x) (z : Value) (hz : a.eval x = z)
    (h : ∀ g w1, Mem w0 w1 (blk g T z.cells :: L) → wpListIn F nF P ops Q rest (a.put o.dst (.pointer (some ⟨g, 0, none⟩))) w1) : wpListIn F nF P ops Q (o :: rest) a w := by
  refine wi_value (v := .pointer (some ⟨w.heap.size, 0, none⟩)) (w' := w.alloc (.cells z.cells T)) hgd ?_ (h _ _ (mem_alloc hM T z.cells))
  unfold execOp
  simp only [ho, hz]
  rfl
theorem wi_load1 {g t off : Nat} {cs : Array Value} (hM : Mem w0 w (blk g t cs :: L)) (hgd : Region.wanted o (yielded ops a.tmps) = true) (ty : TypeId) (x : Operand) (ho : o.op = .load ty x) (hx : a.eval x = .pointer (some ⟨g, off, none⟩))
    (v : Value) (hv : cs[off]? = some v) (hna : (isAgg ty).run P w = .ok false w) (h : wpListIn F nF P ops Q rest (a.put o.dst v) w) : wpListIn F nF P ops Q (o :: rest) a w := by
  refine wi_value hgd ?_ h
  have hc : w.cell? ⟨g, off, none⟩ = some v := (cell_blk hM.head).trans hv
  unfold execOp
  simp [ho, hx, Instr.loadAt, Instr.sureAddr, loadVar, Sem.run_bind, hna, load, Sem.run, hc]
theorem wi_loadA {g t off : Nat} {cs : Array Value} (hM : Mem w0 w (blk g t cs :: L)) (hgd : Region.wanted o (yielded ops a.tmps) = true) (ty : TypeId) (x : Operand) (ho : o.op = .load ty x) (hx : a.eval x = .pointer (some ⟨g, off, none⟩))
    (n : Nat) (hag : (isAgg ty).run P w = .ok true w) (hsz : (sizeOf ty).run P w = .ok n w) (hn : off + n ≤ cs.size) (h : wpListIn F nF P ops Q rest (a.put o.dst (.agg (cs.extract off (off + n)))) w) : wpListIn F nF P ops Q (o :: rest) a w := by
  refine wi_value hgd ?_ h
  unfold execOp
  simp [ho, hx, Instr.loadAt, Instr.sureAddr, Sem.run_bind, run_loadVar_part hM.head ty n hag hsz hn]
theorem wi_loadW {g t : Nat} {cs : Array Value} (hM : Mem w0 w (blk g t cs :: L)) (hgd : Region.wanted o (yielded ops a.tmps) = true) (ty : TypeId) (x : Operand) (ho : o.op = .load ty x) (hx : a.eval x = .pointer (some ⟨g, 0, none⟩))
    (hag : (isAgg ty).run P w = .ok true w) (hsz : (sizeOf ty).run P w = .ok cs.size w) (h : wpListIn F nF P ops Q rest (a.put o.dst (.agg cs)) w) : wpListIn F nF P ops Q (o :: rest) a w := by
  refine wi_loadA hM hgd ty x ho hx cs.size hag hsz (by omega) ?_
  have e : cs.extract 0 (0 + cs.size) = cs := by simp
  rw [e]; exact h
theorem wi_store {g t off : Nat} {cs : Array Value} (hM : Mem w0 w (blk g t cs :: L)) (hgd : Region.wanted o (yielded ops a.tmps) = true) (ty : TypeId) (x y : Operand) (ho : o.op = .store ty x y) (hx : a.eval x = .pointer (some ⟨g, off, none⟩))
    (v : Value) (hy : a.eval y = v) (hsz : (sizeOf ty).run P w = .ok v.cells.size w) (hn : off + v.cells.size ≤ cs.size) (h1 : v.cells.all (·.oneCell') = true)
    (h : ∀ w1, Mem w0 w1 (blk g t (lay cs off v.cells.toList) :: L) → wpListIn F nF P ops Q rest (a.put o.dst undef) w1) : wpListIn F nF P ops Q (o :: rest) a w := by
  refine wi_skip (w' := w.setRow g (lay cs off v.cells.toList)) hgd ?_ (h _ (mem_store hM))
  have hst := run_storeCells_at P g off t v.cells.toList 0 cs w hM.head (by simpa using hn) (fun u hu => (Array.all_eq_true_iff_forall_mem.1 h1) u (by simpa using hu))
  simp only [Nat.add_zero] at hst
  unfold execOp
  simp [ho, hx, hy, Instr.storeAt, Instr.sureAddr, storeVar, Sem.run_bind, hsz, hst, lay]
theorem wi_store1 {g t off : Nat} {cs : Array Value} (hM : Mem w0 w (blk g t cs :: L)) (hgd : Region.wanted o (yielded ops a.tmps) = true) (ty : TypeId) (x y : Operand) (ho : o.op = .store ty x y) (hx : a.eval x = .pointer (some ⟨g, off, none⟩))
    (v : Value) (hy : a.eval y = v) (h1 : v.oneCell' = true) (hsz : (sizeOf ty).run P w = .ok 1 w) (hn : off < cs.size)
    (h : ∀ w1, Mem w0 w1 (blk g t (cs.setIfInBounds off v) :: L) → wpListIn F nF P ops Q rest (a.put o.dst undef) w1) : wpListIn F nF P ops Q (o :: rest) a w := by
  have hc : v.cells = #[v] := by cases v <;> simp_all [Value.cells, Value.oneCell']
  refine wi_store hM hgd ty x y ho hx v hy (by rw [hc]; simpa using hsz) (by rw [hc]; simp; omega) (by rw [hc]; simpa using h1) (fun w1 hM1 => h w1 ?_)
  rw [hc] at hM1
  rw [← lay_one cs off v hn]; simpa using hM1
theorem wi_alloc1 (hM : Mem w0 w L) (hgd : Region.wanted o (yielded ops a.tmps) = true) (T : TypeId) (ho : o.op = .alloc T) (z : Value) (hz : (zeroValue T).run P w = .ok z w) (hc : z.cells = #[z])
    (h : ∀ g w1, Mem w0 w1 (blk g T #[z] :: L) → wpListIn F nF P ops Q rest (a.put o.dst (.pointer (some ⟨g, 0, none⟩))) w1) : wpListIn F nF P ops Q (o :: rest) a w :=
  wi_alloc hM hgd T ho z hz (fun g w1 h1 => h g w1 (by rw [hc] at h1; exact h1))
theorem wi_allocA (hM : Mem w0 w L) (hgd : Region.wanted o (yielded ops a.tmps) = true) (T : TypeId) (ho : o.op = .alloc T) (cs : Array Value) (hz : (zeroValue T).run P w = .ok (.agg cs) w)
    (h : ∀ g w1, Mem w0 w1 (blk g T cs :: L) → wpListIn F nF P ops Q rest (a.put o.dst (.pointer (some ⟨g, 0, none⟩))) w1) : wpListIn F nF P ops Q (o :: rest) a w :=
  wi_alloc hM hgd T ho (.agg cs) hz h
theorem wi_box1 (hM : Mem w0 w L) (hgd : Region.wanted o (yielded ops a.tmps) = true) (T : TypeId) (x : Operand) (ho : o.op = .box T x) (z : Value) (hz : a.eval x = z) (hc : z.cells = #[z])
    (h : ∀ g w1, Mem w0 w1 (blk g T #[z] :: L) → wpListIn F nF P ops Q rest (a.put o.dst (.pointer (some ⟨g, 0, none⟩))) w1) : wpListIn F nF P ops Q (o :: rest) a w :=
  wi_box hM hgd T x ho z hz (fun g w1 h1 => h g w1 (by rw [hc] at h1; exact h1))
theorem wi_boxA (hM : Mem w0 w L) (hgd : Region.wanted o (yielded ops a.tmps) = true) (T : TypeId) (x : Operand) (ho : o.op = .box T x) (cs : Array Value) (hz : a.eval x = .agg cs)
    (h : ∀ g w1, Mem w0 w1 (blk g T cs :: L) → wpListIn F nF P ops Q rest (a.put o.dst (.pointer (some ⟨g, 0, none⟩))) w1) : wpListIn F nF P ops Q (o :: rest) a w :=
  wi_box hM hgd T x ho (.agg cs) hz h
theorem wi_storeA {g t off : Nat} {cs : Array Value} (hM : Mem w0 w (blk g t cs :: L)) (hgd : Region.wanted o (yielded ops a.tmps) = true) (ty : TypeId) (x y : Operand) (ho : o.op = .store ty x y) (hx : a.eval x = .pointer (some ⟨g, off, none⟩))
    (vs : Array Value) (hy : a.eval y = .agg vs) (hsz : (sizeOf ty).run P w = .ok vs.size w) (hn : off + vs.size ≤ cs.size) (h1 : vs.all (·.oneCell') = true)
    (h : ∀ w1, Mem w0 w1 (blk g t (lay cs off vs.toList) :: L) → wpListIn F nF P ops Q rest (a.put o.dst undef) w1) : wpListIn F nF P ops Q (o :: rest) a w :=
  wi_store hM hgd ty x y ho hx (.agg vs) hy hsz hn h1 h
theorem wi_loadO {b off : Nat} {v : Value} (hM : Mem w0 w L) (hgd : Region.wanted o (yielded ops a.tmps) = true) (ty : TypeId) (x : Operand) (ho : o.op = .load ty x) (hx : a.eval x = .pointer (some ⟨b, off, none⟩))
    (hc : w0.cell? ⟨b, off, none⟩ = some v) (hna : (isAgg ty).run P w = .ok false w) (h : wpListIn F nF P ops Q rest (a.put o.dst v) w) : wpListIn F nF P ops Q (o :: rest) a w := by
  refine wi_value hgd ?_ h
  have hc : w.cell? ⟨b, off, none⟩ = some v := (hM.below.cell (p := ⟨b, off, none⟩) (World.block_lt_of_cell? w0 _ hc)).trans hc
  unfold execOp
  simp [ho, hx, Instr.loadAt, Instr.sureAddr, loadVar, Sem.run_bind, hna, load, Sem.run, hc]
theorem wi_storeV {g t : Nat} {u : Value} (hM : Mem w0 w (blk g t #[u] :: L)) (hgd : Region.wanted o (yielded ops a.tmps) = true) (ty : TypeId) (x y : Operand) (ho : o.op = .store ty x y) (hx : a.eval x = .pointer (some ⟨g, 0, none⟩))
    (v : Value) (hy : a.eval y = v) (h1 : v.oneCell' = true) (hsz : (sizeOf ty).run P w = .ok 1 w)
    (h : ∀ w1, Mem w0 w1 (blk g t #[v] :: L) → wpListIn F nF P ops Q rest (a.put o.dst undef) w1) : wpListIn F nF P ops Q (o :: rest) a w :=
  wi_store1 hM hgd ty x y ho hx v hy h1 hsz (by simp) (fun w1 hM1 => h w1 (by simpa using hM1))
theorem wi_storeW {g t : Nat} {cs : Array Value} (hM : Mem w0 w (blk g t cs :: L)) (hgd : Region.wanted o (yielded ops a.tmps) = true) (ty : TypeId) (x y : Operand) (ho : o.op = .store ty x y) (hx : a.eval x = .pointer (some ⟨g, 0, none⟩))
    (vs : Array Value) (hy : a.eval y = .agg vs) (hsz : (sizeOf ty).run P w = .ok vs.size w) (hn : cs.size = vs.size) (h1 : vs.all (·.oneCell') = true)
    (h : ∀ w1, Mem w0 w1 (blk g t vs :: L) → wpListIn F nF P ops Q rest (a.put o.dst undef) w1) : wpListIn F nF P ops Q (o :: rest) a w :=
  wi_storeA hM hgd ty x y ho hx vs hy hsz (by omega) h1 (fun w1 hM1 => h w1 (by rw [lay_all cs vs hn] at hM1; exact hM1))
theorem wi_indexAZ (hgd : Region.wanted o (yielded ops a.tmps) = true) (T : TypeId) (x i : Operand) (ho : o.op = .index T x i) (cs : Array Value) (hx : a.eval x = .agg cs) (k : IntKind) (n : Int) (hi : a.eval i = .int k n)
    (len : Nat) (e : TypeId) (hu : (underlying T).run P w = .ok (.array len e) w) (h0 : 0 ≤ n) (h1 : n < len) (sz : Nat) (hag : (isAgg e).run P w = .ok true w) (hsz : (sizeOf e).run P w = .ok sz w)
    (h : wpListIn F nF P ops Q rest (a.put o.dst (.agg (cs.extract (n.toNat * sz) (n.toNat * sz + sz)))) w) : wpListIn F nF P ops Q (o :: rest) a w := by
  refine wi_value hgd ?_ h
  unfold execOp
  simp [ho, hx, hi, Instr.index, asIntOf, Sem.run_bind, hu, h0, h1, hsz, part, hag]
theorem wi_index1Z (hgd : Region.wanted o (yielded ops a.tmps) = true) (T : TypeId) (x i : Operand) (ho : o.op = .index T x i) (cs : Array Value) (hx : a.eval x = .agg cs) (k : IntKind) (n : Int) (hi : a.eval i = .int k n)
    (len : Nat) (e : TypeId) (hu : (underlying T).run P w = .ok (.array len e) w) (h0 : 0 ≤ n) (h1 : n < len) (hag : (isAgg e).run P w = .ok false w) (hsz : (sizeOf e).run P w = .ok 1 w) (v : Value) (hv : cs[n.toNat]? = some v)
    (h : wpListIn F nF P ops Q rest (a.put o.dst v) w) : wpListIn F nF P ops Q (o :: rest) a w := by
  refine wi_value hgd ?_ h
  unfold execOp
  simp [ho, hx, hi, Instr.index, asIntOf, Sem.run_bind, hu, h0, h1, hsz, part, hag, hv]
theorem wi_indexA (hgd : Region.wanted o (yielded ops a.tmps) = true) (T : TypeId) (x i : Operand) (ho : o.op = .index T x i) (cs : Array Value) (hx : a.eval x = .agg cs) (k : IntKind) (n : Nat) (hi : a.eval i = .int k n)
    (len : Nat) (e : TypeId) (hu : (underlying T).run P w = .ok (.array len e) w) (h1 : n < len) (sz : Nat) (hag : (isAgg e).run P w = .ok true w) (hsz : (sizeOf e).run P w = .ok sz w)
    (h : wpListIn F nF P ops Q rest (a.put o.dst (.agg (cs.extract (n * sz) (n * sz + sz)))) w) : wpListIn F nF P ops Q (o :: rest) a w :=
  wi_indexAZ hgd T x i ho cs hx k n hi len e hu (by omega) (by omega) sz hag hsz h
theorem wi_index1 (hgd : Region.wanted o (yielded ops a.tmps) = true) (T : TypeId) (x i : Operand) (ho : o.op = .index T x i) (cs : Array Value) (hx : a.eval x = .agg cs) (k : IntKind) (n : Nat) (hi : a.eval i = .int k n)
    (len : Nat) (e : TypeId) (hu : (underlying T).run P w = .ok (.array len e) w) (h1 : n < len) (hag : (isAgg e).run P w = .ok false w) (hsz : (sizeOf e).run P w = .ok 1 w) (v : Value) (hv : cs[n]? = some v)
    (h : wpListIn F nF P ops Q rest (a.put o.dst v) w) : wpListIn F nF P ops Q (o :: rest) a w :=
  wi_index1Z hgd T x i ho cs hx k n hi len e hu (by omega) (by omega) hag hsz v hv h
theorem wi_append {e sz n cap : Nat} {A : Option Addr} {xs : List Value} (hM : Mem w0 w (vec e sz A n cap xs :: L)) (hgd : Region.wanted o (yielded ops a.tmps) = true) (s x : Operand) (t : TypeId)
    (ho : o.op = .call { callee := .builtin .append, args := #[s, x], argTypes := #[t, t] }) (hsv : a.eval s = .slice A n cap) {B : Option Addr} {m c : Nat} (hxv : a.eval x = .slice B m c) (news : List Value) (hs : Src sz w B m news) (h1 : ∀ u ∈ news, u.oneCell' = true)
    (z : Value) (bytes : Nat) (hinfo : (P.info? e).map (fun i => (i.zero, i.size, i.bytes)) = some (some z, sz, bytes)) (ht : P.underlying t = some (.slice e)) (hzs : z.cells.size = sz) (hsz : 0 < sz)
    (hlen : n + m ≤ 1099511627776) (hbytes : (n + m) * bytes ≤ 140737488355328)
    (h : ∀ A' cap' w1, Mem w0 w1 (vec e sz A' (n + m) cap' (xs ++ news) :: L) → wpListIn F nF P ops Q rest (a.put o.dst (.slice A' (n + m) cap')) w1) : wpListIn F nF P ops Q (o :: rest) a w := by
  obtain ⟨i, hi, hz, hsi, hby⟩ := info_parts hinfo
  obtain ⟨A', cap', w1, hrun, h2⟩ := run_append_vec (P := P) hM t o.type i z bytes ht hi hz hsi hby hzs hsz (c := c) hs h1 hlen hbytes
  refine wi_value hgd ?_ (h A' cap' w1 h2)
  unfold execOp
  simp [ho, resolve, invoke, builtin, hsv, hxv, Sem.run_bind, hrun]

theorem wi_slice1 (hM : Mem w0 w L) (hgd : Region.wanted o (yielded ops a.tmps) = true) (T : TypeId) (x : Operand) (ho : o.op = .buildSlice T 1 #[(0, x)]) (v : Value) (hx : a.eval x = v) (hv : v.cells = #[v]) {e : TypeId}
    (ht : (underlying T).run P w = .ok (.slice e) w) (hsz : (sizeOf e).run P w = .ok 1 w) (z : Value) (hz : (zeroValue e).run P w = .ok z w) (hzc : z.cells.size = 1)
    (h : ∀ g w1, Mem w0 w1 (blk g e #[v] :: L) → wpListIn F nF P ops Q rest (a.put o.dst (.slice (some ⟨g, 0, none⟩) 1 1)) w1) : wpListIn F nF P ops Q (o :: rest) a w := by
  refine wi_value (v := .slice (some ⟨w.heap.size, 0, none⟩) 1 1) (w' := w.alloc (.cells #[v] e)) hgd ?_ (h _ _ (mem_alloc hM e #[v]))
  unfold execOp
  simp [ho, hx, Instr.buildSlice, Sem.run_bind, ht, hsz, hz, hzc, Instr.fill, hv, newRow]
  congr 2
  rw [show Array.range 1 = #[0] from rfl]
  simp
theorem wi_tail1 {e m cap : Nat} {A : Option Addr} {u : Value} {xs : List Value} (hM : Mem w0 w (vec e 1 A (m + 1) cap (u :: xs) :: L)) (hgd : Region.wanted o (yielded ops a.tmps) = true) (T : TypeId) (x k : Operand) (ho : o.op = .slice T x (some k) none none)
    (hx : a.eval x = .slice A (m + 1) cap) (hk : a.eval k = .int .i64 1) (ht : (underlying T).run P w = .ok (.slice e) w) (hsz : (sizeOf e).run P w = .ok 1 w)
    (h : ∀ A', Mem w0 w (vec e 1 A' m (cap - 1) xs :: L) → wpListIn F nF P ops Q rest (a.put o.dst (.slice A' m (cap - 1))) w) : wpListIn F nF P ops Q (o :: rest) a w := by
  have h2 := vec_cut (k := 1) hM (by omega)
  simp only [Nat.add_sub_cancel, Nat.mul_one, List.drop_succ_cons, List.drop_zero] at h2
  refine wi_value hgd ?_ (h _ h2)
  have h3 := run_slice_from (P := P) (w := w) (t := T) (e := e) (n := m + 1) (cap := cap) (A := A) 1 (kd := .i64) ht hsz (by omega)
  have hk' : (a.eval k) = .int .i64 ((1 : Nat) : Int) := hk
  unfold execOp
  simp [ho, hx, hk', Sem.run_bind, Instr.sliceAt, ht]
  simpa using congrArg (fun r => r.andThen fun v w' => Result.ok (Next.value v) w') h3
theorem wi_loadC {b off : Nat} {v : Value} (hgd : Region.wanted o (yielded ops a.tmps) = true) (ty : TypeId) (x : Operand) (ho : o.op = .load ty x) (hx : a.eval x = .pointer (some ⟨b, off, none⟩))
    (hc : w.cell? ⟨b, off, none⟩ = some v) (hna : (isAgg ty).run P w = .ok false w) (h : wpListIn F nF P ops Q rest (a.put o.dst v) w) : wpListIn F nF P ops Q (o :: rest) a w := by
  refine wi_value hgd ?_ h
  unfold execOp
  simp [ho, hx, Instr.loadAt, Instr.sureAddr, loadVar, Sem.run_bind, hna, load, Sem.run, hc]
end
end Go.Proofs.Ytenaklgkbchbdaa
