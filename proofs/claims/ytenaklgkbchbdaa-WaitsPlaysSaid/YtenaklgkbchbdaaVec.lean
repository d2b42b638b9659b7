/- Slices of the call's own, at whatever place of their block: append, a cut, a one-element literal. Conditions: as each rule says; plain theorems over any program. -/
import Derived.Test.YtenaklgkbchbdaaSl
import Derived.ArgAppend
import Derived.Laws.Append
set_option linter.unusedVariables false
set_option linter.unusedSimpArgs false
namespace Go.Proofs.Ytenaklgkbchbdaa
open Go.RowKit

/-- The slice value (A, n, cap) is the call's own, alone on its block; its elements' cells are xs. -/
def vec (e : TypeId) (sz : Nat) (A : Option Addr) (n cap : Nat) (xs : List Value) : Res where
  foot := fun i => ∃ a, A = some a ∧ i = a.block
  ok := fun w => xs.length = n * sz ∧ ((A = none ∧ n = 0 ∧ cap = 0) ∨ ∃ g o cur, A = some ⟨g, o, none⟩ ∧ w.heap[g]? = some (.cells cur e (0, 0)) ∧ n ≤ cap ∧ cap ≤ maxLen ∧ o + cap * sz ≤ cur.size ∧ (cur.toList.drop o).take (n * sz) = xs)
  loc := fun {w w'} h hk => by
    refine ⟨hk.1, ?_⟩
    rcases hk.2 with h0 | ⟨g, o, cur, hA, hg, hr⟩
    · exact .inl h0
    · exact .inr ⟨g, o, cur, hA, (h g ⟨_, hA, rfl⟩).trans hg, hr⟩
  dom := fun {w} h i ⟨a, ha, hi⟩ => by
    rcases h.2 with ⟨h0, _⟩ | ⟨g, o, cur, hA, hg, hr⟩
    · rw [h0] at ha; cases ha
    · rw [hA] at ha; cases ha; subst hi
      exact (Array.getElem?_eq_some_iff.1 hg).1

/-- What a source of m elements holds. -/
def Src (sz : Nat) (w : World) (B : Option Addr) (m : Nat) (news : List Value) : Prop :=
  news.length = m * sz ∧ (0 < m → ∃ b o, B = some ⟨b, o, none⟩ ∧ ∀ j u, news[j]? = some u → w.cell? ⟨b, o + j, none⟩ = some u)

theorem vec_of_row {e sz n cap : Nat} {A : Option Addr} {xs : List Value} {w : World} (h : (row e sz (.slice A n cap) n xs).ok w) : (vec e sz A n cap xs).ok w := by
  refine ⟨h.1, ?_⟩
  rcases h.2 with ⟨hv, hn⟩ | ⟨g, c, cur, hv, _, hg, hn, hc, hs, ht⟩
  · injection hv with h1 h2 h3; exact .inl ⟨h1, hn, h3⟩
  · injection hv with h1 h2 h3
    subst h3
    exact .inr ⟨g, 0, cur, h1, hg, hn, hc, by omega, by simpa using ht⟩
theorem vec_foot {e sz n cap : Nat} {A : Option Addr} {xs : List Value} (i : Nat) (h : (vec e sz A n cap xs).foot i) : (row e sz (.slice A n cap) n xs).foot i := by
  obtain ⟨a, rfl, rfl⟩ := h
  simp [row, Value.ownBlock]
theorem Mem.toVec {w0 w : World} {L : List Res} {e sz n cap : Nat} {A : Option Addr} {xs : List Value} (h : Mem w0 w (row e sz (.slice A n cap) n xs :: L)) : Mem w0 w (vec e sz A n cap xs :: L) :=
  h.weaken vec_of_row vec_foot
theorem Mem.vecNil {w0 w : World} {L : List Res} (h : Mem w0 w L) (e sz : Nat) : Mem w0 w (vec e sz none 0 0 [] :: L) :=
  h.add (Below.refl _ _) ⟨by simp, .inl ⟨rfl, rfl, rfl⟩⟩ (fun i ⟨a, ha, _⟩ => by cases ha)
theorem vec_src {e sz n cap : Nat} {A : Option Addr} {xs : List Value} {w : World} (h : (vec e sz A n cap xs).ok w) : Src sz w A n xs := by
  refine ⟨h.1, fun hn => ?_⟩
  rcases h.2 with ⟨_, h0, _⟩ | ⟨g, o, cur, hA, hg, hn', hc, hs, ht⟩
  · omega
  · refine ⟨g, o, hA, fun j u hu => ?_⟩
    rw [cell_blk hg]
    rw [← ht, List.getElem?_take, List.getElem?_drop] at hu
    split at hu
    · rw [← Array.getElem?_toList]; exact hu
    · cases hu
theorem vec_cell {e sz n cap : Nat} {A : Option Addr} {xs : List Value} {w : World} (h : (vec e sz A n cap xs).ok w) {j : Nat} (hj : j < n * sz) : ∃ g o u, A = some ⟨g, o, none⟩ ∧ xs[j]? = some u ∧ w.cell? ⟨g, o + j, none⟩ = some u := by
  have hn : 0 < n := by
    rcases Nat.eq_zero_or_pos n with h0 | h0
    · subst h0; omega
    · exact h0
  obtain ⟨b, o, hA, hc⟩ := (vec_src h).2 hn
  have hl : j < xs.length := by rw [h.1]; exact hj
  exact ⟨b, o, xs[j], hA, List.getElem?_eq_getElem hl, hc j _ (List.getElem?_eq_getElem hl)⟩
/-- A slice that is read is a source. -/
theorem src_of_sl {α : Type} {R : World → α → List Value → Prop} {w : World} {A : Option Addr} {xs : List α} {enc : α → Value} (h : Sl R 1 w A xs) (hR : ∀ w x cs, R w x cs → cs = [enc x]) : Src 1 w A xs.length (xs.map enc) := by
  refine ⟨by simp, fun h0 => ?_⟩
  obtain ⟨b, o, cs, rfl, _⟩ := h 0 h0
  refine ⟨b, o, rfl, fun j u hu => ?_⟩
  have hj : j < xs.length := by
    rcases Nat.lt_or_ge j xs.length with h1 | h1
    · exact h1
    · rw [List.getElem?_eq_none (by simpa using h1)] at hu; cases hu
  obtain ⟨b', o', cs', hA, hlt, hl, hr, hc⟩ := h j hj
  cases hA
  rw [hR _ _ _ hr] at hc
  have := hc 0 _ rfl
  rw [List.getElem?_map, List.getElem?_eq_getElem hj] at hu
  injection hu with hu
  rw [← hu]; simpa using this
theorem Src.mem {sz m : Nat} {w0 w : World} {B : Option Addr} {news : List Value} {L : List Res} (h : Src sz w0 B m news) (h1 : 0 < sz) (hM : Mem w0 w L) : Src sz w B m news := by
  refine ⟨h.1, fun hm => ?_⟩
  obtain ⟨b, o, hB, hc⟩ := h.2 hm
  exact ⟨b, o, hB, fun j u hu => (hM.below.cell (p := ⟨b, o + j, none⟩) (World.block_lt_of_cell? w0 _ (hc j u hu))).trans (hc j u hu)⟩

section
variable {P : Program} {w0 w : World} {L : List Res} {ops : Array Oper} {rest : List Oper} {o : Oper} {a : Act} {Q : Exit → Act → World → Prop}

theorem mem_setCells {g of : Nat} {cur : Array Value} {e : TypeId} {news : List Value} (hg : w.heap[g]? = some (.cells cur e (0, 0))) (h : of + news.length ≤ cur.size) (h1 : ∀ u ∈ news, u.oneCell' = true) :
    (storeCells ⟨g, of, none⟩ news).run P w = .ok () (w.setRow g (lay cur of news)) := by
  have hst := run_storeCells_at P g of e news 0 cur w hg (by simpa using h) h1
  simpa [lay] using hst

/-- append(s, x...), s the call's own. -/
theorem run_append_vec {e sz n cap : Nat} {A : Option Addr} {xs : List Value} (hM : Mem w0 w (vec e sz A n cap xs :: L)) (t ty : TypeId) (i : TypeInfo) (z : Value) (bytes : Nat) (ht : P.underlying t = some (.slice e)) (hi : P.info? e = some i)
    (hz : i.zero = some z) (hsize : i.size = sz) (hby : i.bytes = bytes) (hzs : z.cells.size = sz) (hsz : 0 < sz) {B : Option Addr} {m c : Nat} {news : List Value} (hs : Src sz w B m news) (h1 : ∀ u ∈ news, u.oneCell' = true)
    (hlen : n + m ≤ 1099511627776) (hbytes : (n + m) * bytes ≤ 140737488355328) :
    ∃ A' cap' w1, (Builtin.append_ #[t, t] ty #[.slice A n cap, .slice B m c]).run P w = .ok (.slice A' (n + m) cap') w1 ∧ Mem w0 w1 (vec e sz A' (n + m) cap' (xs ++ news) :: L) := by
  subst hsize
  subst hby
  have hok := hM.head
  have hml : n + m ≤ maxLen := by unfold maxLen; omega
  rcases Nat.eq_zero_or_pos m with h0 | h0
  · subst h0
    have hn : news = [] := List.eq_nil_of_length_eq_zero (by simpa using hs.1)
    subst hn
    refine ⟨A, cap, w, ?_, by simpa using hM⟩
    rcases hok.2 with ⟨rfl, rfl, rfl⟩ | ⟨g, of, cur, rfl, hg, hn', hc, hsz', htk⟩
    · rcases B with _ | b
      · simp [Builtin.append_, run_underlying ht, sizeOf, typeInfo, hi, Builtin.lenOf, Builtin.firstCells]
      · simp [Builtin.append_, run_underlying ht, sizeOf, typeInfo, hi, Builtin.lenOf, Builtin.firstCells, loadCells, loadCellsFrom]
    · rcases B with _ | b
      · simp [Builtin.append_, run_underlying ht, sizeOf, typeInfo, hi, Builtin.lenOf, Builtin.firstCells, hn', storeCells]
      · simp [Builtin.append_, run_underlying ht, sizeOf, typeInfo, hi, Builtin.lenOf, Builtin.firstCells, hn', storeCells, loadCells, loadCellsFrom]
  · obtain ⟨b, bo, rfl, hsrc⟩ := hs.2 h0
    have hnews : ∀ j u, news[j]? = some u → w.cell? ((⟨b, bo, none⟩ : Addr).add j) = some u := fun j u hu => by rw [addr_add]; exact hsrc j u hu
    rcases hok.2 with ⟨rfl, rfl, rfl⟩ | ⟨g, of, cur, rfl, hg, hn', hc, hsz', htk⟩
    · have hx : xs = [] := List.eq_nil_of_length_eq_zero (by simpa using hok.1)
      subst hx
      obtain ⟨v', w', hrun, hown, hgr, _⟩ := run_append_own (P := P) w w.heap.size t ty e i z i.size i.bytes ht hi hz rfl rfl hzs hsz (.slice none 0 0) 0 [] (World.ownsRow_nil _ _ _ _) ⟨b, bo, none⟩ m c news hs.1 hnews h1 hml hbytes (Nat.le_refl _)
      rcases hown.2 with ⟨_, hbad⟩ | ⟨g', c', cur', rfl, hge, hg', hr'⟩
      · omega
      · refine ⟨_, _, w', hrun, ?_⟩
        have hb : Below w.heap.size w w' := (Below.refl _ w).grown hgr (Nat.le_refl _) (fun k hk => by simp [Value.ownBlock] at hk)
        have hN := row_of_owns hown hb
        exact (hM.drop.trans1 hN).toVec
    · by_cases hfit : n + m ≤ cap
      · have hn0 : n * i.size + m * i.size ≤ cap * i.size := by rw [← Nat.add_mul]; exact Nat.mul_le_mul_right _ hfit
        have hl := hs.1
        refine ⟨some ⟨g, of, none⟩, cap, w.setRow g (lay cur (of + n * i.size) news), ?_, ?_⟩
        · have hfc := run_firstCells_some (P := P) w i.size m ⟨b, bo, none⟩ m c news hs.1 hnews
          have hst := mem_setCells (P := P) (of := of + n * i.size) hg (by omega) h1
          simp [Builtin.append_, run_underlying ht, sizeOf, typeInfo, hi, Builtin.lenOf, hfit, hfc, addr_add, hst]
        · refine hM.turn rfl rfl rfl (by simp) (fun k hk hne => setRow_other w g k _ (fun e => hne ⟨_, rfl, e⟩)) ⟨by rw [List.length_append, hok.1, hl, Nat.add_mul], .inr ⟨g, of, _, rfl, setRow_heap w g cur _ e (0, 0) hg, hfit, hc, by rw [lay_size _ _ _ (by omega)]; exact hsz', ?_⟩⟩ (fun i hi => .inl hi)
          apply List.ext_getElem?
          intro j
          rw [List.getElem?_take, List.getElem?_drop, Array.getElem?_toList, lay_get _ _ _ (by omega), Nat.add_mul]
          by_cases hj : j < n * i.size
          · rw [if_pos (by omega), if_neg (by omega), List.getElem?_append_left (by rw [hok.1]; exact hj), ← htk, List.getElem?_take, if_pos hj, List.getElem?_drop, Array.getElem?_toList]
          · rw [List.getElem?_append_right (by rw [hok.1]; omega), hok.1]
            by_cases hj2 : j < n * i.size + m * i.size
            · rw [if_pos hj2, if_pos (by omega)]
              congr 1; omega
            · rw [if_neg hj2, List.getElem?_eq_none (by omega)]
      · have hcell : ∀ j u, xs[j]? = some u → w.cell? ((⟨g, of, none⟩ : Addr).add j) = some u := fun j u hu => by
          rw [addr_add]
          have hj : j < xs.length := by
            rcases Nat.lt_or_ge j xs.length with h2 | h2
            · exact h2
            · rw [List.getElem?_eq_none h2] at hu; cases hu
          obtain ⟨g2, o2, u2, hA, hu2, hc2⟩ := vec_cell hok (j := j) (by rw [← hok.1]; exact hj)
          cases hA
          rw [hu] at hu2; cases hu2; exact hc2
        obtain ⟨v', w', hrun, hown, hgr⟩ := run_append_arg_grows (P := P) w t ty e i z i.size i.bytes ht hi hz rfl rfl hzs hsz ⟨g, of, none⟩ n cap xs hok.1 hcell ⟨b, bo, none⟩ m c news hs.1 hnews (by omega) hml hbytes
        rcases hown.2 with ⟨_, hbad⟩ | ⟨g', c', cur', rfl, hge, hg', hr'⟩
        · omega
        · refine ⟨_, _, w', hrun, ?_⟩
          have hb : Below w.heap.size w w' := (Below.refl _ w).grown hgr (Nat.le_refl _) (fun k hk => by simp at hk)
          exact (hM.drop.trans1 (row_of_owns hown hb)).toVec

theorem wl_append {e sz n cap : Nat} {A : Option Addr} {xs : List Value} (hM : Mem w0 w (vec e sz A n cap xs :: L)) (hgd : Region.wanted o (yielded ops a.tmps) = true) (s x : Operand) (t : TypeId)
    (ho : o.op = .call { callee := .builtin .append, args := #[s, x], argTypes := #[t, t] }) (hsv : a.eval s = .slice A n cap) {B : Option Addr} {m c : Nat} (hxv : a.eval x = .slice B m c) (news : List Value) (hs : Src sz w B m news) (h1 : ∀ u ∈ news, u.oneCell' = true)
    (z : Value) (bytes : Nat) (hinfo : (P.info? e).map (fun i => (i.zero, i.size, i.bytes)) = some (some z, sz, bytes)) (ht : P.underlying t = some (.slice e)) (hzs : z.cells.size = sz) (hsz : 0 < sz)
    (hlen : n + m ≤ 1099511627776) (hbytes : (n + m) * bytes ≤ 140737488355328)
    (h : ∀ A' cap' w1, Mem w0 w1 (vec e sz A' (n + m) cap' (xs ++ news) :: L) → wpList P ops Q rest (a.put o.dst (.slice A' (n + m) cap')) w1) : wpList P ops Q (o :: rest) a w := by
  obtain ⟨i, hi, hz, hsi, hby⟩ := info_parts hinfo
  obtain ⟨A', cap', w1, hrun, h2⟩ := run_append_vec (P := P) hM t o.type i z bytes ht hi hz hsi hby hzs hsz (c := c) hs h1 hlen hbytes
  refine wl_value hgd ?_ (h A' cap' w1 h2)
  unfold execOp
  simp [ho, resolve, invoke, builtin, hsv, hxv, Sem.run_bind, hrun]

/-- A literal of one element of one cell. -/
theorem wl_slice1 (hM : Mem w0 w L) (hgd : Region.wanted o (yielded ops a.tmps) = true) (T : TypeId) (x : Operand) (ho : o.op = .buildSlice T 1 #[(0, x)]) (v : Value) (hx : a.eval x = v) (hv : v.cells = #[v]) {e : TypeId}
    (ht : (underlying T).run P w = .ok (.slice e) w) (hsz : (sizeOf e).run P w = .ok 1 w) (z : Value) (hz : (zeroValue e).run P w = .ok z w) (hzc : z.cells.size = 1)
    (h : ∀ g w1, Mem w0 w1 (blk g e #[v] :: L) → wpList P ops Q rest (a.put o.dst (.slice (some ⟨g, 0, none⟩) 1 1)) w1) : wpList P ops Q (o :: rest) a w := by
  refine wl_value (v := .slice (some ⟨w.heap.size, 0, none⟩) 1 1) (w' := w.alloc (.cells #[v] e)) hgd ?_ (h _ _ (mem_alloc hM e #[v]))
  unfold execOp
  simp [ho, hx, Instr.buildSlice, Sem.run_bind, ht, hsz, hz, hzc, Instr.fill, hv, newRow]
  congr 2
  rw [show Array.range 1 = #[0] from rfl]
  simp
theorem src_blk {g : Nat} {t : TypeId} {v : Value} {w : World} (h : (blk g t #[v]).ok w) : Src 1 w (some ⟨g, 0, none⟩) 1 [v] :=
  ⟨rfl, fun _ => ⟨g, 0, rfl, fun j u hu => by rw [cell_blk h]; simpa using hu⟩⟩

/-- s[k:]. -/
theorem vec_cut {e sz n cap k : Nat} {A : Option Addr} {xs : List Value} (hM : Mem w0 w (vec e sz A n cap xs :: L)) (hk : k ≤ n) : Mem w0 w (vec e sz (if cap = k then A else A.map (·.add (k * sz))) (n - k) (cap - k) (xs.drop (k * sz)) :: L) := by
  refine hM.weaken (fun hok => ⟨by rw [List.length_drop, hok.1, Nat.sub_mul], ?_⟩) (fun i ⟨a, ha, hi⟩ => ?_)
  · rcases hok.2 with ⟨rfl, rfl, rfl⟩ | ⟨g, of, cur, rfl, hg, hn', hc, hsz', htk⟩
    · left; refine ⟨by simp, by omega, by omega⟩
    · right
      by_cases h : cap = k
      · have hnk : n = k := by omega
        rw [if_pos h]
        refine ⟨g, of, cur, rfl, hg, by omega, by omega, ?_, ?_⟩
        · rw [h, Nat.sub_self, Nat.zero_mul]; omega
        · rw [hnk, Nat.sub_self, Nat.zero_mul, List.take_zero, List.drop_eq_nil_of_le (by rw [hok.1, hnk]; exact Nat.le_refl _)]
      · rw [if_neg h]
        refine ⟨g, of + k * sz, cur, by simp [addr_add], hg, by omega, by omega, ?_, ?_⟩
        · have : k * sz + (cap - k) * sz = cap * sz := by rw [← Nat.add_mul]; congr 1; omega
          omega
        · rw [← htk, List.drop_take, List.drop_drop, Nat.sub_mul]
  · split at ha
    · exact ⟨a, ha, hi⟩
    · cases A with
      | none => cases ha
      | some p =>
        simp only [Option.map_some, Option.some.injEq] at ha
        refine ⟨p, rfl, ?_⟩
        rw [hi, ← ha]; unfold Addr.add; split <;> rfl
theorem run_slice_from {t e n cap : Nat} {A : Option Addr} (k : Nat) {kd : IntKind} {sz : Nat} (ht : (underlying t).run P w = .ok (.slice e) w) (hsz : (sizeOf e).run P w = .ok sz w) (hk : k ≤ n) :
    (Instr.slice t (.slice A n cap) (some (.int kd k)) none none).run P w = .ok (.slice (if cap = k then A else A.map (·.add (k * sz))) (n - k) (cap - k)) w := by
  simp [Instr.slice, ht, Instr.sliceBounds, Instr.sliceBound, asIntOf, Sem.run_bind, hsz, hk]
/-- s[1:] of one-cell elements. -/
theorem wl_tail1 {e m cap : Nat} {A : Option Addr} {u : Value} {xs : List Value} (hM : Mem w0 w (vec e 1 A (m + 1) cap (u :: xs) :: L)) (hgd : Region.wanted o (yielded ops a.tmps) = true) (T : TypeId) (x k : Operand) (ho : o.op = .slice T x (some k) none none)
    (hx : a.eval x = .slice A (m + 1) cap) (hk : a.eval k = .int .i64 1) (ht : (underlying T).run P w = .ok (.slice e) w) (hsz : (sizeOf e).run P w = .ok 1 w)
    (h : ∀ A', Mem w0 w (vec e 1 A' m (cap - 1) xs :: L) → wpList P ops Q rest (a.put o.dst (.slice A' m (cap - 1))) w) : wpList P ops Q (o :: rest) a w := by
  have h2 := vec_cut (k := 1) hM (by omega)
  simp only [Nat.add_sub_cancel, Nat.mul_one, List.drop_succ_cons, List.drop_zero] at h2
  refine wl_value hgd ?_ (h _ h2)
  have h3 := run_slice_from (P := P) (w := w) (t := T) (e := e) (n := m + 1) (cap := cap) (A := A) 1 (kd := .i64) ht hsz (by omega)
  have hk' : (a.eval k) = .int .i64 ((1 : Nat) : Int) := hk
  unfold execOp
  simp [ho, hx, hk', Sem.run_bind, Instr.sliceAt, ht]
  simpa using congrArg (fun r => r.andThen fun v w' => Result.ok (Next.value v) w') h3
/-- A load of one cell that holds v. -/
theorem wl_loadC {b off : Nat} {v : Value} (hgd : Region.wanted o (yielded ops a.tmps) = true) (ty : TypeId) (x : Operand) (ho : o.op = .load ty x) (hx : a.eval x = .pointer (some ⟨b, off, none⟩))
    (hc : w.cell? ⟨b, off, none⟩ = some v) (hna : (isAgg ty).run P w = .ok false w) (h : wpList P ops Q rest (a.put o.dst v) w) : wpList P ops Q (o :: rest) a w := by
  refine wl_value hgd ?_ h
  unfold execOp
  simp [ho, hx, Instr.loadAt, Instr.sureAddr, loadVar, Sem.run_bind, hna, load, Sem.run, hc]
end
end Go.Proofs.Ytenaklgkbchbdaa
