/- Maps with int keys, their elements as bare values, as own memory. Conditions: as each rule says; plain theorems over any program. -/
import Derived.Test.YtenaklgkbchbdaaOps
import Derived.Maps.RangeWalk
set_option linter.unusedVariables false
set_option linter.unusedSimpArgs false
namespace Go.Proofs.Ytenaklgkbchbdaa
open Go.RowKit

/-- An element reads as itself. -/
def rawE (v : Value) : Option (DataW Value × List MemPlace) := some (.held v, [])
abbrev KI (k : Int) : Lit := .int .i64 k
/-- What the map holds at a key. -/
def look (D : DataW Value) (k : Int) : Option Value := if Maps.has D (KI k) then (match D.atKey (KI k) .nil with | .held v => some v | _ => none) else none

theorem isKey (k : Int) : WideAt.IsKeyLit (KI k) := by simp [WideAt.IsKeyLit, KI]
theorem look_none {D : DataW Value} {k : Int} (h : Maps.has D (KI k) = false) : look D k = none := by simp [look, h]
theorem has_at {D : DataW Value} (hm : Maps.IsMap D) {k : Lit} (h : Maps.has D k = true) (z z' : DataW Value) : D.atKey k z = D.atKey k z' := by
  obtain ⟨es, rfl⟩ := hm
  simp only [Maps.has_eq] at h
  simp only [DataW.atKey]
  cases hf : es.find? (fun p => p.1.sameKey k) with
  | some p => rfl
  | none =>
    rw [List.find?_eq_none] at hf
    obtain ⟨p, hp, hpk⟩ := List.any_eq_true.1 h
    exact absurd hpk (hf p hp)
theorem look_put {D : DataW Value} (hm : Maps.IsMap D) (k : Int) (v : Value) (j : Int) : look (D.put (KI k) (.held v)) j = if j = k then some v else look D j := by
  by_cases h : j = k
  · subst h; simp [look, Maps.has_put_same hm (isKey j), Maps.atKey_put_same hm (isKey j)]
  · have hne : KI j ≠ KI k := by simpa [KI] using h
    rw [if_neg h]; simp only [look, Maps.has_put_other hne, Maps.atKey_put_other hne]
theorem look_del {D : DataW Value} (k : Int) (j : Int) : look (D.del (KI k)) j = if j = k then none else look D j := by
  by_cases h : j = k
  · subst h; rw [if_pos rfl]; exact look_none Maps.has_del_same
  · have hne : KI j ≠ KI k := by simpa [KI] using h
    rw [if_neg h]; simp only [look, Maps.has_del_other hne, Maps.atKey_del_other hne]
theorem look_at {D : DataW Value} (hm : Maps.IsMap D) {k : Int} {z v : Value} (h : D.atKey (KI k) (.held z) = .held v) : (look D k).getD z = v := by
  unfold look
  cases hh : Maps.has D (KI k) with
  | false =>
    rw [Maps.atKey_of_not_has hh] at h
    injection h with h
  | true => rw [has_at hm hh .nil (.held z), h]; simp
theorem has_some {D : DataW Value} (hm : Maps.IsMap D) {k : Int} (hr : ∀ z, Maps.has D (KI k) = true → ∃ v, D.atKey (KI k) z = .held v) : Maps.has D (KI k) = (look D k).isSome := by
  unfold look
  cases hh : Maps.has D (KI k) with
  | false => rfl
  | true => obtain ⟨v, hv⟩ := hr .nil hh; simp [hv]

section
variable {P : Program} {w0 w : World} {L : List Res} {ops : Array Oper} {rest : List Oper} {o : Oper} {a : Act} {Q : Exit → Act → World → Prop} {kt e T b n : Nat} {f : Int → Option Value}

/-- A map's block: at most n entries; f tells what stands at a key. -/
def imap (P : Program) (kt b n : Nat) (f : Int → Option Value) : Res where
  foot := fun i => i = b
  ok := fun w => ∃ D, w.ownsMap P kt rawE b n D ∧ ∀ k, look D k = f k
  loc := fun {w w'} h ⟨D, hk, hf⟩ => by
    obtain ⟨es, clock, hb, hr⟩ := hk
    exact ⟨D, ⟨es, clock, (h b rfl).trans hb, hr⟩, hf⟩
  dom := fun ⟨D, h, _⟩ i hi => by subst hi; exact h.lt

theorem mem_imap (hM : Mem w0 w L) (kt : Nat) : Mem w0 (w.alloc (.map #[] 0)) (imap P kt w.heap.size 0 (fun _ => none) :: L) :=
  (mem_allocMap (P := P) hM kt rawE).weaken (fun h => ⟨_, h, fun k => look_none rfl⟩) (fun i hi => hi)
theorem wl_makeMap (hM : Mem w0 w L) (hgd : Region.wanted o (yielded ops a.tmps) = true) (T : TypeId) (ho : o.op = .makeMap T none) (hT : P.underlying T = some (.map kt e))
    (h : ∀ b w1, Mem w0 w1 (imap P kt b 0 (fun _ => none) :: L) → wpList P ops Q rest (a.put o.dst (.map (some b))) w1) : wpList P ops Q (o :: rest) a w := by
  refine wl_value (v := .map (some w.heap.size)) (w' := w.alloc (.map #[] 0)) hgd ?_ (h _ _ (mem_imap hM kt))
  unfold execOp
  simp only [ho, Option.map_none]
  simp [Sem.run_bind, run_makeMap T w]
theorem keyK (hkt : P.underlying kt = some (.int .i64)) {k : Int} (hk : -9223372036854775808 ≤ k ∧ k ≤ 9223372036854775807) : keyOf P kt (.int .i64 k) = some (KI k) := Maps.keyOf_int_mk hkt (WalkArith.wf_i64 hk)

theorem run_lookup (hI : (imap P kt b n f).ok w) (hT : P.underlying T = some (.map kt e)) (hkt : P.underlying kt = some (.int .i64)) {z : Value} (hz : (zeroValue e).run P w = .ok z w) {k : Int}
    (hk : -9223372036854775808 ≤ k ∧ k ≤ 9223372036854775807) : (Instr.lookup T (.map (some b)) (.int .i64 k) false).run P w = .ok ((f k).getD z) w := by
  obtain ⟨D, hown, hf⟩ := hI
  obtain ⟨v, ps, hrun, hv⟩ := hown.lookup (Maps.int_keyed hkt) hT hz (zd := .held z) (zp := []) rfl (keyK hkt hk)
  have hv' : D.atKey (KI k) (.held z) = .held v := by
    simp only [rawE, Option.some.injEq, Prod.mk.injEq] at hv; exact hv.1.symm
  rw [hrun, ← hf k, look_at hown.isMap hv']
theorem run_lookup_ok (hI : (imap P kt b n f).ok w) (hT : P.underlying T = some (.map kt e)) (hkt : P.underlying kt = some (.int .i64)) {z : Value} (hz : (zeroValue e).run P w = .ok z w) {k : Int}
    (hk : -9223372036854775808 ≤ k ∧ k ≤ 9223372036854775807) : (Instr.lookup T (.map (some b)) (.int .i64 k) true).run P w = .ok (.tuple #[(f k).getD z, .bool (f k).isSome]) w := by
  obtain ⟨D, hown, hf⟩ := hI
  obtain ⟨v, ps, hrun, hv⟩ := hown.look_ok (Maps.int_keyed hkt) hT hz (zd := .held z) (zp := []) rfl (keyK hkt hk)
  have hv' : D.atKey (KI k) (.held z) = .held v := by
    simp only [rawE, Option.some.injEq, Prod.mk.injEq] at hv; exact hv.1.symm
  have hh : Maps.has D (KI k) = (f k).isSome := by
    rw [← hf k]
    refine has_some hown.isMap (fun z' hh => ⟨v, ?_⟩)
    rw [has_at hown.isMap hh z' (.held z), hv']
  rw [hrun, ← hf k, look_at hown.isMap hv', hh, ← hf k]
theorem wl_lookup (hI : (imap P kt b n f).ok w) (hgd : Region.wanted o (yielded ops a.tmps) = true) (T : TypeId) (m x : Operand) (ho : o.op = .lookup T m x false) (hm : a.eval m = .map (some b)) (k : Int) (hx : a.eval x = .int .i64 k)
    (hk : -9223372036854775808 ≤ k ∧ k ≤ 9223372036854775807) (hT : P.underlying T = some (.map kt e)) (hkt : P.underlying kt = some (.int .i64)) (z : Value) (hz : (zeroValue e).run P w = .ok z w)
    (h : wpList P ops Q rest (a.put o.dst ((f k).getD z)) w) : wpList P ops Q (o :: rest) a w := by
  refine wl_value hgd ?_ h
  unfold execOp
  simp [ho, hm, hx, Sem.run_bind, run_lookup hI hT hkt hz hk]
theorem wl_lookupOk (hI : (imap P kt b n f).ok w) (hgd : Region.wanted o (yielded ops a.tmps) = true) (T : TypeId) (m x : Operand) (ho : o.op = .lookup T m x true) (hm : a.eval m = .map (some b)) (k : Int) (hx : a.eval x = .int .i64 k)
    (hk : -9223372036854775808 ≤ k ∧ k ≤ 9223372036854775807) (hT : P.underlying T = some (.map kt e)) (hkt : P.underlying kt = some (.int .i64)) (z : Value) (hz : (zeroValue e).run P w = .ok z w)
    (h : wpList P ops Q rest (a.put o.dst (.tuple #[(f k).getD z, .bool (f k).isSome])) w) : wpList P ops Q (o :: rest) a w := by
  refine wl_value hgd ?_ h
  unfold execOp
  simp [ho, hm, hx, Sem.run_bind, run_lookup_ok hI hT hkt hz hk]

theorem mem_turned {w1 : World} {r : Res} (hM : Mem w0 w (r :: L)) (ht : w.mapTurned w1 b) (hb : r.foot b) {s : Res} (hok : s.ok w1) (hfoot : ∀ i, s.foot i → r.foot i) : Mem w0 w1 (s :: L) := by
  have hg := ht.grown
  exact hM.turn hg.os hg.tape hg.output hg.size (fun k hk hne => hg.block k hk (fun e => hne (by injection e with e; rw [e]; exact hb))) hok (fun i hi => .inl (hfoot i hi))
theorem run_mapUpdate (hM : Mem w0 w (imap P kt b n f :: L)) (hT : P.underlying T = some (.map kt e)) (hkt : P.underlying kt = some (.int .i64)) (hn : n < 4611686018427387904) {k : Int} (v : Value)
    (hk : -9223372036854775808 ≤ k ∧ k ≤ 9223372036854775807) : ∃ w1, (Instr.mapUpdate T (.map (some b)) (.int .i64 k) v).run P w = .ok () w1 ∧ Mem w0 w1 (imap P kt b (n + 1) (fun j => if j = k then some v else f j) :: L) := by
  obtain ⟨D, hown, hf⟩ := hM.head
  obtain ⟨w1, hrun, h1, ht⟩ := hown.store (Maps.int_keyed hkt) hT (by unfold maxLen; omega) (keyK hkt hk) (d := .held v) (ps := []) rfl
  exact ⟨w1, hrun, mem_turned hM ht rfl ⟨_, h1, fun j => by rw [look_put hown.isMap, hf j]⟩ (fun i hi => hi)⟩
theorem wl_mapUpdate (hM : Mem w0 w (imap P kt b n f :: L)) (hgd : Region.wanted o (yielded ops a.tmps) = true) (T : TypeId) (m x y : Operand) (ho : o.op = .mapUpdate T m x y) (hm : a.eval m = .map (some b)) (k : Int) (hx : a.eval x = .int .i64 k)
    (v : Value) (hy : a.eval y = v) (hk : -9223372036854775808 ≤ k ∧ k ≤ 9223372036854775807) (hT : P.underlying T = some (.map kt e)) (hkt : P.underlying kt = some (.int .i64)) (hn : n < 4611686018427387904)
    (h : ∀ w1, Mem w0 w1 (imap P kt b (n + 1) (fun j => if j = k then some v else f j) :: L) → wpList P ops Q rest (a.put o.dst undef) w1) : wpList P ops Q (o :: rest) a w := by
  obtain ⟨w1, hrun, h1⟩ := run_mapUpdate hM hT hkt hn v hk
  refine wl_skip hgd ?_ (h w1 h1)
  unfold execOp
  simp [ho, hm, hx, hy, Sem.run_bind, hrun]
theorem wl_delete (hM : Mem w0 w (imap P kt b n f :: L)) (hgd : Region.wanted o (yielded ops a.tmps) = true) (T : TypeId) (m x : Operand) (ho : o.op = .call { callee := .builtin .delete, args := #[m, x], argTypes := #[T, kt] })
    (hm : a.eval m = .map (some b)) (k : Int) (hx : a.eval x = .int .i64 k) (hk : -9223372036854775808 ≤ k ∧ k ≤ 9223372036854775807) (hT : P.underlying T = some (.map kt e)) (hkt : P.underlying kt = some (.int .i64))
    (h : ∀ w1, Mem w0 w1 (imap P kt b n (fun j => if j = k then none else f j) :: L) → wpList P ops Q rest (a.put o.dst (.tuple #[])) w1) : wpList P ops Q (o :: rest) a w := by
  obtain ⟨D, hown, hf⟩ := hM.head
  obtain ⟨w1, hrun, h1, ht⟩ := hown.drop (Maps.int_keyed hkt) hT (keyK hkt hk) o.type
  refine wl_value hgd ?_ (h w1 (mem_turned hM ht rfl ⟨_, h1, fun j => by rw [look_del, hf j]⟩ (fun i hi => hi)))
  unfold execOp
  simp [ho, resolve, invoke, builtin, hm, hx, Sem.run_bind, hrun]
theorem wl_deleteNil (hgd : Region.wanted o (yielded ops a.tmps) = true) (T : TypeId) (m x : Operand) (ho : o.op = .call { callee := .builtin .delete, args := #[m, x], argTypes := #[T, kt] }) (hm : a.eval m = .map none) (k : Int) (hx : a.eval x = .int .i64 k)
    (hT : P.underlying T = some (.map kt e)) (hkt : P.underlying kt = some (.int .i64)) (hk : -9223372036854775808 ≤ k ∧ k ≤ 9223372036854775807)
    (h : wpList P ops Q rest (a.put o.dst (.tuple #[])) w) : wpList P ops Q (o :: rest) a w := by
  refine wl_value hgd ?_ h
  have hK := keyK (P := P) hkt hk
  unfold execOp
  simp [ho, resolve, invoke, builtin, hm, hx, Sem.run_bind, Builtin.delete_, run_underlying hT, (Maps.int_keyed hkt).check w true hK]
/-- A nil map: nothing stands in it. -/
theorem wl_lookupNil (hgd : Region.wanted o (yielded ops a.tmps) = true) (T : TypeId) (m x : Operand) (ho : o.op = .lookup T m x false) (hm : a.eval m = .map none) (k : Int) (hx : a.eval x = .int .i64 k)
    (hT : P.underlying T = some (.map kt e)) (hkt : P.underlying kt = some (.int .i64)) (hk : -9223372036854775808 ≤ k ∧ k ≤ 9223372036854775807) (z : Value) (hz : (zeroValue e).run P w = .ok z w)
    (h : wpList P ops Q rest (a.put o.dst z) w) : wpList P ops Q (o :: rest) a w := by
  refine wl_value hgd ?_ h
  have := Maps.look_nil false (Maps.int_keyed hkt) hT hz (keyK hkt hk)
  unfold execOp
  simp [ho, hm, hx, Sem.run_bind, this]
theorem wl_lookupNilOk (hgd : Region.wanted o (yielded ops a.tmps) = true) (T : TypeId) (m x : Operand) (ho : o.op = .lookup T m x true) (hm : a.eval m = .map none) (k : Int) (hx : a.eval x = .int .i64 k)
    (hT : P.underlying T = some (.map kt e)) (hkt : P.underlying kt = some (.int .i64)) (hk : -9223372036854775808 ≤ k ∧ k ≤ 9223372036854775807) (z : Value) (hz : (zeroValue e).run P w = .ok z w)
    (h : wpList P ops Q rest (a.put o.dst (.tuple #[z, .bool false])) w) : wpList P ops Q (o :: rest) a w := by
  refine wl_value hgd ?_ h
  have := Maps.look_nil true (Maps.int_keyed hkt) hT hz (keyK hkt hk)
  unfold execOp
  simp [ho, hm, hx, Sem.run_bind, this]
end
end Go.Proofs.Ytenaklgkbchbdaa
