/- A range over an own map with int keys: the step, the entry, delete and a store at a key that is there. Conditions: as each rule says; plain theorems over any program. -/
import Derived.Test.YtenaklgkbchbdaaMap
import Derived.Maps.RangeWalk
import Derived.Lib.SlKeysI
set_option linter.unusedVariables false
set_option linter.unusedSimpArgs false
namespace Go
open Go.ChangeMaps Go.MapKept Go.WideShapes Go.Maps
open Go.WideElems (Fit rd rg pl rd_key rd_val rg_of other_key)

/-- 'm[k] = v' in the round, at a key that is there. -/
theorem World.ranges.store {H : Type} {P : Program} {k : TypeId} {R : Value → Option (DataW H × List MemPlace)} {w : World} {b r n : Nat} {D : DataW H} {left : Lit → Bool} {cnt : Nat} {t e : TypeId}
    (h : w.ranges P k R b r n D left cnt) (K : Keyed P k) (ht : P.underlying t = some (.map k e)) {key val : Value} {kl : Lit} (hkey : keyOf P k key = some kl) (hthere : Maps.has D kl = true) {d : DataW H} {ps : List MemPlace} (hval : R val = some (d, ps)) (hn : n < maxLen) :
    ∃ w', (Instr.mapUpdate t (.map (some b)) key val).run P w = .ok () w' ∧ w'.ranges P k R b r n (D.put kl d) left cnt ∧ w.mapTurned w' b := by
  have hne := h.ne
  obtain ⟨es, clock, since, seen, c0, hb, F, hs, rfl, hr, hold, rfl, hl1, hl2, hsc, hsk⟩ := h
  obtain ⟨es', clock', hrun, F', hput, _, _, _⟩ := fit_store (R' := R) K ht hb F (by omega) (fun _ _ _ _ h => h) hkey hval
  rcases K.find w hkey es.toList F.keys with ⟨h1, h2⟩ | ⟨j, e0, h1, h2, h3⟩
  · exfalso
    obtain ⟨p, hp, hpk⟩ := List.any_eq_true.1 hthere
    obtain ⟨x, hx, rfl⟩ := List.mem_map.1 (mem_sorted.1 hp)
    obtain ⟨y, hy⟩ := F.reads x hx
    refine h2 x hx (K.inj (rd_key hy) ?_)
    rw [hkey, ← WideAt.sameKey_eq hpk, rg_of hy]
  · have hj : es[j]? = some e0 := by simpa using h2
    have hrun2 : (Instr.mapUpdate t (.map (some b)) key val).run P w = .ok () (setBlock w b (.map (es.modify j (fun e' => { e' with key := key, val := val })) clock)) := by
      simp [Instr.mapUpdate, run_underlying ht, MapKept.run_getObj_map hb, K.check w false hkey, h1, hj, h3, K.stays w hkey, MapKept.run_setObj_map _ hb, Result.andThen, setBlock]
    have heq : setBlock w b (.map es' clock') = setBlock w b (.map (es.modify j (fun e' => { e' with key := key, val := val })) clock) := by
      rw [hrun] at hrun2
      injection hrun2
    have hobj : (Obj.map es' clock') = Obj.map (es.modify j (fun e' => { e' with key := key, val := val })) clock := by
      have a1 := heap_setBlock_same hb (.map es' clock')
      rw [heq, heap_setBlock_same hb] at a1
      exact (Option.some.inj a1).symm
    injection hobj with hes hcl
    subst hcl
    have hlist : es'.toList = es.toList.set j { e0 with key := key, val := val } := by rw [hes, Array.toList_modify, modify_eq_set _ _ _ _ h2]
    have hjl : j < es.toList.length := (List.getElem?_eq_some_iff.1 h2).1
    have he0 : es.toList[j] = e0 := (List.getElem?_eq_some_iff.1 h2).2
    -- each entry has its elder, with the same stamp and the same key
    have elder : ∀ x ∈ es'.toList, ∃ x0 ∈ es.toList, x.born = x0.born ∧ (rg P k R x).1 = (rg P k R x0).1 := by
      intro x hx
      rw [hlist] at hx
      rcases List.mem_or_eq_of_mem_set hx with hx | rfl
      · exact ⟨x, hx, rfl, rfl⟩
      · have hm : e0 ∈ es.toList := List.mem_of_getElem? h2
        refine ⟨e0, hm, rfl, ?_⟩
        obtain ⟨y, hy⟩ := F.reads e0 hm
        have m1 := rd_key hy
        rw [h3, hkey] at m1
        rw [rg_of hy, rg_of (WideElems.rd_mk hkey hval)]
        exact Option.some.inj m1
    have younger : ∀ x0 ∈ es.toList, ∃ x ∈ es'.toList, (rg P k R x).1 = (rg P k R x0).1 := by
      intro x0 hx0
      rw [hlist]
      obtain ⟨i, hi, ex⟩ := List.getElem_of_mem hx0
      by_cases hij : i = j
      · subst hij
        refine ⟨_, List.mem_set hi _, ?_⟩
        obtain ⟨y, hy⟩ := F.reads x0 hx0
        have m1 := rd_key hy
        have : x0 = e0 := by rw [← ex, he0]
        subst this
        rw [h3, hkey] at m1
        rw [rg_of hy, rg_of (WideElems.rd_mk hkey hval)]
        exact Option.some.inj m1
      · refine ⟨x0, ?_, rfl⟩
        rw [List.mem_iff_getElem]
        exact ⟨i, by simpa using hi, by rw [List.getElem_set_ne (fun e => hij e.symm)]; exact ex⟩
    refine ⟨_, hrun, ⟨es', clock', since, seen, c0, heap_setBlock_same hb _, F', ?_, by rw [DataW.put_eq, hput], (heap_setBlock_other hb _ hne).trans hr, fun x hx => ?_, ?_, fun x hx => ?_, fun kl' hk' => ?_, hsc, hsk⟩, ⟨es, clock', es', clock', hb, rfl⟩⟩
    · rw [hes]; simpa using hs
    · obtain ⟨x0, hx0, hb0, _⟩ := elder x hx
      rw [hb0]; exact hold x0 hx0
    · have e1 : ∀ a : Array MapEntry, (leftOf a seen).size = ((a.toList.map MapEntry.born).filter fun e => !seen.contains e).length := fun a => by
        unfold leftOf
        rw [← Array.length_toList, Array.toList_filter, List.filter_map, List.length_map]
        rfl
      have e2 : es'.toList.map MapEntry.born = es.toList.map MapEntry.born := by
        rw [hlist, List.map_set]
        have : ({ e0 with key := key, val := val } : MapEntry).born = (es.toList.map MapEntry.born)[j]'(by simpa using hjl) := by simp [he0]
        rw [this, List.set_getElem_self]
      rw [e1, e1, e2]
    · obtain ⟨x0, hx0, hb0, hk0⟩ := elder x hx
      rw [hk0, hb0]; exact hl1 x0 hx0
    · obtain ⟨x0, hx0, hk0⟩ := hl2 kl' hk'
      obtain ⟨x, hx, hkx⟩ := younger x0 hx0
      exact ⟨x, hx, hkx.trans hk0⟩
end Go

namespace Go.Proofs.Ytenaklgkbchbdaa
open Go.RowKit

/-- A map's block b and the iterator r over it; left: whose keys are still to come. -/
def rng (P : Program) (kt b r n : Nat) (f : Int → Option Value) (left : Int → Bool) (cnt : Nat) : Res where
  foot := fun i => i = b ∨ i = r
  ok := fun w => ∃ D lft, w.ranges P kt rawE b r n D lft cnt ∧ (∀ k, look D k = f k) ∧ ∀ k, lft (KI k) = left k
  loc := fun {w w'} h ⟨D, lft, ⟨es, clock, since, seen, c0, h1, h2, h3, h4, h5, h6⟩, hf, hl⟩ =>
    ⟨D, lft, ⟨es, clock, since, seen, c0, (h b (.inl rfl)).trans h1, h2, h3, h4, (h r (.inr rfl)).trans h5, h6⟩, hf, hl⟩
  dom := fun {w} ⟨D, lft, h, _⟩ i hi => by
    rcases hi with rfl | rfl
    · exact h.owns.lt
    · exact h.lt

abbrev I64' (k : Int) : Prop := -9223372036854775808 ≤ k ∧ k ≤ 9223372036854775807
section
variable {P : Program} {w0 w : World} {L : List Res} {ops : Array Oper} {rest : List Oper} {o : Oper} {a : Act} {Q : Exit → Act → World → Prop} {kt e T b r n cnt : Nat} {f : Int → Option Value} {left : Int → Bool}

theorem Mem.unrange (h : Mem w0 w (rng P kt b r n f left cnt :: L)) : Mem w0 w (imap P kt b n f :: L) :=
  h.weaken (fun ⟨D, lft, h1, h2, _⟩ => ⟨D, h1.owns, h2⟩) (fun i hi => .inl hi)

theorem look_has {D : DataW Value} {k : Int} {v : Value} (h : look D k = some v) : Maps.has D (KI k) = true := by
  unfold look at h
  split at h
  · assumption
  · cases h

theorem held_of {D : DataW Value} {kl : Lit} (hown : w.ownsMap P kt rawE b n D) (h : Maps.has D kl = true) : ∃ v, ∀ z, D.atKey kl z = .held v := by
  obtain ⟨es, clock, hb, F, hs, rfl⟩ := hown
  obtain ⟨p, hp, hpk⟩ := List.any_eq_true.1 h
  have hall : ∀ q ∈ (es.toList.map (WideElems.rg P kt rawE)).foldr DataW.insert [], ∃ v, q.2 = .held v := fun q hq => by
    obtain ⟨x, hx, rfl⟩ := List.mem_map.1 (mem_sorted.1 hq)
    obtain ⟨y, hy⟩ := F.reads x hx
    obtain ⟨z, hz, hzd⟩ := WideElems.rd_val hy
    rw [WideElems.rg_of hy]
    simp only [rawE, Option.some.injEq] at hz
    exact ⟨x.val, by rw [hzd, ← hz]⟩
  cases hfd : ((es.toList.map (WideElems.rg P kt rawE)).foldr DataW.insert []).find? (fun p => p.1.sameKey kl) with
  | none =>
    rw [List.find?_eq_none] at hfd
    exact absurd hpk (hfd p hp)
  | some q =>
    obtain ⟨v, hv⟩ := hall q (List.mem_of_find?_eq_some hfd)
    refine ⟨v, fun z => ?_⟩
    simp only [DataW.atKey, hfd, hv]

/-- range m. -/
theorem wl_range (hM : Mem w0 w (imap P kt b n f :: L)) (hgd : Region.wanted o (yielded ops a.tmps) = true) (T : TypeId) (x : Operand) (ho : o.op = .range T x) (hx : a.eval x = .map (some b)) (hT : P.underlying T = some (.map kt e)) (hkt : P.underlying kt = some (.int .i64))
    (h : ∀ r cnt w1, Mem w0 w1 (rng P kt b r n f (fun k => (f k).isSome) cnt :: L) → wpList P ops Q rest (a.put o.dst (.pointer (some ⟨r, 0, none⟩))) w1) : wpList P ops Q (o :: rest) a w := by
  obtain ⟨D, hown, hf⟩ := hM.head
  obtain ⟨w1, hrun, hrg, hg, hsz⟩ := hown.range (Maps.int_keyed hkt) hT
  refine wl_value (v := .pointer (some ⟨w.heap.size, 0, none⟩)) (w' := w1) hgd ?_ (h w.heap.size (Maps.size D) w1 ?_)
  · unfold execOp
    simp [ho, hx, Sem.run_bind, hrun]
  · refine hM.turn hg.os hg.tape hg.output hg.size (fun k hk hne => hg.block k hk (by simp)) ⟨D, _, hrg, hf, fun k => ?_⟩ (fun i hi => ?_)
    · rw [has_some hown.isMap (fun z hh => ?_), hf k]
      obtain ⟨v, hv⟩ := held_of hown hh
      exact ⟨v, hv z⟩
    · rcases hi with rfl | rfl
      · exact .inl rfl
      · exact .inr (Nat.le_refl _)
theorem sameKey_KI (j k : Int) : (KI j).sameKey (KI k) = decide (j = k) := by
  by_cases h : j = k <;> simp [KI, Lit.sameKey, h]

/-- The step: nothing is left, or some key of those left comes. -/
theorem wl_next (hM : Mem w0 w (rng P kt b r n f left cnt :: L)) (hgd : Region.wanted o (yielded ops a.tmps) = true) (it : Operand) (ho : o.op = .next it false) (hit : a.eval it = .pointer (some ⟨r, 0, none⟩)) (hkt : P.underlying kt = some (.int .i64))
    (h0 : (∀ k, left k = false) → wpList P ops Q rest (a.put o.dst (.tuple #[.bool false])) w)
    (h1 : ∀ (k : Int) (v : Value) (w1 : World) (cnt1 : Nat), I64' k → left k = true → f k = some v → cnt1 < cnt → Mem w0 w1 (rng P kt b r n f (fun j => left j && !decide (j = k)) cnt1 :: L) →
      (Instr.entry (.pointer (some ⟨r, 0, none⟩))).run P w1 = .ok (.tuple #[.int .i64 k, v]) w1 → wpList P ops Q rest (a.put o.dst (.tuple #[.bool true, .int .i64 k, v])) w1) : wpList P ops Q (o :: rest) a w := by
  obtain ⟨D, lft, hrg, hf, hl⟩ := hM.head
  rcases hrg.next (Maps.int_keyed hkt) o.type with ⟨hc0, hnone, hrun⟩ | ⟨key, v, kl, y, w1, cnt1, hkey, hlk, hv, hat, hrun, hrg1, hlt, hg, hsz, hen⟩
  · refine wl_value hgd ?_ (h0 (fun k => by rw [← hl k]; exact hnone _))
    unfold execOp
    simp [ho, hit, Sem.run_bind, hrun]
  · obtain ⟨k, rfl, rfl, hwf⟩ := Maps.keyOf_i64 hkt hkey
    simp only [rawE, Option.some.injEq] at hv
    subst hv
    have hi : I64' k := by
      have := hwf; simp [Lit.wf, IntKind.min, IntKind.max, IntKind.signed, IntKind.bits] at this; exact this
    have hfk : f k = some v := by
      have hh : Maps.has D (KI k) = true := Go.Maps.has_true_of_atKey hat
      rw [← hf k]
      simp only [look, hh, if_true, hat]
    refine wl_value hgd ?_ (h1 k v w1 cnt1 hi (by rw [← hl k]; exact hlk) hfk hlt ?_ ?_)
    · unfold execOp
      simp [ho, hit, Sem.run_bind, hrun]
    · refine hM.turn hg.os hg.tape hg.output hg.size (fun i hi hne => hg.block i hi (fun e => hne (by injection e with e; exact .inr e))) ⟨D, _, hrg1, hf, fun j => ?_⟩ (fun i hi => .inl hi)
      simp only [hl j, sameKey_KI]
    · exact hen
/-- The entry that the last step handed out. -/
theorem wl_entry {v : Value} (hgd : Region.wanted o (yielded ops a.tmps) = true) (it : Operand) (ho : o.op = .entry it) (hit : a.eval it = .pointer (some ⟨r, 0, none⟩)) (hen : (Instr.entry (.pointer (some ⟨r, 0, none⟩))).run P w = .ok v w)
    (h : wpList P ops Q rest (a.put o.dst v) w) : wpList P ops Q (o :: rest) a w := by
  refine wl_value hgd ?_ h
  unfold execOp
  simp [ho, hit, Sem.run_bind, hen]
/-- delete(m, k) in the round. -/
theorem wl_deleteR (hM : Mem w0 w (rng P kt b r n f left cnt :: L)) (hgd : Region.wanted o (yielded ops a.tmps) = true) (T : TypeId) (m x : Operand) (ho : o.op = .call { callee := .builtin .delete, args := #[m, x], argTypes := #[T, kt] })
    (hm : a.eval m = .map (some b)) (k : Int) (hx : a.eval x = .int .i64 k) (hk : I64' k) (hT : P.underlying T = some (.map kt e)) (hkt : P.underlying kt = some (.int .i64))
    (h : ∀ cnt1 w1, cnt1 ≤ cnt → Mem w0 w1 (rng P kt b r n (fun j => if j = k then none else f j) (fun j => left j && !decide (j = k)) cnt1 :: L) → wpList P ops Q rest (a.put o.dst (.tuple #[])) w1) : wpList P ops Q (o :: rest) a w := by
  obtain ⟨D, lft, hrg, hf, hl⟩ := hM.head
  obtain ⟨w1, cnt1, hrun, h1, hle, ht⟩ := hrg.drop (Maps.int_keyed hkt) hT (keyK hkt hk) o.type
  refine wl_value hgd ?_ (h cnt1 w1 hle (mem_turned hM ht (.inl rfl) ⟨_, _, h1, fun j => by rw [look_del, hf j], fun j => by simp only [hl j, sameKey_KI]⟩ (fun i hi => hi)))
  unfold execOp
  simp [ho, resolve, invoke, builtin, hm, hx, Sem.run_bind, hrun]
/-- m[k] = v in the round, at a key that is there. -/
theorem wl_updateR (hM : Mem w0 w (rng P kt b r n f left cnt :: L)) (hgd : Region.wanted o (yielded ops a.tmps) = true) (T : TypeId) (m x y : Operand) (ho : o.op = .mapUpdate T m x y) (hm : a.eval m = .map (some b)) (k : Int) (hx : a.eval x = .int .i64 k)
    (v : Value) (hy : a.eval y = v) (hk : I64' k) (hT : P.underlying T = some (.map kt e)) (hkt : P.underlying kt = some (.int .i64)) (hn : n < 4611686018427387904) (hthere : (f k).isSome = true)
    (h : ∀ w1, Mem w0 w1 (rng P kt b r n (fun j => if j = k then some v else f j) left cnt :: L) → wpList P ops Q rest (a.put o.dst undef) w1) : wpList P ops Q (o :: rest) a w := by
  obtain ⟨D, lft, hrg, hf, hl⟩ := hM.head
  obtain ⟨u, hu⟩ := Option.isSome_iff_exists.1 hthere
  obtain ⟨w1, hrun, h1, ht⟩ := hrg.store (Maps.int_keyed hkt) hT (keyK hkt hk) (look_has ((hf k).trans hu)) (d := .held v) (ps := []) rfl (by unfold maxLen; omega)
  refine wl_skip hgd ?_ (h w1 (mem_turned hM ht (.inl rfl) ⟨_, _, h1, fun j => by rw [look_put hrg.owns.isMap, hf j], hl⟩ (fun i hi => hi)))
  unfold execOp
  simp [ho, hm, hx, hy, Sem.run_bind, hrun]
end
end Go.Proofs.Ytenaklgkbchbdaa
