/- What an argument's cells hold, off the row's own reading ('trod'): whole numbers, bools, strings, slices, structs, arrays. Conditions: none; plain theorems over any program. -/
import Derived.Test.YtenaklgkbchbdaaSl
import Derived.ChangeSame
import Derived.OpenShut
import Derived.ShutString
import Derived.ChangeOld
import Derived.Deep.Slices
set_option linter.unusedVariables false
set_option linter.unusedSimpArgs false
namespace Go.Proofs.Ytenaklgkbchbdaa
open Go.RowKit Go.ChangeShapes Go.WideShapes Go.Deep

/-- Cells that can be read at a type. -/
def TR (P : Program) (w : World) (t : TypeId) (cs : List Value) : Prop :=
  ∃ (H : Type) (enc : TypeId × Value → H) (base : Nat) (spare : Nat → Bool) (held : Bool) (n : Nat) (x : DataW H × List MemPlace), DataW.trod enc P w base spare held n t cs = some x

section
variable {P : Program} {w : World} {t e : TypeId} {cs : List Value}
theorem tr_int {k : IntKind} (hu : P.underlying t = some (.int k)) (h : TR P w t cs) : ∃ n, cs = [.int k n] ∧ (Lit.int k n).wf = true := by
  obtain ⟨H, enc, base, spare, held, n, x, h⟩ := h
  cases n with
  | zero => simp [DataW.trod] at h
  | succ n =>
    unfold DataW.trod at h
    rw [hu] at h
    split at h <;> simp_all
theorem tr_bool (hu : P.underlying t = some .bool) (h : TR P w t cs) : ∃ b, cs = [.bool b] := by
  obtain ⟨H, enc, base, spare, held, n, x, h⟩ := h
  cases n with
  | zero => simp [DataW.trod] at h
  | succ n =>
    unfold DataW.trod at h
    rw [hu] at h
    split at h <;> simp_all
theorem tr_string (hu : P.underlying t = some .string) (h : TR P w t cs) : ∃ s : ByteArray, cs = [.string s] ∧ s.size ≤ maxLen := by
  obtain ⟨H, enc, base, spare, held, n, x, h⟩ := h
  cases n with
  | zero => simp [DataW.trod] at h
  | succ n =>
    unfold DataW.trod at h
    rw [hu] at h
    split at h <;> simp_all
theorem tr_slice (hu : P.underlying t = some (.slice e)) (hp : 0 < P.cellsOf e) (h : TR P w t cs) : ∃ (A : Option Addr) (len cap : Nat), cs = [.slice A len cap] ∧ len ≤ cap ∧ cap ≤ maxLen ∧
    ∀ i, i < len → ∃ b o cs', A = some ⟨b, o, none⟩ ∧ b < w.heap.size ∧ cs'.length = P.cellsOf e ∧ TR P w e cs' ∧ ∀ j v, cs'[j]? = some v → w.cell? ⟨b, o + i * P.cellsOf e + j, none⟩ = some v := by
  obtain ⟨H, enc, base, spare, held, n, x, h⟩ := h
  rcases open_slice hu h with ⟨rfl, _⟩ | ⟨a, len, cap, m, n', D, Pl, rfl, hb, hl, hm, hmm, hx, hi⟩
  · exact ⟨none, 0, 0, rfl, by simp, by simp, fun i hi => by omega⟩
  · refine ⟨some a, len, cap, rfl, hl, hm, fun i hil => ?_⟩
    have hlm : len ≤ m := by rw [hmm]; split <;> omega
    have hcell : ∀ i, i < len → ∃ cs', cs'.length = P.cellsOf e ∧ TR P w e cs' ∧ ∀ j v, cs'[j]? = some v → w.cell? ((a.add (i * P.cellsOf e)).add j) = some v := fun i hil => by
      obtain ⟨cs', hc, ht⟩ := hi i (by omega)
      obtain ⟨_, hcl, hat⟩ := World.cells?_some hc
      refine ⟨cs', hcl, ⟨H, enc, base, spare, held, n', _, ht⟩, fun j v hv => ?_⟩
      have hj : j < cs'.length := (List.getElem?_eq_some_iff.1 hv).1
      rw [hat j (by omega), hv]
    have hspot : a.spot = none ∧ a.block < w.heap.size := by
      obtain ⟨cs', hcl, _, hat⟩ := hcell 0 (by omega)
      have h0 := hat 0 (cs'[0]'(by omega)) (List.getElem?_eq_getElem (by omega))
      simp only [Nat.zero_mul, Addr.add, if_true] at h0
      refine ⟨?_, World.block_lt_of_cell? w _ h0⟩
      unfold World.cell? at h0
      split at h0
      · split at h0
        · cases h0
        · rename_i hs; cases hsp : a.spot with
          | none => rfl
          | some _ => rw [hsp] at hs; simp at hs
      · cases h0
    obtain ⟨b, o, s⟩ := a
    obtain ⟨rfl, hlt⟩ := hspot
    obtain ⟨cs', hcl, htr, hat⟩ := hcell i hil
    refine ⟨b, o, cs', rfl, hlt, hcl, htr, fun j v hv => ?_⟩
    have := hat j v hv
    rw [addr_add, addr_add] at this
    exact this
theorem tr_struct {fs : Array Field} (hu : P.underlying t = some (.struct fs)) (h : TR P w t cs) : cs.length = P.cellsOf t ∧ ∀ (j : Nat) (f : Field), fs[j]? = some f → TR P w f.type ((cs.drop f.offset).take (P.cellsOf f.type)) := by
  obtain ⟨H, enc, base, spare, held, n, x, h⟩ := h
  obtain ⟨xs, n', _, _, hl, hlen, hf⟩ := DataW.trod_struct hu h
  refine ⟨hl, fun j f hj => ?_⟩
  have hjl : j < fs.size := (Array.getElem?_eq_some_iff.1 hj).1
  have h1 := hf j f hj
  exact ⟨H, enc, base, spare, held, n', xs[j]'(by omega), by rw [h1]; exact List.getElem?_eq_getElem (by omega)⟩
theorem tr_array {m : Nat} (hu : P.underlying t = some (.array m e)) (h : TR P w t cs) : cs.length = P.cellsOf t ∧ ∀ i, i < m → TR P w e ((cs.drop (i * P.cellsOf e)).take (P.cellsOf e)) := by
  obtain ⟨H, enc, base, spare, held, n, x, h⟩ := h
  obtain ⟨xs, n', _, _, hl, hlen, hf⟩ := DataW.trod_array hu h
  refine ⟨hl, fun i hi => ?_⟩
  exact ⟨H, enc, base, spare, held, n', xs[i]'(by omega), by rw [hf i hi]; exact List.getElem?_eq_getElem (by omega)⟩
/-- A slice that can be read holds a list, if each of its elements holds something. -/
theorem sl_of_tr {α : Type} {R : World → α → List Value → Prop} {A : Option Addr} : ∀ (len : Nat), (∀ i, i < len → ∃ b o cs', A = some ⟨b, o, none⟩ ∧ b < w.heap.size ∧ cs'.length = P.cellsOf e ∧ TR P w e cs' ∧ ∀ j v, cs'[j]? = some v → w.cell? ⟨b, o + i * P.cellsOf e + j, none⟩ = some v) →
    (∀ cs, TR P w e cs → ∃ x, R w x cs) → ∃ xs : List α, xs.length = len ∧ Sl R (P.cellsOf e) w A xs
  | 0, _, _ => ⟨[], rfl, Sl.nil _⟩
  | len + 1, h, hR => by
    obtain ⟨xs, hl, hS⟩ := sl_of_tr len (fun i hi => h i (by omega)) hR
    obtain ⟨b, o, cs', hA, hlt, hcl, htr, hc⟩ := h len (by omega)
    obtain ⟨x, hx⟩ := hR cs' htr
    refine ⟨xs ++ [x], by simp [hl], fun i hi => ?_⟩
    by_cases hil : i < xs.length
    · rw [List.getElem_append_left hil]; exact hS i hil
    · have hie : i = len := by simp at hi; omega
      subst hie
      refine ⟨b, o, cs', hA, hlt, hcl, ?_, hc⟩
      rw [List.getElem_append_right (by omega)]
      simpa using hx
theorem wf_u8 {n : Int} (h : (Lit.int .u8 n).wf = true) : 0 ≤ n ∧ n ≤ 255 := by
  have h1 : IntKind.u8.min ≤ n ∧ n ≤ IntKind.u8.max := by simpa [Lit.wf] using h
  exact h1
theorem wf_i64' {n : Int} (h : (Lit.int .i64 n).wf = true) : -9223372036854775808 ≤ n ∧ n ≤ 9223372036854775807 := by
  have h1 : IntKind.i64.min ≤ n ∧ n ≤ IntKind.i64.max := by
    simp only [Lit.wf, Bool.and_eq_true, decide_eq_true_eq] at h
    exact h
  exact h1
end
end Go.Proofs.Ytenaklgkbchbdaa
