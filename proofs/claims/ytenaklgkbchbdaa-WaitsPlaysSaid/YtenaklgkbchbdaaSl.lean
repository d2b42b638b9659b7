/- Slices that are read: what their cells hold, nil and empty ones let in. Conditions: as each fact says. -/
import Derived.Test.YtenaklgkbchbdaaOps
set_option linter.unusedVariables false
set_option linter.unusedSimpArgs false
namespace Go.Proofs.Ytenaklgkbchbdaa
open Go.RowKit

/-- The slice whose address is A holds xs: element i's cells, sz of them, stand for xs[i] by R. -/
def Sl {α : Type} (R : World → α → List Value → Prop) (sz : Nat) (w : World) (A : Option Addr) (xs : List α) : Prop :=
  ∀ i (h : i < xs.length), ∃ b o cs, A = some ⟨b, o, none⟩ ∧ b < w.heap.size ∧ cs.length = sz ∧ R w xs[i] cs ∧ ∀ j v, cs[j]? = some v → w.cell? ⟨b, o + i * sz + j, none⟩ = some v

/-- What R says stays true while memory grows. -/
def Stay {α : Type} (R : World → α → List Value → Prop) : Prop := ∀ w w' x cs, Below w.heap.size w w' → R w x cs → R w' x cs

section
variable {α : Type} {R : World → α → List Value → Prop} {sz : Nat} {w w' w0 : World} {A : Option Addr} {xs : List α} {L : List Res}
theorem Sl.nil (A : Option Addr) : Sl R sz w A [] := fun i h => absurd h (by simp)
theorem Sl.below (h : Sl R sz w A xs) (hR : Stay R) (hb : Below w.heap.size w w') : Sl R sz w' A xs := fun i hi => by
  obtain ⟨b, o, cs, hA, hlt, hl, hr, hc⟩ := h i hi
  exact ⟨b, o, cs, hA, Nat.lt_of_lt_of_le hlt hb.size, hl, hR _ _ _ _ hb hr, fun j v hv => (hb.cell (p := ⟨b, o + i * sz + j, none⟩) hlt).trans (hc j v hv)⟩
theorem Sl.mem (h : Sl R sz w0 A xs) (hR : Stay R) (hM : Mem w0 w L) : Sl R sz w A xs := h.below hR hM.below
end

def RInt : World → Int → List Value → Prop := fun _ x cs => cs = [.int .i64 x]
theorem stay_int : Stay RInt := fun _ _ _ _ _ h => h
abbrev SlI (w : World) (A : Option Addr) (xs : List Int) : Prop := Sl RInt 1 w A xs
theorem SlI.at_ {w : World} {A : Option Addr} {xs : List Int} (h : SlI w A xs) {i : Nat} (hi : i < xs.length) : ∃ b o, A = some ⟨b, o, none⟩ ∧ b < w.heap.size ∧ w.cell? ⟨b, o + i, none⟩ = some (.int .i64 xs[i]) := by
  obtain ⟨b, o, cs, hA, hlt, hl, rfl, hc⟩ := h i hi
  exact ⟨b, o, hA, hlt, by simpa using hc 0 _ rfl⟩
end Go.Proofs.Ytenaklgkbchbdaa
