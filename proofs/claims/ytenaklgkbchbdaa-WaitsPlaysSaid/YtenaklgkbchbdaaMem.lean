/- A small logic of own memory: a world that has grown out of another one, with a list of resources (blocks, rows, maps) that the call owns, pairwise apart. Conditions: none; plain theorems over any program. -/
import Derived.WalkKit
import Derived.Maps.OwnSet
import Derived.Deep.Draws
import Derived.Maps.AppendAt
import Derived.Lib.Hide
set_option linter.unusedVariables false
set_option linter.unusedSimpArgs false
namespace Go.Proofs.Ytenaklgkbchbdaa
open Go.RowKit

/-- A resource: blocks that it stands on, and what is true of them. -/
structure Res where
  foot : Nat → Prop
  ok : World → Prop
  loc : ∀ {w w' : World}, (∀ i, foot i → w'.heap[i]? = w.heap[i]?) → ok w → ok w'
  dom : ∀ {w : World}, ok w → ∀ i, foot i → i < w.heap.size

/-- The world w has grown out of w0; of what there was nothing has turned; the resources of L are the call's own, apart from each other. -/
structure Mem (w0 w : World) (L : List Res) : Prop where
  os : w.os = w0.os
  tape : w.tape = w0.tape
  output : w.output = w0.output
  size : w0.heap.size ≤ w.heap.size
  old : ∀ k, k < w0.heap.size → w.heap[k]? = w0.heap[k]?
  all : ∀ r ∈ L, r.ok w
  new : ∀ r ∈ L, ∀ i, r.foot i → w0.heap.size ≤ i
  sep : L.Pairwise (fun r s => ∀ i, r.foot i → ¬ s.foot i)

namespace Mem
variable {w0 w w1 w2 : World} {L L' : List Res} {r s : Res}
theorem refl (w : World) : Mem w w [] := ⟨rfl, rfl, rfl, Nat.le_refl _, fun _ _ => rfl, by simp, by simp, .nil⟩
theorem below (h : Mem w0 w L) : Below w0.heap.size w0 w := ⟨h.os, h.tape, h.output, h.size, h.old⟩
theorem of_below (h : Below w.heap.size w w1) : Mem w w1 [] := ⟨h.os, h.tape, h.output, h.size, h.block, by simp, by simp, .nil⟩
theorem drew (h : Mem w0 w L) : Mem w0 w.drew L := ⟨h.os, h.tape, h.output, h.size, h.old, fun r hr => r.loc (w := w) (fun _ _ => rfl) (h.all r hr), h.new, h.sep⟩
theorem drewN (h : Mem w0 w L) (n : Nat) : Mem w0 (w.drewN n) L := ⟨h.os, h.tape, h.output, h.size, h.old, fun r hr => r.loc (w := w) (fun _ _ => rfl) (h.all r hr), h.new, h.sep⟩
theorem head (h : Mem w0 w (r :: L)) : r.ok w := h.all r (.head _)
theorem get (h : Mem w0 w L) (hr : r ∈ L) : r.ok w := h.all r hr
theorem drop (h : Mem w0 w (r :: L)) : Mem w0 w L :=
  ⟨h.os, h.tape, h.output, h.size, h.old, fun s hs => h.all s (.tail _ hs), fun s hs => h.new s (.tail _ hs), (List.pairwise_cons.1 h.sep).2⟩
theorem perm (h : Mem w0 w L) (hp : L.Perm L') : Mem w0 w L' :=
  ⟨h.os, h.tape, h.output, h.size, h.old, fun s hs => h.all s (hp.mem_iff.2 hs), fun s hs => h.new s (hp.mem_iff.2 hs),
   (hp.pairwise_iff (fun {a b} hab i hb ha => hab i ha hb)).1 h.sep⟩
/-- The resources' blocks lie in the world. -/
theorem lt (h : Mem w0 w L) (hr : r ∈ L) {i : Nat} (hi : r.foot i) : i < w.heap.size := r.dom (h.all r hr) i hi
/-- What was true of old blocks is true. -/
theorem oldok (h : Mem w0 w L) (hr : r.ok w0) : r.ok w := r.loc (fun i hi => h.old i (r.dom hr i hi)) hr
/-- Nothing that was there has turned. -/
theorem step (h : Mem w0 w L) (hb : Below w.heap.size w w1) : Mem w0 w1 L :=
  ⟨hb.os.trans h.os, hb.tape.trans h.tape, hb.output.trans h.output, Nat.le_trans h.size hb.size,
   fun k hk => (hb.block k (Nat.lt_of_lt_of_le hk h.size)).trans (h.old k hk),
   fun r hr => r.loc (fun i hi => hb.block i (r.dom (h.all r hr) i hi)) (h.all r hr), h.new, h.sep⟩
/-- A callee's own memory joins ours. -/
theorem trans (h : Mem w0 w L) (k : Mem w w1 L') : Mem w0 w1 (L' ++ L) := by
  have hs := h.step k.below
  refine ⟨hs.os, hs.tape, hs.output, hs.size, hs.old, fun r hr => ?_, fun r hr i hi => ?_, ?_⟩
  · rcases List.mem_append.1 hr with hr | hr
    · exact k.all r hr
    · exact hs.all r hr
  · rcases List.mem_append.1 hr with hr | hr
    · exact Nat.le_trans h.size (k.new r hr i hi)
    · exact h.new r hr i hi
  · refine List.pairwise_append.2 ⟨k.sep, h.sep, fun a ha b hb i hi hj => ?_⟩
    have h1 := k.new a ha i hi
    have h2 := h.lt hb hj
    omega
theorem trans0 (h : Mem w0 w L) (k : Mem w w1 []) : Mem w0 w1 L := h.step k.below
theorem trans1 {a : Res} (h : Mem w0 w L) (k : Mem w w1 [a]) : Mem w0 w1 (a :: L) := h.trans k
theorem trans2 {a b : Res} (h : Mem w0 w L) (k : Mem w w1 [a, b]) : Mem w0 w1 (a :: b :: L) := h.trans k
/-- One resource has turned into another one, on its own blocks or on new ones; nothing else has turned. -/
theorem turn (h : Mem w0 w (r :: L)) (hos : w1.os = w.os) (htape : w1.tape = w.tape) (hout : w1.output = w.output) (hsize : w.heap.size ≤ w1.heap.size)
    (hblock : ∀ k, k < w.heap.size → ¬ r.foot k → w1.heap[k]? = w.heap[k]?) (hok : s.ok w1) (hfoot : ∀ i, s.foot i → r.foot i ∨ w.heap.size ≤ i) : Mem w0 w1 (s :: L) := by
  have hsep := List.pairwise_cons.1 h.sep
  refine ⟨hos.trans h.os, htape.trans h.tape, hout.trans h.output, Nat.le_trans h.size hsize, fun k hk => ?_, fun x hx => ?_, fun x hx i hi => ?_, ?_⟩
  · refine (hblock k (Nat.lt_of_lt_of_le hk h.size) (fun hf => ?_)).trans (h.old k hk)
    have := h.new r (.head _) k hf
    omega
  · rcases List.mem_cons.1 hx with rfl | hx
    · exact hok
    · exact x.loc (fun i hi => hblock i (h.lt (.tail _ hx) hi) (fun hf => hsep.1 x hx i hf hi)) (h.all x (.tail _ hx))
  · rcases List.mem_cons.1 hx with rfl | hx
    · rcases hfoot i hi with hf | hf
      · exact h.new r (.head _) i hf
      · exact Nat.le_trans h.size hf
    · exact h.new x (.tail _ hx) i hi
  · refine List.pairwise_cons.2 ⟨fun x hx i hi hj => ?_, hsep.2⟩
    rcases hfoot i hi with hf | hf
    · exact hsep.1 x hx i hf hj
    · have := h.lt (.tail _ hx) hj
      omega
/-- A new resource on new blocks. -/
theorem add (h : Mem w0 w L) (hb : Below w.heap.size w w1) (hok : r.ok w1) (hfoot : ∀ i, r.foot i → w.heap.size ≤ i) : Mem w0 w1 (r :: L) := by
  have hs := h.step hb
  refine ⟨hs.os, hs.tape, hs.output, hs.size, hs.old, fun x hx => ?_, fun x hx i hi => ?_, ?_⟩
  · rcases List.mem_cons.1 hx with rfl | hx
    · exact hok
    · exact hs.all x hx
  · rcases List.mem_cons.1 hx with rfl | hx
    · exact Nat.le_trans h.size (hfoot i hi)
    · exact h.new x hx i hi
  · refine List.pairwise_cons.2 ⟨fun x hx i hi hj => ?_, h.sep⟩
    have h1 := hfoot i hi
    have h2 := h.lt hx hj
    omega
/-- What the head says may be said otherwise. -/
theorem weaken (h : Mem w0 w (r :: L)) (hok : r.ok w → s.ok w) (hfoot : ∀ i, s.foot i → r.foot i) : Mem w0 w (s :: L) :=
  h.turn rfl rfl rfl (Nat.le_refl _) (fun _ _ _ => rfl) (hok h.head) (fun i hi => .inl (hfoot i hi))
theorem p1 {a b : Res} (h : Mem w0 w (a :: b :: L)) : Mem w0 w (b :: a :: L) := h.perm (.swap b a L)
theorem p2 {a b c : Res} (h : Mem w0 w (a :: b :: c :: L)) : Mem w0 w (c :: a :: b :: L) := h.perm (by
  have := List.perm_middle (a := c) (l₁ := [a, b]) (l₂ := L); simpa using this)
theorem p3 {a b c d : Res} (h : Mem w0 w (a :: b :: c :: d :: L)) : Mem w0 w (d :: a :: b :: c :: L) := h.perm (by
  have := List.perm_middle (a := d) (l₁ := [a, b, c]) (l₂ := L); simpa using this)
theorem p4 {a b c d e : Res} (h : Mem w0 w (a :: b :: c :: d :: e :: L)) : Mem w0 w (e :: a :: b :: c :: d :: L) := h.perm (by
  have := List.perm_middle (a := e) (l₁ := [a, b, c, d]) (l₂ := L); simpa using this)
theorem p5 {a b c d e f : Res} (h : Mem w0 w (a :: b :: c :: d :: e :: f :: L)) : Mem w0 w (f :: a :: b :: c :: d :: e :: L) := h.perm (by
  have := List.perm_middle (a := f) (l₁ := [a, b, c, d, e]) (l₂ := L); simpa using this)
/-- Two blocks of two resources differ. -/
theorem apart {a b : Res} (h : Mem w0 w (a :: b :: L)) {i j : Nat} (hi : a.foot i) (hj : b.foot j) : i ≠ j := by
  rintro rfl
  exact (List.pairwise_cons.1 h.sep).1 b (.head _) i hi hj
end Mem

/-- One block, known whole. -/
def blk (g : Nat) (t : TypeId) (cs : Array Value) : Res where
  foot := fun i => i = g
  ok := fun w => w.heap[g]? = some (.cells cs t (0, 0))
  loc := fun h hk => (h g rfl).trans hk
  dom := fun h i hi => by subst hi; exact (Array.getElem?_eq_some_iff.1 h).1

/-- A slice that owns its row: v is nil and holds nothing, or it begins at the head of a block whose first cells are xs. -/
def row (e : TypeId) (size : Nat) (v : Value) (n : Nat) (xs : List Value) : Res where
  foot := fun i => v.ownBlock = some i
  ok := fun w => w.ownsRow 0 e size v n xs
  loc := fun {w w'} h hk => by
    refine ⟨hk.1, ?_⟩
    rcases hk.2 with h0 | ⟨g, cap, cur, hv, hb, hg, hr⟩
    · exact .inl h0
    · exact .inr ⟨g, cap, cur, hv, hb, (h g (by rw [hv]; rfl)).trans hg, hr⟩
  dom := fun {w} h i hi => by
    rcases h.2 with ⟨rfl, _⟩ | ⟨g, cap, cur, rfl, hb, hg, hr⟩
    · simp [Value.ownBlock] at hi
    · have : g = i := by simpa [Value.ownBlock] using hi
      subst this
      exact (Array.getElem?_eq_some_iff.1 hg).1

/-- A map's block. -/
def mapR {H : Type} (P : Program) (k : TypeId) (R : Value → Option (DataW H × List MemPlace)) (b n : Nat) (D : DataW H) : Res where
  foot := fun i => i = b
  ok := fun w => w.ownsMap P k R b n D
  loc := fun {w w'} h hk => by
    obtain ⟨es, clock, hb, hr⟩ := hk
    exact ⟨es, clock, (h b rfl).trans hb, hr⟩
  dom := fun h i hi => by subst hi; exact h.lt

theorem row_of_owns {w w' : World} {e : TypeId} {size n : Nat} {v : Value} {xs : List Value} (h : w'.ownsRow w.heap.size e size v n xs) (hb : Below w.heap.size w w') : Mem w w' [row e size v n xs] := by
  have hok : (row e size v n xs).ok w' := by
    refine ⟨h.1, ?_⟩
    rcases h.2 with h0 | ⟨g, cap, cur, hv, _, hg, hr⟩
    · exact .inl h0
    · exact .inr ⟨g, cap, cur, hv, Nat.zero_le _, hg, hr⟩
  have hnew : ∀ i, (row e size v n xs).foot i → w.heap.size ≤ i := fun i hi => by
    rcases h.2 with ⟨rfl, _⟩ | ⟨g, cap, cur, rfl, hge, _⟩
    · simp [row, Value.ownBlock] at hi
    · have : g = i := by simpa [row, Value.ownBlock] using hi
      omega
  exact ⟨hb.os, hb.tape, hb.output, hb.size, hb.block, fun r hr => by rw [List.mem_singleton.1 hr]; exact hok, fun r hr => by rw [List.mem_singleton.1 hr]; exact hnew, by simp⟩
/-- A result, with what is true of the world behind. -/
def Ret (Q : Value → World → Prop) (e : Ending) (w' : World) : Prop := ∃ v, e = .returned v ∧ Q v w'
theorem ret_mk {Q : Value → World → Prop} {v : Value} {w' : World} (h : Q v w') : Ret Q (.returned v) w' := ⟨v, rfl, h⟩
end Go.Proofs.Ytenaklgkbchbdaa
