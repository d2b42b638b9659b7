/- The waits as own memory: the map behind the struct, the slices in it. Conditions: as each theorem says. -/
import Derived.Test.YtenaklgkbchbdaaSet
set_option linter.unusedVariables false
set_option linter.unusedSimpArgs false
namespace Go.Proofs.Ytenaklgkbchbdaa
open Go.RowKit

theorem Mem.merge {w0 w : World} {a b r : Res} {L : List Res} (h : Mem w0 w (a :: b :: L)) (hok : a.ok w → b.ok w → r.ok w) (hf : ∀ i, r.foot i → a.foot i ∨ b.foot i) : Mem w0 w (r :: L) := by
  obtain ⟨h1, h2⟩ := List.pairwise_cons.1 h.sep
  obtain ⟨h3, h4⟩ := List.pairwise_cons.1 h2
  refine ⟨h.os, h.tape, h.output, h.size, h.old, fun x hx => ?_, fun x hx i hi => ?_, List.pairwise_cons.2 ⟨fun x hx i hi hj => ?_, h4⟩⟩
  · rcases List.mem_cons.1 hx with rfl | hx
    · exact hok (h.all a (.head _)) (h.all b (.tail _ (.head _)))
    · exact h.all x (.tail _ (.tail _ hx))
  · rcases List.mem_cons.1 hx with rfl | hx
    · rcases hf i hi with hi | hi
      · exact h.new a (.head _) i hi
      · exact h.new b (.tail _ (.head _)) i hi
    · exact h.new x (.tail _ (.tail _ hx)) i hi
  · rcases hf i hi with hi | hi
    · exact h1 x (.tail _ hx) i hi hj
    · exact h3 x hx i hi hj
theorem Mem.split {w0 w : World} {a b r : Res} {L : List Res} (h : Mem w0 w (r :: L)) (ha : a.ok w) (hb : b.ok w) (hf : ∀ i, a.foot i → r.foot i) (hg : ∀ i, b.foot i → r.foot i) (hs : ∀ i, a.foot i → ¬ b.foot i) : Mem w0 w (a :: b :: L) := by
  obtain ⟨h1, h2⟩ := List.pairwise_cons.1 h.sep
  refine ⟨h.os, h.tape, h.output, h.size, h.old, fun x hx => ?_, fun x hx i hi => ?_, List.pairwise_cons.2 ⟨fun x hx i hi hj => ?_, List.pairwise_cons.2 ⟨fun x hx i hi hj => h1 x hx i (hg i hi) hj, h2⟩⟩⟩
  · rcases List.mem_cons.1 hx with rfl | hx
    · exact ha
    · rcases List.mem_cons.1 hx with rfl | hx
      · exact hb
      · exact h.all x (.tail _ hx)
  · rcases List.mem_cons.1 hx with rfl | hx
    · exact h.new r (.head _) i (hf i hi)
    · rcases List.mem_cons.1 hx with rfl | hx
      · exact h.new r (.head _) i (hg i hi)
      · exact h.new x (.tail _ hx) i hi
  · rcases List.mem_cons.1 hx with rfl | hx
    · exact hs i hi hj
    · exact h1 x hx i (hf i hi) hj

/-- The struct at g and the map in it: at most n entries, D tells what stands at a key. -/
def wmap (g : Nat) (mv : Option Nat) (n : Nat) (D : Int → Option Value) : Res where
  foot := fun i => i = g ∨ mv = some i
  ok := fun w => (blk g 26 #[.map mv]).ok w ∧ (mv = none → ∀ k, D k = none) ∧ ∀ b, mv = some b → g ≠ b ∧ (imap Try.prog 3 b n D).ok w
  loc := fun {w w'} h ⟨h1, h2, h3⟩ => ⟨(blk g _ _).loc (fun i hi => h i (.inl hi)) h1, h2, fun b e => ⟨(h3 b e).1, (imap _ _ b n D).loc (fun i hi => h i (.inr (by rw [e]; exact congrArg some hi.symm))) (h3 b e).2⟩⟩
  dom := fun {w} ⟨h1, h2, h3⟩ i hi => by
    rcases hi with hi | hi
    · exact (blk g _ _).dom h1 i hi
    · exact (imap _ _ i n D).dom (h3 i hi).2 i rfl

variable {w0 w : World} {L : List Res} {g n : Nat} {D : Int → Option Value}
theorem wmap_none (h : Mem w0 w (wmap g none n D :: L)) : Mem w0 w (blk g 26 #[.map none] :: L) ∧ ∀ k, D k = none :=
  ⟨h.weaken (fun hk => hk.1) (fun i hi => .inl hi), h.head.2.1 rfl⟩
theorem wmap_some {b : Nat} (h : Mem w0 w (wmap g (some b) n D :: L)) : Mem w0 w (blk g 26 #[.map (some b)] :: imap Try.prog 3 b n D :: L) :=
  h.split h.head.1 (h.head.2.2 b rfl).2 (fun i hi => .inl hi) (fun i hi => .inr (congrArg some hi.symm)) (fun i hi hj => (h.head.2.2 b rfl).1 (hi.symm.trans hj))
theorem to_wmap_none (h : Mem w0 w (blk g 26 #[.map none] :: L)) (hD : ∀ k, D k = none) : Mem w0 w (wmap g none n D :: L) :=
  h.weaken (fun hk => ⟨hk, fun _ => hD, fun b e => by cases e⟩) (fun i hi => hi.elim id (fun e => by cases e))
theorem to_wmap_some {b : Nat} (h : Mem w0 w (blk g 26 #[.map (some b)] :: imap Try.prog 3 b n D :: L)) : Mem w0 w (wmap g (some b) n D :: L) :=
  h.merge (fun h1 h2 => ⟨h1, (fun e => by cases e), (fun b' e => by cases e; exact ⟨h.apart rfl rfl, h2⟩)⟩) (fun i hi => hi.imp id (fun e => by cases e; rfl))

theorem wmap_more {mv : Option Nat} {m : Nat} {D' : Int → Option Value} (h : Mem w0 w (wmap g mv n D :: L)) (hn : n ≤ m) (hD : ∀ k, D k = D' k) : Mem w0 w (wmap g mv m D' :: L) :=
  h.weaken (fun ⟨h1, h2, h3⟩ => ⟨h1, fun e k => by rw [← hD k]; exact h2 e k, fun b e => ⟨(h3 b e).1, imap_more (h3 b e).2 hn hD⟩⟩) (fun i hi => hi)

/-- The slices in the map. -/
def valsR (bs : List Nat) (D : Int → Option Value) (f : Int → List Int) : Res where
  foot := fun i => i ∈ bs
  ok := fun w => Vals (· ∈ bs) w D f ∧ ∀ b ∈ bs, b < w.heap.size
  loc := fun {w w'} h ⟨h1, h2⟩ => by
    have hlt : ∀ b ∈ bs, b < w'.heap.size := fun b hb => by
      have e := h b hb
      rw [Array.getElem?_eq_getElem (h2 b hb)] at e
      exact (Array.getElem?_eq_some_iff.1 e).1
    refine ⟨fun k => ⟨(h1 k).1, fun v hv => ?_⟩, hlt⟩
    obtain ⟨hne, b, o, c, e, hS, hb, hc⟩ := (h1 k).2 v hv
    refine ⟨hne, b, o, c, e, hS, hlt b hS, fun i hi => ?_⟩
    rw [← hc i hi]
    simp only [World.cell?, h b hS]
  dom := fun ⟨_, h⟩ i hi => h i hi

theorem wok_of {bs : List Nat} {f : Int → List Int} {mv : Option Nat} (h1 : (wmap g mv n D).ok w) (h2 : (valsR bs D f).ok w) : WOK w g f :=
  ⟨mv, n, (· ∈ bs), D, h1.1, h1.2.1, fun b e => (h1.2.2 b e).2, h2.1⟩

/-- f, but for i. -/
def updF (f : Int → List Int) (i : Int) (l : List Int) : Int → List Int := fun k => if k = i then l else f k
def updD (D : Int → Option Value) (i : Int) (v : Option Value) : Int → Option Value := fun k => if k = i then v else D k

theorem vals_del {bs : List Nat} {f : Int → List Int} (h : Mem w0 w (valsR bs D f :: L)) (i : Int) : Mem w0 w (valsR bs (updD D i none) (updF f i []) :: L) :=
  h.weaken (fun ⟨h1, h2⟩ => ⟨fun k => by
    by_cases hk : k = i
    · simp [updD, updF, hk]
    · simpa [updD, updF, hk] using h1 k, h2⟩) (fun i hi => hi)
theorem vals_add {bs : List Nat} {f : Int → List Int} {A : Option Addr} {c : Nat} {l : List Int} (h : Mem w0 w (vec 3 1 A l.length c (ints l) :: valsR bs D f :: L)) (i : Int) (hl : l ≠ []) :
    ∃ bs', Mem w0 w (valsR bs' (updD D i (some (.slice A l.length c))) (updF f i l) :: L) := by
  have hpos : 0 < l.length := List.length_pos_iff.2 hl
  obtain ⟨b, o, u, rfl, _, _⟩ := vec_cell h.head (j := 0) (by omega)
  refine ⟨b :: bs, h.merge (fun h1 ⟨h2, h3⟩ => ⟨fun k => ?_, fun x hx => ?_⟩) (fun i hi => ?_)⟩
  · by_cases hk : k = i
    · subst hk
      refine ⟨fun hd => by simp [updD] at hd, fun v hv => ?_⟩
      simp only [updD, if_true, Option.some.injEq] at hv
      subst hv
      simp only [updF, if_true]
      refine ⟨hl, b, o, c, rfl, .head _, (vec _ _ _ _ _ _).dom h1 b ⟨_, rfl, rfl⟩, fun j hj => ?_⟩
      obtain ⟨g', o', u, hA, hu, hc⟩ := vec_cell h1 (j := j) (by omega)
      cases hA
      rw [hc, ← hu]; simp [ints, hj]
    · have h4 := h2 k
      simp only [updD, updF, hk, if_false]
      refine ⟨h4.1, fun v hv => ?_⟩
      obtain ⟨hne, b', o', c', e, hS, hb, hc⟩ := h4.2 v hv
      exact ⟨hne, b', o', c', e, .tail _ hS, hb, hc⟩
  · rcases List.mem_cons.1 hx with rfl | hx
    · exact (vec _ _ _ _ _ _).dom h1 _ ⟨_, rfl, rfl⟩
    · exact h3 x hx
  · rcases List.mem_cons.1 hi with rfl | hi
    · exact .inl ⟨_, rfl, rfl⟩
    · exact .inr hi
theorem vals_same {bs : List Nat} {f f' : Int → List Int} {D' : Int → Option Value} (h : Mem w0 w (valsR bs D f :: L)) (hD : ∀ k, D' k = D k) (hf : ∀ k, f' k = f k) : Mem w0 w (valsR bs D' f' :: L) := by
  obtain rfl : D' = D := funext hD
  obtain rfl : f' = f := funext hf
  exact h

theorem set_ok (w0 w : World) (L : List Res) (g3 g4 g n : Nat) (mv : Option Nat) (D : Int → Option Value) (A : Option Addr) (m c : Nat) (i : Int) (hi : I64 i) (some? : Bool) (hn : n < 1000000000000)
    (hM : Mem w0 w (blk g3 40 #[.pointer (some ⟨g, 0, none⟩)] :: blk g4 3 #[.int .i64 i] :: wmap g mv n D :: L)) :
    Calls Try.prog 15 #[.slice A m c, .bool some?, .pointer (some ⟨g3, 0, none⟩), .pointer (some ⟨g4, 0, none⟩)] w
      (Ret fun v w' => ∃ mv', Mem w0 w' (blk g3 40 #[.pointer (some ⟨g, 0, none⟩)] :: blk g4 3 #[.int .i64 i] :: wmap g mv' (n + 1) (updD D i (if some? then some (.slice A m c) else none)) :: L)) := by
  rcases mv with _ | b
  · obtain ⟨hM', hD⟩ := wmap_none hM.p2
    refine (set_none w0 w L g3 g4 g A m c i hi some? hM'.q2).mono ?_
    rintro e w' ⟨v, rfl, (⟨rfl, h⟩ | ⟨rfl, b, h⟩)⟩
    · exact ret_mk ⟨none, (to_wmap_none h.p2 (fun k => by simp [updD, hD])).q2⟩
    · have h2 := (h.p3.imore (m := n + 1) (f' := updD D i (some (.slice A m c))) (by omega) (fun k => by simp [updD, hD])).q3.p3.p3
      exact ret_mk ⟨some b, (to_wmap_some h2).q2⟩
  · refine (set_some w0 w L g3 g4 g b n D A m c i hi some? hn (wmap_some hM.p2).p3.p3).mono ?_
    rintro e w' ⟨v, rfl, h⟩
    exact ret_mk ⟨some b, (to_wmap_some h.p3.p3).q2⟩
end Go.Proofs.Ytenaklgkbchbdaa
