/- A range over a function, over own memory: what an iterator owes its caller's loop, and the loop's rule. Conditions: as each rule says; plain theorems over any program. -/
import Derived.Test.YtenaklgkbchbdaaOps
import Derived.RangeFuncRecord
import Derived.RangeFuncSeq
import Derived.RangeFuncLeaves
set_option linter.unusedVariables false
set_option linter.unusedSimpArgs false
namespace Go.Proofs.Ytenaklgkbchbdaa
open Go.RowKit

/-- One block, whatever it is. -/
def objR (g : Nat) (o : Obj) : Res where
  foot := fun i => i = g
  ok := fun w => w.heap[g]? = some o
  loc := fun h hk => (h g rfl).trans hk
  dom := fun h i hi => by subst hi; exact (Array.getElem?_eq_some_iff.1 h).1

theorem Mem.dropL {w0 w : World} {L : List Res} : ∀ {F : List Res}, Mem w0 w (F ++ L) → Mem w0 w L
  | [], h => h
  | _ :: F, h => Mem.dropL (F := F) h.drop
theorem Mem.putObj {w0 w : World} {L : List Res} {g : Nat} {o : Obj} (h : Mem w0 w (objR g o :: L)) (o' : Obj) : Mem w0 (w.putObj g o') (objR g o' :: L) :=
  h.turn rfl rfl rfl (by simp [World.putObj]) (fun k hk hne => World.putObj_heap_other hne) (World.putObj_heap_same (Array.getElem?_eq_some_iff.1 h.head).1) (fun i hi => .inl hi)
theorem Mem.addObj {w0 w : World} {L : List Res} (h : Mem w0 w L) (o : Obj) : Mem w0 (w.alloc o) (objR w.heap.size o :: L) :=
  h.add ((Below.refl _ w).alloc (Nat.le_refl _) _) (heap_alloc_new w _) (fun i hi => by
    have : i = w.heap.size := hi
    omega)
theorem perm2 {a b : Res} {F L : List Res} : (F ++ (a :: b :: L)).Perm (a :: b :: (F ++ L)) :=
  List.perm_middle.trans ((List.perm_middle).cons a)

/-- What an iterator owes: it hands its elements, one by one, to whatever loop keeps Cons from round to round; the loop may leave by Stop. F: what is held beside. -/
def IterOk {α : Type} (P : Program) (gf : Nat) (lb : Array Value) (encs : α → Array Value) (I0 : List Res) (Next : List α → α → Prop) (S : List α → Prop) (w0 : World) : Prop :=
  ∀ (l : Nat) (W : World) (Cons Stop : List α → List Res → Prop) (Lc : List Res),
    (∀ (F : List Res) (pre : List α) (x : α) (W1 : World) (Lc1 : List Res), Cons pre Lc1 → Mem w0 W1 (F ++ Lc1) → Next pre x →
      YieldAt Fence.wide 0 P l (encs x) W1 fun e W' => ∃ Lc', Mem w0 W' (F ++ Lc') ∧ ((e = .returned (.bool true) ∧ Cons (pre ++ [x]) Lc') ∨ (e = .returned (.bool false) ∧ Stop (pre ++ [x]) Lc'))) →
    Cons [] Lc → Mem w0 W (I0 ++ Lc) →
    CallsIn Fence.wide 0 P gf (#[.func (.yield l) #[] #[]] ++ lb) W fun e W' => (∃ v, e = .returned v) ∧ ∃ Lc', Mem w0 W' Lc' ∧ ((∃ xs, S xs ∧ Cons xs Lc') ∨ (∃ pre, Stop pre Lc'))

/-- How a round's body is left. -/
def roundEnd {α : Type} (w0 : World) (F : List Res) (Cons : List α → List Res → Prop) (Stop : Code → List α → List Res → Prop) (xs : List α) : Exit → Act → World → Prop
  | .normal, _, W => ∃ Lc, Mem w0 W (F ++ Lc) ∧ Cons xs Lc
  | .ret, _, W => ∃ Lc, Mem w0 W (F ++ Lc) ∧ Stop .ret xs Lc
  | .exit id, _, W => ∃ Lc, Mem w0 W (F ++ Lc) ∧ Stop (.exit id) xs Lc
  | .goto t, _, W => ∃ Lc, Mem w0 W (F ++ Lc) ∧ Stop (.goto t) xs Lc
  | .panic _, _, _ => False
  | .outgrown, _, _ => False

/-- 'for .. := range seq { .. }'. -/
theorem wp_range {α : Type} {P : Program} {g : Operand} {ps : Array Tmp} {assign body : Code} {Q : Exit → Act → World → Prop} {a : Act} {w w0 : World} {L : List Res}
    {gf : Nat} {lb : Array Value} {encs : α → Array Value} {I0 : List Res} {Next : List α → α → Prop} {S : List α → Prop}
    (hg : a.eval g = .func (.func gf) #[] lb) (eg : ∀ args w, (callFunc gf args).run P w = .ok (.enter gf args) w) (hit : IterOk P gf lb encs I0 Next S w0) (hps : ∀ x, (encs x).size = ps.size)
    (hM : Mem w0 w (I0 ++ L)) (Cons : List α → List Res → Prop) (Stop : Code → List α → List Res → Prop) (h0 : Cons [] L)
    (hround : ∀ (l : Nat) (F : List Res) (pre : List α) (x : α) (W : World) (Lc : List Res), Cons pre Lc → Mem w0 W (F ++ Lc) → Next pre x →
      assign.wpIn (Fence.wide.inRound l) 0 P (Exit.then (fun a₁ W1 => ∃ Lc1, Mem w0 W1 (F ++ Lc1) ∧ ∀ (W2 : World) (F2 : List Res), Mem w0 W2 (F2 ++ Lc1) →
        body.wpIn (Fence.wide.inRound l) 0 P (roundEnd w0 F2 Cons Stop (pre ++ [x])) a₁ W2) (fun _ _ _ => False))
        { tmps := (ps.zip (encs x)).foldl (fun t (p, v) => t.setIfInBounds p v) a.tmps, defers := [] } W)
    (hdone : ∀ (D : Nat) (xs : List α) (W : World) (Lc : List Res), S xs → Cons xs Lc → Mem w0 W (objR D (.deferred (some [])) :: Lc) → Q .normal { a with defers := { target := .collected D, args := #[] } :: a.defers } W)
    (hstop : ∀ (D : Nat) (c : Code) (pre : List α) (W : World) (Lc : List Res), Stop c pre Lc → Mem w0 W (objR D (.deferred (some [])) :: Lc) → c.wpIn Fence.wide 0 P Q { a with defers := { target := .collected D, args := #[] } :: a.defers } W) :
    (Code.rangeFunc g ps assign body).wpIn Fence.wide 0 P Q a w := by
  refine wpIn_rangeFunc ?_
  intro fn hfn
  obtain ⟨rec, hrec⟩ : ∃ rec : LoopState → Option Code → Loop, rec = fun st pe => { state := st, pending := pe, fn, tmps := a.tmps, params := ps, assign, body, defers := w.heap.size } := ⟨_, rfl⟩
  obtain ⟨l, hl⟩ : ∃ l, l = w.heap.size + 1 := ⟨_, rfl⟩
  obtain ⟨D, hD⟩ : ∃ D, D = w.heap.size := ⟨_, rfl⟩
  obtain ⟨W1, hW1⟩ : ∃ W1, (w.alloc (.deferred (some []))).alloc (.loop (rec .ready none)) = W1 := ⟨_, rfl⟩
  have hM1 : Mem w0 W1 (objR l (.loop (rec .ready none)) :: objR D (.deferred (some [])) :: (I0 ++ L)) := by
    have h1 := (hM.addObj (.deferred (some []))).addObj (.loop (rec .ready none))
    rw [hW1] at h1
    rw [hl, hD]
    simpa using h1
  refine ⟨l, [{ target := .collected D, args := #[] }], W1, { target := .fn (.func gf) lb, args := #[.func (.yield l) #[] #[]] }, W1, gf, #[.func (.yield l) #[] #[]] ++ lb, W1, ?_, ?_, fun _ _ => trivial, ?_, fun h => by simp [Fence.wide] at h, ?_⟩
  · rw [← hW1, hrec, hl, hD]; exact run_enterLoop_outer _ _ _ _ _
  · simp only [resolve, hg]
    simp [go_sem]
  · simp [invoke, go_sem, eg]
  · refine (hit l W1
      (fun pre Lc => ∃ Lc0, Lc = objR l (.loop (rec .ready none)) :: objR D (.deferred (some [])) :: Lc0 ∧ Cons pre Lc0)
      (fun pre Lc => ∃ c Lc0, Lc = objR l (.loop (rec .done (some c))) :: objR D (.deferred (some [])) :: Lc0 ∧ Stop c pre Lc0)
      _ ?_ ⟨L, rfl, h0⟩ (hM1.perm perm2.symm)).mono ?_
    · -- one round
      rintro F pre x W Lc ⟨Lc0, rfl, hc⟩ hMr hnext
      have hMr := hMr.perm perm2
      have hy := run_yield (P := P) (args := encs x) hMr.head (by rw [hrec]; exact hps x)
      rw [hrec] at hy
      refine ⟨fn, _, assign, body, hy, roundIn_of_wpIn hfn ?_⟩
      have hR := hround l (objR l (.loop (rec .ready none)) :: objR D (.deferred (some [])) :: F) pre x W Lc0 hc hMr hnext
      refine wpIn_mono hR ?_
      rintro e a1 W2 hq
      cases e with
      | normal =>
        obtain ⟨Lc1, hM2, hb⟩ := hq
        refine ⟨_, run_beginRound hM2.head (by rw [hrec]), ?_⟩
        have hM3 := hM2.putObj (.loop { rec .ready none with state := .busy })
        refine wpIn_mono (hb _ (objR l (.loop { rec .ready none with state := .busy }) :: objR D (.deferred (some [])) :: F) hM3) ?_
        have fin : ∀ (jump : Option Code) (W4 : World) (Lc2 : List Res), Mem w0 W4 ((objR l (.loop { rec .ready none with state := .busy }) :: objR D (.deferred (some [])) :: F) ++ Lc2) →
            (Instr.endRound l jump).run P W4 = .ok (.bool jump.isNone) (W4.putObj l (.loop (rec (if jump.isNone then .ready else .done) jump))) ∧
            Mem w0 (W4.putObj l (.loop (rec (if jump.isNone then .ready else .done) jump))) (F ++ (objR l (.loop (rec (if jump.isNone then .ready else .done) jump)) :: objR D (.deferred (some [])) :: Lc2)) := fun jump W4 Lc2 h4 => by
          have hr := run_endRound (P := P) jump h4.head
          refine ⟨by rw [hrec] at hr ⊢; exact hr, (Mem.putObj h4 _).perm perm2.symm⟩
        rintro e a3 W4 hp
        cases e with
        | normal =>
          obtain ⟨Lc2, h4, hc2⟩ := hp
          obtain ⟨hr, hm⟩ := fin none W4 Lc2 h4
          exact ⟨_, _, hr, _, hm, .inl ⟨rfl, Lc2, rfl, hc2⟩⟩
        | ret =>
          obtain ⟨Lc2, h4, hc2⟩ := hp
          obtain ⟨hr, hm⟩ := fin (some .ret) W4 Lc2 h4
          exact ⟨_, _, hr, _, hm, .inr ⟨rfl, _, Lc2, rfl, hc2⟩⟩
        | exit id =>
          obtain ⟨Lc2, h4, hc2⟩ := hp
          obtain ⟨hr, hm⟩ := fin (some (.exit id)) W4 Lc2 h4
          exact ⟨_, _, hr, _, hm, .inr ⟨rfl, _, Lc2, rfl, hc2⟩⟩
        | goto t =>
          obtain ⟨Lc2, h4, hc2⟩ := hp
          obtain ⟨hr, hm⟩ := fin (some (.goto t)) W4 Lc2 h4
          exact ⟨_, _, hr, _, hm, .inr ⟨rfl, _, Lc2, rfl, hc2⟩⟩
        | panic ch => exact hp.elim
        | outgrown => exact hp.elim
      | exit id => exact hq.elim
      | goto t => exact hq.elim
      | ret => exact hq.elim
      | panic ch => exact hq.elim
      | outgrown => exact hq.elim
    · rintro e W2 ⟨⟨v, rfl⟩, Lc', hM2, hcase⟩
      rcases hcase with ⟨xs, hS, Lc0, rfl, hc⟩ | ⟨pre, c, Lc0, rfl, hc⟩
      · have hr := run_endLoop (P := P) hM2.head (by rw [hrec]; simp)
        have h3 := (hM2.putObj (.loop { rec .ready none with state := .exhausted })).drop
        have e : (rec .ready none).pending = none := by rw [hrec]
        refine ⟨none, _, by rw [← e]; exact hr, ?_⟩
        exact hdone D xs _ Lc0 hS hc h3
      · have hr := run_endLoop (P := P) hM2.head (by rw [hrec]; simp)
        have h3 := (hM2.putObj (.loop { rec .done (some c) with state := .exhausted })).drop
        have e : (rec .done (some c)).pending = some c := by rw [hrec]
        refine ⟨some c, _, by rw [← e]; exact hr, ?_⟩
        exact hstop D c pre _ Lc0 hc h3
end Go.Proofs.Ytenaklgkbchbdaa
