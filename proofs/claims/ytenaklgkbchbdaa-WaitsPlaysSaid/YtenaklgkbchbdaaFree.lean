/- Free. Conditions: as each theorem says. -/
import Derived.Test.YtenaklgkbchbdaaRange
import Derived.Test.YtenaklgkbchbdaaDelShelf
set_option linter.unusedVariables false
set_option linter.unusedSimpArgs false
namespace Go.Proofs.Ytenaklgkbchbdaa
open Go.RowKit

/-- f without i. -/
def freeF (f : Int → List Int) (i : Int) : Int → List Int := fun k => if k = i then [] else (f k).filter fun x => !decide (x = i)

set_option maxRecDepth 20000 in
set_option maxHeartbeats 2000000 in
theorem free_some (w0 w : World) (L : List Res) (g n b : Nat) (bs : List Nat) (D : Int → Option Value) (f : Int → List Int) (hM : Mem w0 w (blk g 26 #[.map (some b)] :: imap Try.prog 3 b n D :: valsR bs D f :: L)) (hn : n < 100000000)
    (hlen : ∀ k, (f k).length ≤ 1000000) (i : Int) (hi : I64 i) :
    Calls Try.prog 5 #[.pointer (some ⟨g, 0, none⟩), .int .i64 i] w
      (Ret fun v w' => ∃ bs' D', Mem w0 w' (blk g 26 #[.map (some b)] :: imap Try.prog 3 b n D' :: valsR bs' D' (freeF f i) :: L)) := by
  go_enter Try.func5, Try.ntmps5
  go_wp2_with (first
    | (show wpList _ _ _ (⟨_, Op.box _ _, _, _, _, _⟩ :: _) _ _; first | (refine wl_boxA (o := ⟨some 3, _, _, _, _, _⟩) hM rfl _ _ rfl _ rfl ?_; clear hM; intro g3 w3 hM) | (refine wl_box1 (o := ⟨some 3, _, _, _, _, _⟩) hM rfl _ _ rfl (.int _ _) rfl rfl ?_; clear hM; intro g3 w3 hM))
    | (show wpList _ _ _ (⟨_, Op.load 24 _, _, _, _, _⟩ :: _) _ _; first | (refine wl_load1 hM rfl 24 _ rfl rfl (.map _) rfl (by simp [go_sem]) ?_) | (refine wl_load1 hM.p1 rfl 24 _ rfl rfl (.map _) rfl (by simp [go_sem]) ?_) | (refine wl_load1 hM.p2 rfl 24 _ rfl rfl (.map _) rfl (by simp [go_sem]) ?_) | (refine wl_loadO hM rfl 24 _ rfl rfl (by assumption) (by simp [go_sem]) ?_))
    )
  have hc3 : w3.cell? ⟨g3, 0, none⟩ = some (.int .i64 i) := cell_blk hM.head
  have hcg : w3.cell? ⟨g, 0, none⟩ = some (.map (some b)) := cell_blk hM.p1.head
  go_still_tail 5, (by kernel_rfl)
  change wpList _ _ _ _ _ w3.drew
  have hM := hM.drew
  generalize w3.drew = wd at hM ⊢
  go_wp2_with (first
    | (show wpList _ _ _ (⟨_, Op.call { callee := Callee.builtin Builtin.delete, args := _, argTypes := _ }, _, _, _, _⟩ :: _) _ _; go_must (refine wl_delete hM.p2 rfl 24 _ _ rfl rfl _ rfl hi Try.underlying24 Try.underlying3 ?_; clear hM; intro wx hM))
    | (show wpList _ _ _ (⟨_, Op.range _ _, _, _, _, _⟩ :: _) _ _; go_must (refine wl_range hM rfl 24 _ rfl rfl Try.underlying24 Try.underlying3 ?_; clear hM; intro r cnt wr0 hM))
    | (show wpList _ _ _ (⟨_, Op.box _ _, _, _, _, _⟩ :: _) _ _; first | (refine wl_boxA (o := ⟨some 3, _, _, _, _, _⟩) hM rfl _ _ rfl _ rfl ?_; clear hM; intro g3 w3 hM) | (refine wl_box1 (o := ⟨some 3, _, _, _, _, _⟩) hM rfl _ _ rfl (.int _ _) rfl rfl ?_; clear hM; intro g3 w3 hM))
    | (show wpList _ _ _ (⟨_, Op.load 24 _, _, _, _, _⟩ :: _) _ _; first | (refine wl_load1 hM rfl 24 _ rfl rfl (.map _) rfl (by simp [go_sem]) ?_) | (refine wl_load1 hM.p1 rfl 24 _ rfl rfl (.map _) rfl (by simp [go_sem]) ?_) | (refine wl_load1 hM.p2 rfl 24 _ rfl rfl (.map _) rfl (by simp [go_sem]) ?_) | (refine wl_loadO hM rfl 24 _ rfl rfl (by assumption) (by simp [go_sem]) ?_))
    )
  have hM := (vals_del hM.p3 i).q3
  obtain ⟨f1, hf1⟩ : ∃ f1, f1 = updF f i [] := ⟨_, rfl⟩
  have hl1 : ∀ k, (f1 k).length ≤ 1000000 := fun k => by
    rw [hf1]; unfold updF; split
    · simp
    · exact hlen k
  have hfin : ∀ k, freeF f i k = (f1 k).filter fun x => !decide (x = i) := fun k => by
    rw [hf1]; unfold freeF updF; split <;> simp
  rw [← hf1] at hM
  clear hf1 hlen hcg hc3
  go_frame
  go_loopg [4] cnt (fun kq v4 w' => ∃ (Dc : Int → Option Value) (left : Int → Bool) (fc : Int → List Int) (bs1 : List Nat),
    Mem w0 w' (rng Try.prog 3 b r n Dc left kq :: blk g3 3 #[.int .i64 i] :: blk g 26 #[.map (some b)] :: valsR bs1 Dc fc :: L) ∧ ∀ k, fc k = if left k then f1 k else (f1 k).filter fun x => !decide (x = i))
  case atStart =>
    refine ⟨_, _, f1, bs, hM, fun k => ?_⟩
    change f1 k = if (updD D i none k).isSome = true then f1 k else _
    cases hd : updD D i none k with
    | none => rw [(hM.p3.head.1 k).1 hd]; rfl
    | some v => rfl
  case round =>
    clear hM
    obtain ⟨Dc, left, fc, bs1, hM, hfc⟩ := hrel
    go_wp2_with (first
      | (show wpList _ _ _ (⟨_, Op.next _ _, _, _, _, _⟩ :: _) _ _; go_must (refine wl_next hM rfl _ rfl rfl Try.underlying3 ?_ ?_))
      | (show wpList _ _ _ (⟨_, Op.box _ _, _, _, _, _⟩ :: _) _ _; first | (refine wl_boxA (o := ⟨some 3, _, _, _, _, _⟩) hM rfl _ _ rfl _ rfl ?_; clear hM; intro g3 w3 hM) | (refine wl_box1 (o := ⟨some 3, _, _, _, _, _⟩) hM rfl _ _ rfl (.int _ _) rfl rfl ?_; clear hM; intro g3 w3 hM))
      | (show wpList _ _ _ (⟨_, Op.load 24 _, _, _, _, _⟩ :: _) _ _; first | (refine wl_load1 hM rfl 24 _ rfl rfl (.map _) rfl (by simp [go_sem]) ?_) | (refine wl_load1 hM.p1 rfl 24 _ rfl rfl (.map _) rfl (by simp [go_sem]) ?_) | (refine wl_load1 hM.p2 rfl 24 _ rfl rfl (.map _) rfl (by simp [go_sem]) ?_) | (refine wl_loadO hM rfl 24 _ rfl rfl (by assumption) (by simp [go_sem]) ?_))
      )
    · intro hnone
      go_wp2_with (first
        | (show wpList _ _ _ (⟨_, Op.box _ _, _, _, _, _⟩ :: _) _ _; first | (refine wl_boxA (o := ⟨some 3, _, _, _, _, _⟩) hM rfl _ _ rfl _ rfl ?_; clear hM; intro g3 w3 hM) | (refine wl_box1 (o := ⟨some 3, _, _, _, _, _⟩) hM rfl _ _ rfl (.int _ _) rfl rfl ?_; clear hM; intro g3 w3 hM))
        | (show wpList _ _ _ (⟨_, Op.load 24 _, _, _, _, _⟩ :: _) _ _; first | (refine wl_load1 hM rfl 24 _ rfl rfl (.map _) rfl (by simp [go_sem]) ?_) | (refine wl_load1 hM.p1 rfl 24 _ rfl rfl (.map _) rfl (by simp [go_sem]) ?_) | (refine wl_load1 hM.p2 rfl 24 _ rfl rfl (.map _) rfl (by simp [go_sem]) ?_) | (refine wl_loadO hM rfl 24 _ rfl rfl (by assumption) (by simp [go_sem]) ?_))
        )
      go_end0
      refine ret_mk ⟨bs1, Dc, ?_⟩
      have h := (vals_same (f' := freeF f i) hM.p3 (fun k => rfl) (fun k => by rw [hfin k, hfc k, hnone k]; rfl)).q3
      exact (h.unrange.p1.drop).p1
    · intro k v wn cnt1 hik1 hik2 hlk hfk hlt hM hen
      obtain ⟨hne, b1, o1, c1, rfl, hSb, hb1, hcell⟩ := (hM.p3.head.1 k).2 v hfk
      have hfk1 : fc k = f1 k := by rw [hfc k, hlk]; rfl
      have hlk1 := hl1 k
      rw [← hfk1] at hlk1
      obtain ⟨l, hl⟩ : ∃ l, l = fc k := ⟨_, rfl⟩
      rw [← hl] at hne hcell hlk1 hfk hfk1 hen ⊢
      have HL := Lib.hid hl
      have HF := Lib.hid hfk
      have HF1 := Lib.hid hfk1
      clear hl hfk hfk1
      have hSl : SlI wn (some ⟨b1, o1, none⟩) l := fun j hj => ⟨b1, o1, _, rfl, hb1, rfl, rfl, fun q v hq => by
        rcases q with _ | q
        · injection hq with hq; rw [← hq]; simp [hcell j hj]
        · cases hq⟩
      clear hcell
      obtain ⟨ys, hys⟩ : ∃ ys, l.filter (fun x => !decide (x = i)) = ys := ⟨_, rfl⟩
      have HY := Lib.hid hys
      clear hys
      by_cases h0 : ys = []
      · subst h0
        go_wp2_with (first
          | (show wpList _ _ _ (⟨_, Op.entry _, _, _, _, _⟩ :: _) _ _; go_must (refine wl_entry rfl _ rfl rfl hen ?_))
          | (go_at_call 12; go_must (refine (clone_ok _ _ _ l hSl hlk1).mono ?_); rintro e wc ⟨v, rfl, A, c, rfl, hN⟩; replace hM := (hM.trans1 hN).toVec; clear hN)
          | (go_at_call 11; go_must (refine (delete_ok i hM.p2.p1 hne (by omega)).mono ?_); clear hM; rintro e wc ⟨v, rfl, rfl, hM⟩; rw [HY.out] at hM ⊢)
          | (show wpList _ _ _ (⟨_, Op.call { callee := Callee.builtin Builtin.delete, args := _, argTypes := _ }, _, _, _, _⟩ :: _) _ _; go_must (refine wl_deleteR hM.p2 rfl 24 _ _ rfl rfl _ rfl ⟨hik1, hik2⟩ Try.underlying24 Try.underlying3 ?_; clear hM; intro cnt2 wx hle hM))
          | (show wpList _ _ _ (⟨_, Op.box _ _, _, _, _, _⟩ :: _) _ _; first | (refine wl_boxA (o := ⟨some 3, _, _, _, _, _⟩) hM rfl _ _ rfl _ rfl ?_; clear hM; intro g3 w3 hM) | (refine wl_box1 (o := ⟨some 3, _, _, _, _, _⟩) hM rfl _ _ rfl (.int _ _) rfl rfl ?_; clear hM; intro g3 w3 hM))
          | (show wpList _ _ _ (⟨_, Op.load 24 _, _, _, _, _⟩ :: _) _ _; first | (refine wl_load1 hM rfl 24 _ rfl rfl (.map _) rfl (by simp [go_sem]) ?_) | (refine wl_load1 hM.p1 rfl 24 _ rfl rfl (.map _) rfl (by simp [go_sem]) ?_) | (refine wl_load1 hM.p2 rfl 24 _ rfl rfl (.map _) rfl (by simp [go_sem]) ?_) | (refine wl_load1 hM.p3 rfl 24 _ rfl rfl (.map _) rfl (by simp [go_sem]) ?_) | (refine wl_load1 hM.p4 rfl 24 _ rfl rfl (.map _) rfl (by simp [go_sem]) ?_) | (refine wl_loadO hM rfl 24 _ rfl rfl (by assumption) (by simp [go_sem]) ?_))
          )
        go_roundg cnt2
        case measure => omega
        case rel =>
          refine ⟨_, _, updF fc k [], bs1, (vals_del hM.p1.drop.p3 k).q3, fun j => ?_⟩
          by_cases hj : j = k
          · subst hj
            simp only [updF, if_true, decide_true, Bool.not_true, Bool.and_false, Bool.false_eq_true, if_false]
            rw [← HF1.out, HY.out]
          · simp only [updF, hj, if_false, decide_false, Bool.not_false, Bool.and_true]
            exact hfc j
      · have hpos : ¬ ys.length = 0 := fun e => h0 (List.eq_nil_of_length_eq_zero e)
        have hposZ : ¬ (ys.length : Int) = 0 := by omega
        go_wp2_with (first
          | (show wpList _ _ _ (⟨_, Op.entry _, _, _, _, _⟩ :: _) _ _; go_must (refine wl_entry rfl _ rfl rfl hen ?_))
          | (go_at_call 12; go_must (refine (clone_ok _ _ _ l hSl hlk1).mono ?_); rintro e wc ⟨v, rfl, A, c, rfl, hN⟩; replace hM := (hM.trans1 hN).toVec; clear hN)
          | (go_at_call 11; go_must (refine (delete_ok i hM.p2.p1 hne (by omega)).mono ?_); clear hM; rintro e wc ⟨v, rfl, rfl, hM⟩; rw [HY.out] at hM ⊢)
          | (show wpList _ _ _ (⟨_, Op.mapUpdate _ _ _ _, _, _, _, _⟩ :: _) _ _; go_must (refine wl_updateR hM.p2 rfl 24 _ _ _ rfl rfl _ rfl (.slice _ _ _) rfl ⟨hik1, hik2⟩ Try.underlying24 Try.underlying3 (by omega) (by rw [HF.out]; rfl) ?_; clear hM; intro wx hM))
          | (show wpList _ _ _ (⟨_, Op.box _ _, _, _, _, _⟩ :: _) _ _; first | (refine wl_boxA (o := ⟨some 3, _, _, _, _, _⟩) hM rfl _ _ rfl _ rfl ?_; clear hM; intro g3 w3 hM) | (refine wl_box1 (o := ⟨some 3, _, _, _, _, _⟩) hM rfl _ _ rfl (.int _ _) rfl rfl ?_; clear hM; intro g3 w3 hM))
          | (show wpList _ _ _ (⟨_, Op.load 24 _, _, _, _, _⟩ :: _) _ _; first | (refine wl_load1 hM rfl 24 _ rfl rfl (.map _) rfl (by simp [go_sem]) ?_) | (refine wl_load1 hM.p1 rfl 24 _ rfl rfl (.map _) rfl (by simp [go_sem]) ?_) | (refine wl_load1 hM.p2 rfl 24 _ rfl rfl (.map _) rfl (by simp [go_sem]) ?_) | (refine wl_load1 hM.p3 rfl 24 _ rfl rfl (.map _) rfl (by simp [go_sem]) ?_) | (refine wl_load1 hM.p4 rfl 24 _ rfl rfl (.map _) rfl (by simp [go_sem]) ?_) | (refine wl_loadO hM rfl 24 _ rfl rfl (by assumption) (by simp [go_sem]) ?_))
          )
        obtain ⟨bs2, hM⟩ := vals_add hM.p4.p2 k h0
        go_roundg cnt1
        case measure => omega
        case rel =>
          refine ⟨_, _, updF fc k ys, bs2, hM.q3, fun j => ?_⟩
          by_cases hj : j = k
          · subst hj
            simp only [updF, if_true, decide_true, Bool.not_true, Bool.and_false, Bool.false_eq_true, if_false]
            rw [← HF1.out, HY.out]
          · simp only [updF, hj, if_false, decide_false, Bool.not_false, Bool.and_true]
            exact hfc j

section
variable {P : Program} {w0 w : World} {L : List Res} {ops : Array Oper} {rest : List Oper} {o : Oper} {a : Act} {Q : Exit → Act → World → Prop} {k e : TypeId}
theorem wl_rangeNil (hM : Mem w0 w L) (hgd : Region.wanted o (yielded ops a.tmps) = true) (T : TypeId) (x : Operand) (ho : o.op = .range T x) (hx : a.eval x = .map none) (hT : P.underlying T = some (.map k e))
    (h : ∀ r w1, Mem w0 w1 (objR r (.mapIter none 0 #[] 0) :: L) → wpList P ops Q rest (a.put o.dst (.pointer (some ⟨r, 0, none⟩))) w1) : wpList P ops Q (o :: rest) a w := by
  refine wl_value (v := .pointer (some ⟨w.heap.size, 0, none⟩)) (w' := w.alloc (.mapIter none 0 #[] 0)) hgd ?_ (h _ _ (hM.addObj _))
  unfold execOp
  simp [ho, hx, Instr.range, run_underlying hT, Sem.run_bind]
theorem wl_nextNil {r : Nat} (hM : Mem w0 w (objR r (.mapIter none 0 #[] 0) :: L)) (hgd : Region.wanted o (yielded ops a.tmps) = true) (it : Operand) (ho : o.op = .next it false) (hit : a.eval it = .pointer (some ⟨r, 0, none⟩))
    (h : wpList P ops Q rest (a.put o.dst (.tuple #[.bool false])) w) : wpList P ops Q (o :: rest) a w := by
  refine wl_value hgd ?_ h
  have hr : w.heap[r]? = some (.mapIter none 0 #[] 0) := hM.head
  unfold execOp
  simp [ho, hit, Instr.next, getObj, Sem.run_bind, Sem.run, hr]
end

set_option maxRecDepth 20000 in
set_option maxHeartbeats 1000000 in
theorem free_none (w0 w : World) (L : List Res) (g : Nat) (hM : Mem w0 w (blk g 26 #[.map none] :: L)) (i : Int) (hi : I64 i) :
    Calls Try.prog 5 #[.pointer (some ⟨g, 0, none⟩), .int .i64 i] w (Ret fun v w' => Mem w0 w' (blk g 26 #[.map none] :: L)) := by
  go_enter Try.func5, Try.ntmps5
  go_wp2_with (first
    | (show wpList _ _ _ (⟨_, Op.box _ _, _, _, _, _⟩ :: _) _ _; first | (refine wl_boxA (o := ⟨some 3, _, _, _, _, _⟩) hM rfl _ _ rfl _ rfl ?_; clear hM; intro g3 w3 hM) | (refine wl_box1 (o := ⟨some 3, _, _, _, _, _⟩) hM rfl _ _ rfl (.int _ _) rfl rfl ?_; clear hM; intro g3 w3 hM))
    | (show wpList _ _ _ (⟨_, Op.load 24 _, _, _, _, _⟩ :: _) _ _; first | (refine wl_load1 hM rfl 24 _ rfl rfl (.map _) rfl (by simp [go_sem]) ?_) | (refine wl_load1 hM.p1 rfl 24 _ rfl rfl (.map _) rfl (by simp [go_sem]) ?_) | (refine wl_load1 hM.p2 rfl 24 _ rfl rfl (.map _) rfl (by simp [go_sem]) ?_) | (refine wl_loadO hM rfl 24 _ rfl rfl (by assumption) (by simp [go_sem]) ?_))
    )
  have hc3 : w3.cell? ⟨g3, 0, none⟩ = some (.int .i64 i) := cell_blk hM.head
  have hcg : w3.cell? ⟨g, 0, none⟩ = some (.map none) := cell_blk hM.p1.head
  go_still_tail 5, (by kernel_rfl)
  change wpList _ _ _ _ _ w3.drew
  have hM := hM.drew
  generalize w3.drew = wd at hM ⊢
  go_wp2_with (first
    | (show wpList _ _ _ (⟨_, Op.call { callee := Callee.builtin Builtin.delete, args := _, argTypes := _ }, _, _, _, _⟩ :: _) _ _; go_must (refine wl_deleteNil rfl 24 _ _ rfl rfl _ rfl Try.underlying24 Try.underlying3 hi ?_))
    | (show wpList _ _ _ (⟨_, Op.range _ _, _, _, _, _⟩ :: _) _ _; go_must (refine wl_rangeNil hM rfl 24 _ rfl rfl Try.underlying24 ?_; clear hM; intro r wr0 hM))
    | (show wpList _ _ _ (⟨_, Op.box _ _, _, _, _, _⟩ :: _) _ _; first | (refine wl_boxA (o := ⟨some 3, _, _, _, _, _⟩) hM rfl _ _ rfl _ rfl ?_; clear hM; intro g3 w3 hM) | (refine wl_box1 (o := ⟨some 3, _, _, _, _, _⟩) hM rfl _ _ rfl (.int _ _) rfl rfl ?_; clear hM; intro g3 w3 hM))
    | (show wpList _ _ _ (⟨_, Op.load 24 _, _, _, _, _⟩ :: _) _ _; first | (refine wl_load1 hM rfl 24 _ rfl rfl (.map _) rfl (by simp [go_sem]) ?_) | (refine wl_load1 hM.p1 rfl 24 _ rfl rfl (.map _) rfl (by simp [go_sem]) ?_) | (refine wl_load1 hM.p2 rfl 24 _ rfl rfl (.map _) rfl (by simp [go_sem]) ?_) | (refine wl_loadO hM rfl 24 _ rfl rfl (by assumption) (by simp [go_sem]) ?_))
    )
  go_frame
  go_loopg [4] 0 (fun kq v4 w' => Mem w0 w' (objR r (.mapIter none 0 #[] 0) :: blk g3 3 #[.int .i64 i] :: blk g 26 #[.map none] :: L))
  case atStart => exact hM
  case round =>
    clear hM
    have hM := hrel
    go_wp2_with (first
      | (show wpList _ _ _ (⟨_, Op.next _ _, _, _, _, _⟩ :: _) _ _; go_must (refine wl_nextNil hM rfl _ rfl rfl ?_))
      | (show wpList _ _ _ (⟨_, Op.box _ _, _, _, _, _⟩ :: _) _ _; first | (refine wl_boxA (o := ⟨some 3, _, _, _, _, _⟩) hM rfl _ _ rfl _ rfl ?_; clear hM; intro g3 w3 hM) | (refine wl_box1 (o := ⟨some 3, _, _, _, _, _⟩) hM rfl _ _ rfl (.int _ _) rfl rfl ?_; clear hM; intro g3 w3 hM))
      | (show wpList _ _ _ (⟨_, Op.load 24 _, _, _, _, _⟩ :: _) _ _; first | (refine wl_load1 hM rfl 24 _ rfl rfl (.map _) rfl (by simp [go_sem]) ?_) | (refine wl_load1 hM.p1 rfl 24 _ rfl rfl (.map _) rfl (by simp [go_sem]) ?_) | (refine wl_load1 hM.p2 rfl 24 _ rfl rfl (.map _) rfl (by simp [go_sem]) ?_) | (refine wl_loadO hM rfl 24 _ rfl rfl (by assumption) (by simp [go_sem]) ?_))
      )
    go_end0
    exact ret_mk hM.drop.drop

theorem free_ok (w0 w : World) (L : List Res) (g n : Nat) (mv : Option Nat) (bs : List Nat) (D : Int → Option Value) (f : Int → List Int) (hM : Mem w0 w (wmap g mv n D :: valsR bs D f :: L)) (hn : n < 100000000)
    (hlen : ∀ k, (f k).length ≤ 1000000) (i : Int) (hi : I64 i) :
    Calls Try.prog 5 #[.pointer (some ⟨g, 0, none⟩), .int .i64 i] w
      (Ret fun v w' => ∃ mv' bs' D', Mem w0 w' (wmap g mv' n D' :: valsR bs' D' (freeF f i) :: L)) := by
  rcases mv with _ | b
  · obtain ⟨h1, hD⟩ := wmap_none hM
    refine (free_none w0 w _ g h1 i hi).mono ?_
    rintro e w' ⟨v, rfl, h⟩
    have hf : ∀ k, f k = [] := fun k => (hM.p1.head.1 k).1 (hD k)
    exact ret_mk ⟨none, bs, D, (vals_same (to_wmap_none h hD).p1 (fun _ => rfl) (fun k => by simp [freeF, hf])).p1⟩
  · refine (free_some w0 w L g n b bs D f (wmap_some hM) hn hlen i hi).mono ?_
    rintro e w' ⟨v, rfl, bs', D', h⟩
    exact ret_mk ⟨some b, bs', D', to_wmap_some h⟩
end Go.Proofs.Ytenaklgkbchbdaa
