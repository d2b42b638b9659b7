/- The closure that sets or forgets whom a saga waits for (Wait$1). Conditions: as each theorem says. -/
import Derived.Test.YtenaklgkbchbdaaChain
import Derived.Laws.Cover3
set_option linter.unusedVariables false
set_option linter.unusedSimpArgs false
namespace Go.Proofs.Ytenaklgkbchbdaa
open Go.RowKit

/-- m == nil, of a map. -/
theorem wl_mapIsNil {P : Program} {w : World} {ops : Array Oper} {rest : List Oper} {o : Oper} {a : Act} {Q : Exit → Act → World → Prop} {k e : TypeId} (hgd : Region.wanted o (yielded ops a.tmps) = true) (T u : TypeId) (x y : Operand) (ho : o.op = .binOp .eql T x y u)
    (m : Option Nat) (hx : a.eval x = .map m) (hy : a.eval y = .map none) (hT : P.underlying T = some (.map k e)) (h : wpList P ops Q rest (a.put o.dst (.bool m.isNone)) w) : wpList P ops Q (o :: rest) a w := by
  refine wl_value hgd ?_ h
  have hq := run_equal_map_nil (P := P) (w := w) T k e m hT
  unfold execOp
  have hg : (eqGuard .eql T x y (.map m) (.map none)).run P w = .ok () w := by
    simp [eqGuard]
  cases m <;> simp [ho, hx, hy, binOp, Sem.run_bind, hq, hg]

theorem Mem.q2 {w0 w : World} {a b c : Res} {L : List Res} (h : Mem w0 w (a :: b :: c :: L)) : Mem w0 w (b :: c :: a :: L) :=
  h.perm (List.perm_middle (l₁ := [b, c])).symm
theorem Mem.q3 {w0 w : World} {a b c d : Res} {L : List Res} (h : Mem w0 w (a :: b :: c :: d :: L)) : Mem w0 w (b :: c :: d :: a :: L) :=
  h.perm (List.perm_middle (l₁ := [b, c, d])).symm
theorem imap_more {P : Program} {kt b n m : Nat} {f f' : Int → Option Value} {w : World} (h : (imap P kt b n f).ok w) (hn : n ≤ m) (hf : ∀ k, f k = f' k) : (imap P kt b m f').ok w := by
  obtain ⟨D, ⟨es, clock, h1, h2, h3, h4⟩, hk⟩ := h
  exact ⟨D, ⟨es, clock, h1, h2, by omega, h4⟩, fun k => (hk k).trans (hf k)⟩
theorem Mem.imore {w0 w : World} {P : Program} {kt b n m : Nat} {f f' : Int → Option Value} {L : List Res} (h : Mem w0 w (imap P kt b n f :: L)) (hn : n ≤ m) (hf : ∀ k, f k = f' k) : Mem w0 w (imap P kt b m f' :: L) :=
  h.weaken (fun hk => imap_more hk hn hf) (fun i hi => hi)

set_option maxRecDepth 20000 in
set_option maxHeartbeats 2000000 in
theorem set_some (w0 w : World) (L : List Res) (g3 g4 g b n : Nat) (D : Int → Option Value) (A : Option Addr) (m c : Nat) (i : Int) (hi : I64 i) (some? : Bool) (hn : n < 1000000000000)
    (hM : Mem w0 w (blk g3 40 #[.pointer (some ⟨g, 0, none⟩)] :: blk g4 3 #[.int .i64 i] :: blk g 26 #[.map (some b)] :: imap Try.prog 3 b n D :: L)) :
    Calls Try.prog 15 #[.slice A m c, .bool some?, .pointer (some ⟨g3, 0, none⟩), .pointer (some ⟨g4, 0, none⟩)] w
      (Ret fun v w' => Mem w0 w' (blk g3 40 #[.pointer (some ⟨g, 0, none⟩)] :: blk g4 3 #[.int .i64 i] :: blk g 26 #[.map (some b)] :: imap Try.prog 3 b (n + 1) (fun j => if j = i then (if some? then some (.slice A m c) else none) else D j) :: L)) := by
  have hc3 : w.cell? ⟨g3, 0, none⟩ = some (.pointer (some ⟨g, 0, none⟩)) := cell_blk hM.head
  have hc4 : w.cell? ⟨g4, 0, none⟩ = some (.int .i64 i) := cell_blk hM.p1.head
  have hcg : w.cell? ⟨g, 0, none⟩ = some (.map (some b)) := cell_blk hM.p2.head
  cases some? with
  | false =>
    go_enter Try.func15, Try.ntmps15
    go_wp2_with fail
    go_still_tail 5, (by kernel_rfl)
    change wpList _ _ _ _ _ w.drew
    have hM := hM.drew
    generalize w.drew = wd at hM ⊢
    go_wp2_with (first
      | (show wpList _ _ _ (⟨_, Op.call { callee := Callee.builtin Builtin.delete, args := _, argTypes := _ }, _, _, _, _⟩ :: _) _ _; go_must (refine wl_delete hM.p3 rfl 24 _ _ rfl rfl _ rfl hi Try.underlying24 Try.underlying3 ?_; clear hM; intro wx hM))
      | (show wpList _ _ _ (⟨_, Op.load 40 _, _, _, _, _⟩ :: _) _ _; first | (refine wl_load1 hM rfl 40 _ rfl rfl (.pointer _) rfl (by simp [go_sem]) ?_) | (refine wl_load1 hM.p1 rfl 40 _ rfl rfl (.pointer _) rfl (by simp [go_sem]) ?_) | (refine wl_load1 hM.p2 rfl 40 _ rfl rfl (.pointer _) rfl (by simp [go_sem]) ?_) | (refine wl_loadO hM rfl 40 _ rfl rfl (by assumption) (by simp [go_sem]) ?_))
      | (show wpList _ _ _ (⟨_, Op.load 24 _, _, _, _, _⟩ :: _) _ _; first | (refine wl_load1 hM rfl 24 _ rfl rfl (.map _) rfl (by simp [go_sem]) ?_) | (refine wl_load1 hM.p1 rfl 24 _ rfl rfl (.map _) rfl (by simp [go_sem]) ?_) | (refine wl_load1 hM.p2 rfl 24 _ rfl rfl (.map _) rfl (by simp [go_sem]) ?_) | (refine wl_loadO hM rfl 24 _ rfl rfl (by assumption) (by simp [go_sem]) ?_))
      | (show wpList _ _ _ (⟨_, Op.store 24 _ _, _, _, _, _⟩ :: _) _ _; first | (refine wl_storeV hM rfl 24 _ _ rfl rfl (.map _) rfl rfl (by simp [go_sem]) ?_; clear hM; intro wS hM) | (refine wl_storeV hM.p1 rfl 24 _ _ rfl rfl (.map _) rfl rfl (by simp [go_sem]) ?_; clear hM; intro wS hM) | (refine wl_storeV hM.p2 rfl 24 _ _ rfl rfl (.map _) rfl rfl (by simp [go_sem]) ?_; clear hM; intro wS hM))
      )
    go_end0
    exact ret_mk (hM.imore (by omega) (fun j => by simp)).q3
  | true =>
    go_enter Try.func15, Try.ntmps15
    go_wp2_with fail
    go_still_tail 5, (by kernel_rfl)
    change wpList _ _ _ _ _ w.drew
    have hM := hM.drew
    generalize w.drew = wd at hM ⊢
    go_wp2_with (first
      | (show wpList _ _ _ (⟨_, Op.call { callee := Callee.builtin Builtin.delete, args := _, argTypes := _ }, _, _, _, _⟩ :: _) _ _; go_must (refine wl_delete hM.p3 rfl 24 _ _ rfl rfl _ rfl hi Try.underlying24 Try.underlying3 ?_; clear hM; intro wx hM; replace hM := hM.q3))
      | (show wpList _ _ _ (⟨_, Op.binOp _ 24 _ _ _, _, _, _, _⟩ :: _) _ _; go_must (refine wl_mapIsNil rfl 24 _ _ _ rfl _ rfl rfl Try.underlying24 ?_))
      | (show wpList _ _ _ (⟨_, Op.load 40 _, _, _, _, _⟩ :: _) _ _; first | (refine wl_load1 hM rfl 40 _ rfl rfl (.pointer _) rfl (by simp [go_sem]) ?_) | (refine wl_load1 hM.p1 rfl 40 _ rfl rfl (.pointer _) rfl (by simp [go_sem]) ?_) | (refine wl_load1 hM.p2 rfl 40 _ rfl rfl (.pointer _) rfl (by simp [go_sem]) ?_) | (refine wl_loadO hM rfl 40 _ rfl rfl (by assumption) (by simp [go_sem]) ?_))
      | (show wpList _ _ _ (⟨_, Op.load 24 _, _, _, _, _⟩ :: _) _ _; first | (refine wl_load1 hM rfl 24 _ rfl rfl (.map _) rfl (by simp [go_sem]) ?_) | (refine wl_load1 hM.p1 rfl 24 _ rfl rfl (.map _) rfl (by simp [go_sem]) ?_) | (refine wl_load1 hM.p2 rfl 24 _ rfl rfl (.map _) rfl (by simp [go_sem]) ?_) | (refine wl_loadO hM rfl 24 _ rfl rfl (by assumption) (by simp [go_sem]) ?_))
      | (show wpList _ _ _ (⟨_, Op.store 24 _ _, _, _, _, _⟩ :: _) _ _; first | (refine wl_storeV hM rfl 24 _ _ rfl rfl (.map _) rfl rfl (by simp [go_sem]) ?_; clear hM; intro wS hM) | (refine wl_storeV hM.p1 rfl 24 _ _ rfl rfl (.map _) rfl rfl (by simp [go_sem]) ?_; clear hM; intro wS hM) | (refine wl_storeV hM.p2 rfl 24 _ _ rfl rfl (.map _) rfl rfl (by simp [go_sem]) ?_; clear hM; intro wS hM))
      )
    clear hc3 hc4 hcg
    have hc3 : wx.cell? ⟨g3, 0, none⟩ = some (.pointer (some ⟨g, 0, none⟩)) := cell_blk hM.head
    have hc4 : wx.cell? ⟨g4, 0, none⟩ = some (.int .i64 i) := cell_blk hM.p1.head
    have hcg : wx.cell? ⟨g, 0, none⟩ = some (.map (some b)) := cell_blk hM.p2.head
    go_still_tail 6, (by kernel_rfl)
    change wpList _ _ _ _ _ wx.drew
    have hM := hM.drew
    generalize wx.drew = wy at hM ⊢
    go_wp2_with (first
      | (show wpList _ _ _ (⟨_, Op.mapUpdate _ _ _ _, _, _, _, _⟩ :: _) _ _; go_must (refine wl_mapUpdate hM.p3 rfl 24 _ _ _ rfl rfl _ rfl (.slice _ _ _) rfl hi Try.underlying24 Try.underlying3 (by omega) ?_; clear hM; intro wz hM))
      | (show wpList _ _ _ (⟨_, Op.load 40 _, _, _, _, _⟩ :: _) _ _; first | (refine wl_load1 hM rfl 40 _ rfl rfl (.pointer _) rfl (by simp [go_sem]) ?_) | (refine wl_load1 hM.p1 rfl 40 _ rfl rfl (.pointer _) rfl (by simp [go_sem]) ?_) | (refine wl_load1 hM.p2 rfl 40 _ rfl rfl (.pointer _) rfl (by simp [go_sem]) ?_) | (refine wl_loadO hM rfl 40 _ rfl rfl (by assumption) (by simp [go_sem]) ?_))
      | (show wpList _ _ _ (⟨_, Op.load 24 _, _, _, _, _⟩ :: _) _ _; first | (refine wl_load1 hM rfl 24 _ rfl rfl (.map _) rfl (by simp [go_sem]) ?_) | (refine wl_load1 hM.p1 rfl 24 _ rfl rfl (.map _) rfl (by simp [go_sem]) ?_) | (refine wl_load1 hM.p2 rfl 24 _ rfl rfl (.map _) rfl (by simp [go_sem]) ?_) | (refine wl_loadO hM rfl 24 _ rfl rfl (by assumption) (by simp [go_sem]) ?_))
      | (show wpList _ _ _ (⟨_, Op.store 24 _ _, _, _, _, _⟩ :: _) _ _; first | (refine wl_storeV hM rfl 24 _ _ rfl rfl (.map _) rfl rfl (by simp [go_sem]) ?_; clear hM; intro wS hM) | (refine wl_storeV hM.p1 rfl 24 _ _ rfl rfl (.map _) rfl rfl (by simp [go_sem]) ?_; clear hM; intro wS hM) | (refine wl_storeV hM.p2 rfl 24 _ _ rfl rfl (.map _) rfl rfl (by simp [go_sem]) ?_; clear hM; intro wS hM))
      )
    go_end0
    exact ret_mk (hM.imore (by omega) (fun j => by by_cases h : j = i <;> simp [h])).q3

set_option maxRecDepth 20000 in
set_option maxHeartbeats 2000000 in
theorem set_none (w0 w : World) (L : List Res) (g3 g4 g : Nat) (A : Option Addr) (m c : Nat) (i : Int) (hi : I64 i) (some? : Bool)
    (hM : Mem w0 w (blk g3 40 #[.pointer (some ⟨g, 0, none⟩)] :: blk g4 3 #[.int .i64 i] :: blk g 26 #[.map none] :: L)) :
    Calls Try.prog 15 #[.slice A m c, .bool some?, .pointer (some ⟨g3, 0, none⟩), .pointer (some ⟨g4, 0, none⟩)] w
      (Ret fun v w' => (some? = false ∧ Mem w0 w' (blk g3 40 #[.pointer (some ⟨g, 0, none⟩)] :: blk g4 3 #[.int .i64 i] :: blk g 26 #[.map none] :: L)) ∨
        (some? = true ∧ ∃ b, Mem w0 w' (blk g3 40 #[.pointer (some ⟨g, 0, none⟩)] :: blk g4 3 #[.int .i64 i] :: blk g 26 #[.map (some b)] :: imap Try.prog 3 b 1 (fun j => if j = i then some (.slice A m c) else none) :: L))) := by
  have hc3 : w.cell? ⟨g3, 0, none⟩ = some (.pointer (some ⟨g, 0, none⟩)) := cell_blk hM.head
  have hc4 : w.cell? ⟨g4, 0, none⟩ = some (.int .i64 i) := cell_blk hM.p1.head
  have hcg : w.cell? ⟨g, 0, none⟩ = some (.map none) := cell_blk hM.p2.head
  cases some? with
  | false =>
    go_enter Try.func15, Try.ntmps15
    go_wp2_with fail
    go_still_tail 5, (by kernel_rfl)
    change wpList _ _ _ _ _ w.drew
    have hM := hM.drew
    generalize w.drew = wd at hM ⊢
    go_wp2_with (first
      | (show wpList _ _ _ (⟨_, Op.call { callee := Callee.builtin Builtin.delete, args := _, argTypes := _ }, _, _, _, _⟩ :: _) _ _; go_must (refine wl_deleteNil rfl 24 _ _ rfl rfl _ rfl Try.underlying24 Try.underlying3 hi ?_))
      | (show wpList _ _ _ (⟨_, Op.load 40 _, _, _, _, _⟩ :: _) _ _; first | (refine wl_load1 hM rfl 40 _ rfl rfl (.pointer _) rfl (by simp [go_sem]) ?_) | (refine wl_load1 hM.p1 rfl 40 _ rfl rfl (.pointer _) rfl (by simp [go_sem]) ?_) | (refine wl_load1 hM.p2 rfl 40 _ rfl rfl (.pointer _) rfl (by simp [go_sem]) ?_) | (refine wl_loadO hM rfl 40 _ rfl rfl (by assumption) (by simp [go_sem]) ?_))
      | (show wpList _ _ _ (⟨_, Op.load 24 _, _, _, _, _⟩ :: _) _ _; first | (refine wl_load1 hM rfl 24 _ rfl rfl (.map _) rfl (by simp [go_sem]) ?_) | (refine wl_load1 hM.p1 rfl 24 _ rfl rfl (.map _) rfl (by simp [go_sem]) ?_) | (refine wl_load1 hM.p2 rfl 24 _ rfl rfl (.map _) rfl (by simp [go_sem]) ?_) | (refine wl_loadO hM rfl 24 _ rfl rfl (by assumption) (by simp [go_sem]) ?_))
      | (show wpList _ _ _ (⟨_, Op.store 24 _ _, _, _, _, _⟩ :: _) _ _; first | (refine wl_storeV hM rfl 24 _ _ rfl rfl (.map _) rfl rfl (by simp [go_sem]) ?_; clear hM; intro wS hM) | (refine wl_storeV hM.p1 rfl 24 _ _ rfl rfl (.map _) rfl rfl (by simp [go_sem]) ?_; clear hM; intro wS hM) | (refine wl_storeV hM.p2 rfl 24 _ _ rfl rfl (.map _) rfl rfl (by simp [go_sem]) ?_; clear hM; intro wS hM))
      )
    go_end0
    exact ret_mk (.inl ⟨by trivial, hM⟩)
  | true =>
    go_enter Try.func15, Try.ntmps15
    go_wp2_with fail
    go_still_tail 5, (by kernel_rfl)
    change wpList _ _ _ _ _ w.drew
    have hM := hM.drew
    generalize w.drew = wd at hM ⊢
    go_wp2_with (first
      | (show wpList _ _ _ (⟨_, Op.call { callee := Callee.builtin Builtin.delete, args := _, argTypes := _ }, _, _, _, _⟩ :: _) _ _; go_must (refine wl_deleteNil rfl 24 _ _ rfl rfl _ rfl Try.underlying24 Try.underlying3 hi ?_))
      | (show wpList _ _ _ (⟨_, Op.binOp _ 24 _ _ _, _, _, _, _⟩ :: _) _ _; go_must (refine wl_mapIsNil rfl 24 _ _ _ rfl _ rfl rfl Try.underlying24 ?_))
      | (show wpList _ _ _ (⟨_, Op.makeMap _ _, _, _, _, _⟩ :: _) _ _; go_must (refine wl_makeMap hM rfl 24 rfl Try.underlying24 ?_; clear hM; intro gm wm hM; replace hM := hM.q3))
      | (show wpList _ _ _ (⟨_, Op.load 40 _, _, _, _, _⟩ :: _) _ _; first | (refine wl_load1 hM rfl 40 _ rfl rfl (.pointer _) rfl (by simp [go_sem]) ?_) | (refine wl_load1 hM.p1 rfl 40 _ rfl rfl (.pointer _) rfl (by simp [go_sem]) ?_) | (refine wl_load1 hM.p2 rfl 40 _ rfl rfl (.pointer _) rfl (by simp [go_sem]) ?_) | (refine wl_loadO hM rfl 40 _ rfl rfl (by assumption) (by simp [go_sem]) ?_))
      | (show wpList _ _ _ (⟨_, Op.load 24 _, _, _, _, _⟩ :: _) _ _; first | (refine wl_load1 hM rfl 24 _ rfl rfl (.map _) rfl (by simp [go_sem]) ?_) | (refine wl_load1 hM.p1 rfl 24 _ rfl rfl (.map _) rfl (by simp [go_sem]) ?_) | (refine wl_load1 hM.p2 rfl 24 _ rfl rfl (.map _) rfl (by simp [go_sem]) ?_) | (refine wl_loadO hM rfl 24 _ rfl rfl (by assumption) (by simp [go_sem]) ?_))
      | (show wpList _ _ _ (⟨_, Op.store 24 _ _, _, _, _, _⟩ :: _) _ _; first | (refine wl_storeV hM rfl 24 _ _ rfl rfl (.map _) rfl rfl (by simp [go_sem]) ?_; clear hM; intro wS hM) | (refine wl_storeV hM.p1 rfl 24 _ _ rfl rfl (.map _) rfl rfl (by simp [go_sem]) ?_; clear hM; intro wS hM) | (refine wl_storeV hM.p2 rfl 24 _ _ rfl rfl (.map _) rfl rfl (by simp [go_sem]) ?_; clear hM; intro wS hM))
      )
    clear hc3 hc4 hcg
    have hc3 : wS.cell? ⟨g3, 0, none⟩ = some (.pointer (some ⟨g, 0, none⟩)) := cell_blk hM.p1.head
    have hc4 : wS.cell? ⟨g4, 0, none⟩ = some (.int .i64 i) := cell_blk hM.p2.head
    have hcg : wS.cell? ⟨g, 0, none⟩ = some (.map (some gm)) := cell_blk hM.head
    go_still_tail 6, (by kernel_rfl)
    change wpList _ _ _ _ _ wS.drew
    have hM := hM.drew
    generalize wS.drew = wy at hM ⊢
    go_wp2_with (first
      | (show wpList _ _ _ (⟨_, Op.mapUpdate _ _ _ _, _, _, _, _⟩ :: _) _ _; go_must (refine wl_mapUpdate hM.p3 rfl 24 _ _ _ rfl rfl _ rfl (.slice _ _ _) rfl hi Try.underlying24 Try.underlying3 (by omega) ?_; clear hM; intro wz hM))
      | (show wpList _ _ _ (⟨_, Op.load 40 _, _, _, _, _⟩ :: _) _ _; first | (refine wl_load1 hM rfl 40 _ rfl rfl (.pointer _) rfl (by simp [go_sem]) ?_) | (refine wl_load1 hM.p1 rfl 40 _ rfl rfl (.pointer _) rfl (by simp [go_sem]) ?_) | (refine wl_load1 hM.p2 rfl 40 _ rfl rfl (.pointer _) rfl (by simp [go_sem]) ?_) | (refine wl_loadO hM rfl 40 _ rfl rfl (by assumption) (by simp [go_sem]) ?_))
      | (show wpList _ _ _ (⟨_, Op.load 24 _, _, _, _, _⟩ :: _) _ _; first | (refine wl_load1 hM rfl 24 _ rfl rfl (.map _) rfl (by simp [go_sem]) ?_) | (refine wl_load1 hM.p1 rfl 24 _ rfl rfl (.map _) rfl (by simp [go_sem]) ?_) | (refine wl_load1 hM.p2 rfl 24 _ rfl rfl (.map _) rfl (by simp [go_sem]) ?_) | (refine wl_loadO hM rfl 24 _ rfl rfl (by assumption) (by simp [go_sem]) ?_))
      | (show wpList _ _ _ (⟨_, Op.store 24 _ _, _, _, _, _⟩ :: _) _ _; first | (refine wl_storeV hM rfl 24 _ _ rfl rfl (.map _) rfl rfl (by simp [go_sem]) ?_; clear hM; intro wS hM) | (refine wl_storeV hM.p1 rfl 24 _ _ rfl rfl (.map _) rfl rfl (by simp [go_sem]) ?_; clear hM; intro wS hM) | (refine wl_storeV hM.p2 rfl 24 _ _ rfl rfl (.map _) rfl rfl (by simp [go_sem]) ?_; clear hM; intro wS hM))
      )
    go_end0
    exact ret_mk ⟨gm, hM.p1.p3.p3⟩
end Go.Proofs.Ytenaklgkbchbdaa
