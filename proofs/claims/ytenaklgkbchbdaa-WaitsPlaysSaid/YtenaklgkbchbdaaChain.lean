/- Chain: whoever is waited for, by way of others too. Conditions: as each theorem says. -/
import Derived.Test.YtenaklgkbchbdaaWaits
set_option linter.unusedVariables false
set_option linter.unusedSimpArgs false
namespace Go.Proofs.Ytenaklgkbchbdaa
open Go.RowKit

/-- k is waited for by i, by way of others too. -/
inductive Reach (f : Int → List Int) (i : Int) : Int → Prop
  | one {k : Int} : k ∈ f i → Reach f i k
  | more {j k : Int} : Reach f i j → k ∈ f j → Reach f i k

theorem WOK.mem {w w' : World} {g : Nat} {f : Int → List Int} {L : List Res} (h : WOK w g f) (hM : Mem w w' L) : WOK w' g f := by
  obtain ⟨mv, n, S, D, hb, hnil, him, hv⟩ := h
  refine ⟨mv, n, S, D, hM.oldok hb, hnil, fun b e => hM.oldok (him b e), fun k => ⟨(hv k).1, fun v hD => ?_⟩⟩
  obtain ⟨hne, b, o, c, hv', hS, hlt, hc⟩ := (hv k).2 v hD
  refine ⟨hne, b, o, c, hv', hS, Nat.lt_of_lt_of_le hlt hM.size, fun i hi => ?_⟩
  exact (hM.below.cell (p := ⟨b, o + i, none⟩) hlt).trans (hc i hi)

theorem Mem.only {w0 w : World} {a : Res} {L : List Res} (h : Mem w0 w (a :: L)) : Mem w0 w [a] :=
  Mem.dropL (F := L) (h.perm (List.perm_append_singleton a L).symm)
theorem Mem.only2 {w0 w : World} {a b : Res} {L : List Res} (h : Mem w0 w (a :: b :: L)) : Mem w0 w [a, b] :=
  Mem.dropL (F := L) (h.perm (List.perm_append_comm (l₁ := [a, b]) (l₂ := L)))

/-- Nodes: 0 .. 11; no list is longer than 12. -/
structure Bd (f : Int → List Int) : Prop where
  le : ∀ k x, x ∈ f k → 0 ≤ x ∧ x < 12
  len : ∀ k, (f k).length ≤ 12

theorem reach_bd {f : Int → List Int} (hB : Bd f) {i k : Int} (h : Reach f i k) : 0 ≤ k ∧ k < 12 := by
  cases h with
  | one h => exact hB.le _ _ h
  | more _ h => exact hB.le _ _ h

theorem nodup_lt : ∀ (n : Nat) (l : List Nat), l.Nodup → (∀ x ∈ l, x < n) → l.length ≤ n
  | 0, l, _, h => by
    rcases l with _ | ⟨x, l⟩
    · simp
    · exact absurd (h x (.head _)) (by omega)
  | n + 1, l, hn, h => by
    by_cases hm : n ∈ l
    · have h2 := nodup_lt n (l.erase n) (hn.erase n) (fun x hx => by
        have h3 := h x (List.mem_of_mem_erase hx)
        have h4 : x ≠ n := fun e => by subst e; exact (List.Nodup.not_mem_erase hn) hx
        omega)
      rw [List.length_erase_of_mem hm] at h2
      omega
    · have h2 := nodup_lt n l hn (fun x hx => by
        have h3 := h x hx
        have h4 : x ≠ n := fun e => hm (e ▸ hx)
        omega)
      omega
theorem nodup_le {fs : List Int} (hn : fs.Nodup) (hb : ∀ k ∈ fs, 0 ≤ k ∧ k < 12) : fs.length ≤ 12 := by
  have h : (fs.map Int.toNat).Nodup := by
    refine List.pairwise_map.2 (hn.imp_of_mem fun {a b} ha hb' hne e => hne ?_)
    have := hb a ha; have := hb b hb'; omega
  have := nodup_lt 12 _ h (fun x hx => by
    obtain ⟨k, hk, rfl⟩ := List.mem_map.1 hx
    have := hb k hk
    omega)
  simpa using this

/-- What the search has come to. -/
structure Found (f : Int → List Int) (i : Int) (fs todo : List Int) : Prop where
  nodup : fs.Nodup
  fr : ∀ k ∈ fs, Reach f i k
  tr : ∀ k ∈ todo, Reach f i k
  start : ∀ x ∈ f i, x ∈ fs ∨ x ∈ todo
  next : ∀ k ∈ fs, ∀ x ∈ f k, x ∈ fs ∨ x ∈ todo

theorem Found.init (f : Int → List Int) (i : Int) : Found f i [] (f i) := ⟨.nil, by simp, fun k h => .one h, fun x h => .inr h, by simp⟩
theorem Found.skip {f : Int → List Int} {i x : Int} {fs todo : List Int} (h : Found f i fs (x :: todo)) (hx : x ∈ fs) : Found f i fs todo :=
  ⟨h.nodup, h.fr, fun k hk => h.tr k (.tail _ hk), fun y hy => (h.start y hy).elim .inl fun h' => by
      rcases List.mem_cons.1 h' with rfl | h'
      · exact .inl hx
      · exact .inr h',
    fun k hk y hy => (h.next k hk y hy).elim .inl fun h' => by
      rcases List.mem_cons.1 h' with rfl | h'
      · exact .inl hx
      · exact .inr h'⟩
theorem Found.take {f : Int → List Int} {i x : Int} {fs todo : List Int} (h : Found f i fs (x :: todo)) (hx : x ∉ fs) : Found f i (x :: fs) (todo ++ f x) := by
  have hrx := h.tr x (.head _)
  have key : ∀ y, y ∈ fs ∨ y ∈ x :: todo → y ∈ x :: fs ∨ y ∈ todo ++ f x := fun y hy => by
    simp only [List.mem_cons, List.mem_append] at hy ⊢
    rcases hy with h | h | h
    · exact .inl (.inr h)
    · exact .inl (.inl h)
    · exact .inr (.inl h)
  refine ⟨List.nodup_cons.2 ⟨hx, h.nodup⟩, fun k hk => ?_, fun k hk => ?_, fun y hy => key y (h.start y hy), fun k hk y hy => ?_⟩
  · rcases List.mem_cons.1 hk with rfl | hk
    · exact hrx
    · exact h.fr k hk
  · rcases List.mem_append.1 hk with hk | hk
    · exact h.tr k (.tail _ hk)
    · exact .more hrx hk
  · rcases List.mem_cons.1 hk with rfl | hk
    · exact .inr (List.mem_append.2 (.inr hy))
    · exact key y (h.next k hk y hy)
theorem Found.done {f : Int → List Int} {i : Int} {fs : List Int} (h : Found f i fs []) (k : Int) : k ∈ fs ↔ Reach f i k := by
  refine ⟨h.fr k, fun hr => ?_⟩
  induction hr with
  | one hk => simpa using h.start _ hk
  | more _ hk ih => simpa using h.next _ ih _ hk

set_option maxRecDepth 20000 in
set_option maxHeartbeats 2000000 in
theorem chain_ok (w : World) (g : Nat) (f : Int → List Int) (hW : WOK w g f) (hB : Bd f) (i : Int) (hi : I64 i) :
    Calls Try.prog 20 #[.pointer (some ⟨g, 0, none⟩), .int .i64 i] w
      (Ret fun v w' => ∃ A c ss, v = .slice A ss.length c ∧ SetOf ss (Reach f i) ∧ Mem w w' [vec 3 1 A ss.length c (ints ss)]) := by
  have hM := Mem.refl w
  go_enter Try.func20, Try.ntmps20
  go_wp2_with (first
    | (show wpList _ _ _ (⟨_, Op.makeMap _ _, _, _, _, _⟩ :: _) _ _; go_must (refine wl_makeMap hM rfl 59 rfl Try.underlying59 ?_; clear hM; intro gm wm hM))
    | (go_at_call 10; go_must (refine (for_ok _ g f (hW.mem hM) i hi (by have := hB.len i; omega)).mono ?_); rintro e wc ⟨v, rfl, A, c, rfl, hN⟩; replace hM := hM.trans1 hN; clear hN)
    | (show wpList _ _ _ (⟨_, Op.load 3 _, _, _, _, _⟩ :: _) _ _; first | (refine wl_load1 hM rfl 3 _ rfl rfl (.int _ _) rfl (by simp [go_sem]) ?_) | (refine wl_load1 hM.p1 rfl 3 _ rfl rfl (.int _ _) rfl (by simp [go_sem]) ?_) | (refine wl_load1 hM.p2 rfl 3 _ rfl rfl (.int _ _) rfl (by simp [go_sem]) ?_) | (refine wl_loadO hM rfl 3 _ rfl rfl (by assumption) (by simp [go_sem]) ?_))
    )
  go_loopg [6] ((12 - 0) * 13 + (f i).length) (fun kq v6 w' => ∃ (A : Option Addr) (c : Nat) (fs todo : List Int) (D : Int → Option Value),
    v6 = .slice A todo.length c ∧ kq = (12 - fs.length) * 13 + todo.length ∧ todo.length ≤ 1000 - (12 - fs.length) * 13 ∧ Found f i fs todo ∧ (∀ k, D k = if k ∈ fs then some (.bool true) else none) ∧ Mem w w' [vec 3 1 A todo.length c (ints todo), imap Try.prog 3 gm fs.length D])
  case atStart => exact ⟨A, c, [], f i, fun _ => none, rfl, by simp, by have := hB.len i; simp; omega, Found.init f i, by simp, hM⟩
  case round =>
    clear hM
    obtain ⟨A, c, fs, todo, D, rfl, hkq, htl, hF, hD, hM⟩ := hrel
    have hfs := nodup_le hF.nodup (fun k hk => reach_bd hB (hF.fr k hk))
    rcases todo with _ | ⟨x, todo⟩
    · simp only [List.length_nil] at hM ⊢
      go_wp2_with (first
        | (go_at_call 28; go_must (refine (keysB_ok _ _).mono ?_); rintro e wc ⟨v, rfl, gb, rfl, hN⟩; replace hM := hM.trans1 hN; clear hN)
        | (go_at_call 16; go_must (refine (sortedB_ok _ gb gm fs.length D hM.head hM.p2.head (by omega)).mono ?_); rintro e wc ⟨v, rfl, A', c', ss, rfl, hK, hl, hN⟩; replace hM := hM.trans1 hN; clear hN)
        | (show wpList _ _ _ (⟨_, Op.load 3 _, _, _, _, _⟩ :: _) _ _; first | (refine wl_load1 hM rfl 3 _ rfl rfl (.int _ _) rfl (by simp [go_sem]) ?_) | (refine wl_load1 hM.p1 rfl 3 _ rfl rfl (.int _ _) rfl (by simp [go_sem]) ?_) | (refine wl_load1 hM.p2 rfl 3 _ rfl rfl (.int _ _) rfl (by simp [go_sem]) ?_) | (refine wl_loadO hM rfl 3 _ rfl rfl (by assumption) (by simp [go_sem]) ?_))
        )
      go_ret
      refine ret_mk ⟨A', c', ss, rfl, ⟨hK.lt, fun k => ?_⟩, hM.only⟩
      rw [hK.mem k, ← hF.done k, hD k]
      constructor
      · rintro ⟨_, h⟩
        by_cases hk : k ∈ fs
        · exact hk
        · rw [if_neg hk] at h; cases h
      · intro h
        have := reach_bd hB (hF.fr k h)
        exact ⟨by omega, by rw [if_pos h]; rfl⟩
    · have hx := reach_bd hB (hF.tr x (.head _))
      obtain ⟨g6, o6, u, rfl, hu, hc⟩ := vec_cell hM.head (j := 0) (by simp)
      simp only [ints, List.map_cons, List.getElem?_cons_zero, Option.some.injEq] at hu
      subst hu
      simp only [List.length_cons] at hM hkq htl ⊢
      by_cases hxf : x ∈ fs
      · have hDx : D x = some (.bool true) := by rw [hD x, if_pos hxf]
        go_wp2_with (first
          | (show wpList _ _ _ (⟨_, Op.load _ _, _, _, _, _⟩ :: _) _ _; go_must (refine wl_loadC rfl 3 _ rfl rfl hc (by simp [go_sem]) ?_))
          | (show wpList _ _ _ (⟨_, Op.slice _ _ _ _ _, _, _, _, _⟩ :: _) _ _; go_must (refine wl_tail1 hM rfl 35 _ _ rfl rfl rfl (by simp [go_sem]) (by simp [go_sem]) ?_; clear hM; intro A' hM))
          | (show wpList _ _ _ (⟨_, Op.lookup _ _ _ _, _, _, _, _⟩ :: _) _ _; go_must (refine wl_lookup hM.p1.head rfl 59 _ _ rfl rfl _ rfl (by omega) Try.underlying59 Try.underlying3 _ (Try.zeroValue4 _) ?_; rw [hDx]; simp only [Option.getD_some]))
          | (show wpList _ _ _ (⟨_, Op.load 3 _, _, _, _, _⟩ :: _) _ _; first | (refine wl_load1 hM rfl 3 _ rfl rfl (.int _ _) rfl (by simp [go_sem]) ?_) | (refine wl_load1 hM.p1 rfl 3 _ rfl rfl (.int _ _) rfl (by simp [go_sem]) ?_) | (refine wl_load1 hM.p2 rfl 3 _ rfl rfl (.int _ _) rfl (by simp [go_sem]) ?_) | (refine wl_loadO hM rfl 3 _ rfl rfl (by assumption) (by simp [go_sem]) ?_))
          )
        go_roundg (gk - 1)
        case measure => omega
        case rel => exact ⟨A', c - 1, fs, todo, D, rfl, by omega, by omega, hF.skip hxf, hD, hM⟩
      · have hDx : D x = none := by rw [hD x, if_neg hxf]
        have hfx := hB.len x
        have hfs' : fs.length + 1 ≤ 12 := by
          have := nodup_le (hF.take hxf).nodup (fun k hk => reach_bd hB ((hF.take hxf).fr k hk))
          simpa using this
        go_wp2_with (first
          | (show wpList _ _ _ (⟨_, Op.load _ _, _, _, _, _⟩ :: _) _ _; go_must (refine wl_loadC rfl 3 _ rfl rfl hc (by simp [go_sem]) ?_))
          | (show wpList _ _ _ (⟨_, Op.slice _ _ _ _ _, _, _, _, _⟩ :: _) _ _; go_must (refine wl_tail1 hM rfl 35 _ _ rfl rfl rfl (by simp [go_sem]) (by simp [go_sem]) ?_; clear hM; intro A' hM))
          | (show wpList _ _ _ (⟨_, Op.lookup _ _ _ _, _, _, _, _⟩ :: _) _ _; go_must (refine wl_lookup hM.p1.head rfl 59 _ _ rfl rfl _ rfl (by omega) Try.underlying59 Try.underlying3 _ (Try.zeroValue4 _) ?_; rw [hDx]; simp only [Option.getD_none]))
          | (show wpList _ _ _ (⟨_, Op.mapUpdate _ _ _ _, _, _, _, _⟩ :: _) _ _; go_must (refine wl_mapUpdate hM.p1 rfl 59 _ _ _ rfl rfl _ rfl (.bool _) rfl (by omega) Try.underlying59 Try.underlying3 (by omega) ?_; clear hM; intro wu hM))
          | (go_at_call 10; go_must (refine (for_ok _ g f (hW.mem hM) x (by omega) (by omega)).mono ?_); rintro e wc ⟨v, rfl, A2, c2, rfl, hN⟩; replace hM := hM.trans1 hN; clear hN)
          | (show wpList _ _ _ (⟨_, Op.call { callee := Callee.builtin Builtin.append, args := _, argTypes := _ }, _, _, _, _⟩ :: _) _ _; go_must (refine wl_append (sz := 1) (n := todo.length) (m := (f x).length) hM.p2 rfl _ _ 35 rfl rfl rfl (ints (f x)) (vec_src hM.head) (by simp [ints, Value.oneCell']) (.int .i64 0) 8 rfl Try.underlying35 rfl (by omega) (by omega) (by omega) ?_; clear hM; intro A3 c3 wA hM))
          | (show wpList _ _ _ (⟨_, Op.load 3 _, _, _, _, _⟩ :: _) _ _; first | (refine wl_load1 hM rfl 3 _ rfl rfl (.int _ _) rfl (by simp [go_sem]) ?_) | (refine wl_load1 hM.p1 rfl 3 _ rfl rfl (.int _ _) rfl (by simp [go_sem]) ?_) | (refine wl_load1 hM.p2 rfl 3 _ rfl rfl (.int _ _) rfl (by simp [go_sem]) ?_) | (refine wl_loadO hM rfl 3 _ rfl rfl (by assumption) (by simp [go_sem]) ?_))
          )
        go_roundg ((12 - (fs.length + 1)) * 13 + (todo.length + (f x).length))
        case measure => omega
        case rel =>
          refine ⟨A3, c3, x :: fs, todo ++ f x, fun j => if j = x then some (.bool true) else D j, by simp, by simp, by simp; omega, hF.take hxf, fun k => ?_, ?_⟩
          · by_cases hk : k = x
            · subst hk; simp
            · simp [hk, hD k]
          · have h := hM.p2.only2.p1
            rw [List.length_append, List.length_cons]
            simpa [ints] using h
end Go.Proofs.Ytenaklgkbchbdaa
