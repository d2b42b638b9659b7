/- Waiting; the comparison of two lists of ints (gimmalref16.Ints). Conditions: as each theorem says. -/
import Derived.Test.YtenaklgkbchbdaaState
import Derived.Deep.QuietTactic
import Derived.BigQuiet
set_option linter.unusedVariables false
set_option linter.unusedSimpArgs false
namespace Go.Proofs.Ytenaklgkbchbdaa
open Go.RowKit

set_option maxRecDepth 20000 in
set_option maxHeartbeats 1000000 in
theorem waiting_ok (w : World) (g n : Nat) (mv : Option Nat) (D : Int → Option Value) (S : Nat → Prop) (f : Int → List Int) (hW : (wmap g mv n D).ok w) (hV : Vals S w D f) (hn : n ≤ 1000000000000) :
    Calls Try.prog 22 #[.pointer (some ⟨g, 0, none⟩)] w (Ret fun v w' => ∃ A c ss, v = .slice A ss.length c ∧ Keyed1 ss (fun k => f k ≠ []) ∧ Mem w w' [vec 3 1 A ss.length c (ints ss)]) := by
  have hM := Mem.refl w
  have hcg : w.cell? ⟨g, 0, none⟩ = some (.map mv) := cell_blk hW.1
  rcases mv with _ | b
  · have hD := hW.2.1 rfl
    have hf : ∀ k, f k = [] := fun k => (hV k).1 (hD k)
    clear hW hV
    go_enter Try.func22, Try.ntmps22
    go_wp2_with (first
      | (go_at_call 29; go_must (refine (keysS_ok _ _).mono ?_); rintro e wc ⟨v, rfl, gb, rfl, hN⟩; replace hM := hM.trans1 hN; clear hN)
      | (go_at_call 16; go_must (refine (sortedS_nil _ gb hM.head).mono ?_); rintro e wc ⟨v, rfl, A, c, rfl, hN⟩; replace hM := hM.trans1 hN; clear hN)
      | (show wpList _ _ _ (⟨_, Op.load 24 _, _, _, _, _⟩ :: _) _ _; first | (refine wl_load1 hM rfl 24 _ rfl rfl (.map _) rfl (by simp [go_sem]) ?_) | (refine wl_load1 hM.p1 rfl 24 _ rfl rfl (.map _) rfl (by simp [go_sem]) ?_) | (refine wl_load1 hM.p2 rfl 24 _ rfl rfl (.map _) rfl (by simp [go_sem]) ?_) | (refine wl_loadO hM rfl 24 _ rfl rfl (by assumption) (by simp [go_sem]) ?_))
      )
    go_ret
    exact ret_mk ⟨A, c, [], rfl, ⟨.nil, fun k => by simp [hf]⟩, hM.only⟩
  · have hI := (hW.2.2 b rfl).2
    have hf : ∀ k, f k ≠ [] ↔ (D k).isSome = true := fun k => by
      have h := hV k
      cases hd : D k with
      | none => simp [h.1 hd]
      | some v => simp [(h.2 v hd).1]
    clear hW hV
    go_enter Try.func22, Try.ntmps22
    go_wp2_with (first
      | (go_at_call 29; go_must (refine (keysS_ok _ _).mono ?_); rintro e wc ⟨v, rfl, gb, rfl, hN⟩; replace hM := hM.trans1 hN; clear hN)
      | (go_at_call 16; go_must (refine (sortedS_ok _ gb b n D hM.head (hM.oldok hI) hn).mono ?_); rintro e wc ⟨v, rfl, A, c, ss, rfl, hK, hl, hN⟩; replace hM := hM.trans1 hN; clear hN)
      | (show wpList _ _ _ (⟨_, Op.load 24 _, _, _, _, _⟩ :: _) _ _; first | (refine wl_load1 hM rfl 24 _ rfl rfl (.map _) rfl (by simp [go_sem]) ?_) | (refine wl_load1 hM.p1 rfl 24 _ rfl rfl (.map _) rfl (by simp [go_sem]) ?_) | (refine wl_load1 hM.p2 rfl 24 _ rfl rfl (.map _) rfl (by simp [go_sem]) ?_) | (refine wl_loadO hM rfl 24 _ rfl rfl (by assumption) (by simp [go_sem]) ?_))
      )
    go_ret
    exact ret_mk ⟨A, c, ss, rfl, ⟨hK.lt, fun k => by rw [hK.mem k, hf k]⟩, hM.only⟩

set_option maxRecDepth 20000 in
set_option maxHeartbeats 1000000 in
theorem ints_ok (w : World) (A B : Option Addr) (c d : Nat) (xs ys : List Int) (hA : SlI w A xs) (hB : SlI w B ys) (hx : xs.length ≤ 1000000) (hy : ys.length ≤ 1000000) :
    Calls Try.prog 21 #[.slice A xs.length c, .slice B ys.length d] w (Ret fun v w' => v = .bool (decide (xs = ys)) ∧ Mem w w' []) := by
  have hM := Mem.refl w
  by_cases hl : xs.length = ys.length
  · rw [← hl] at hy ⊢
    have hHL := Lib.hid hl
    clear hl
    go_enter Try.func21, Try.ntmps21
    go_wp2_with fail
    go_loopg [5] xs.length (fun kq v5 w' => ∃ n : Nat, v5 = .int .i64 n ∧ n + kq = xs.length ∧ xs.take n = ys.take n ∧ Mem w w' [])
    case atStart => exact ⟨0, rfl, by omega, by simp, hM⟩
    case round =>
      clear hM
      obtain ⟨n, rfl, hn, he, hM⟩ := hrel
      by_cases h : n < xs.length
      · obtain ⟨b, o, rfl, hb, hcx⟩ := hA.at_ h
        have h' : n < ys.length := by rw [← hHL.out]; exact h
        obtain ⟨b', o', rfl, hb', hcy⟩ := hB.at_ h'
        obtain ⟨x, hX⟩ : ∃ x, x = xs[n] := ⟨_, rfl⟩
        obtain ⟨y, hY⟩ : ∃ y, y = ys[n] := ⟨_, rfl⟩
        have HX := Lib.hid hX
        have HY := Lib.hid hY
        rw [← hX] at hcx
        rw [← hY] at hcy
        clear hX hY
        have hcx' := (hM.below.cell (p := ⟨b, o + n, none⟩) hb).trans hcx
        have hcy' := (hM.below.cell (p := ⟨b', o' + n, none⟩) hb').trans hcy
        clear hcx hcy hA hB
        have hHE := Lib.hid he
        clear he
        go_wp2_with fail
        have hi' : (n : Int) < (xs.length : Int) := by omega
        go_quiet (fail)
        replace hM := hM.drewN nq
        generalize wr.drewN nq = w5 at hM ⊢
        by_cases hxy : x = y
        · rw [show (x != y) = false by simp [hxy]]
          go_wp2_with fail
          go_roundg (gk - 1)
          case measure => omega
          case rel =>
            refine ⟨n + 1, by go_num, by omega, ?_, hM⟩
            rw [List.take_succ_eq_append_getElem h, List.take_succ_eq_append_getElem h', hHE.out, ← HX.out, ← HY.out, hxy]
        · rw [show (x != y) = true by simp [hxy]]
          go_wp2_with fail
          go_ret
          have hne : xs ≠ ys := fun e => hxy (by rw [HX.out, HY.out]; simp only [e])
          exact ret_mk ⟨by simp [hne], hM⟩
      · have hxy : Hid (xs = ys) := Lib.hid <| by
          have h1 : xs.take n = xs := List.take_of_length_le (by omega)
          have h2 : ys.take n = ys := List.take_of_length_le (by rw [← hHL.out]; omega)
          rw [← h1, he, h2]
        clear he
        go_wp2_with fail
        go_ret
        exact ret_mk ⟨by simp [hxy.out], hM⟩
  · have hne : xs ≠ ys := fun e => hl (by rw [e])
    have hli : (xs.length : Int) ≠ (ys.length : Int) := by omega
    go_enter Try.func21, Try.ntmps21
    go_wp2_with fail
    go_ret
    exact ret_mk ⟨by simp [hne], hM⟩
end Go.Proofs.Ytenaklgkbchbdaa
