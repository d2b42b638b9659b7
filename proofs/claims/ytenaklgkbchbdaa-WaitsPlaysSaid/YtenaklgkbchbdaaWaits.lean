/- Package waits over a plain relation: what For, Chain, Wait, Free, Waiting return and leave. Conditions: as each theorem says. -/
import Derived.Test.YtenaklgkbchbdaaSeq
import Derived.Test.YtenaklgkbchbdaaSl
import Derived.Test.YtenaklgkbchbdaaShelf
import Derived.Deep.LoopGhost
import Derived.KernelRfl
import Derived.WalkSpells
import Derived.StillTailTactics
set_option linter.unusedVariables false
set_option linter.unusedSimpArgs false
namespace Go.Proofs.Ytenaklgkbchbdaa
open Go.RowKit


/-- What stands in the map are slices that read as f tells, in blocks of S; a key that is not there has none. -/
def Vals (S : Nat → Prop) (w : World) (D : Int → Option Value) (f : Int → List Int) : Prop :=
  ∀ k, (D k = none → f k = []) ∧ ∀ v, D k = some v → f k ≠ [] ∧ ∃ b o c, v = .slice (some ⟨b, o, none⟩) (f k).length c ∧ S b ∧ b < w.heap.size ∧
    ∀ i (h : i < (f k).length), w.cell? ⟨b, o + i, none⟩ = some (.int .i64 (f k)[i])

/-- The waits at g are f. -/
def WOK (w : World) (g : Nat) (f : Int → List Int) : Prop :=
  ∃ mv n S D, (blk g 26 #[.map mv]).ok w ∧ (mv = none → ∀ k, D k = none) ∧ (∀ b, mv = some b → (imap Try.prog 3 b n D).ok w) ∧ Vals S w D f

theorem clone_ok (w : World) (A : Option Addr) (c : Nat) (xs : List Int) (hS : SlI w A xs) (hlen : xs.length ≤ 1000000) :
    Calls Try.prog 12 #[.slice A xs.length c] w (Ret fun v w' => ∃ A' c', v = .slice A' xs.length c' ∧ Mem w w' [row 3 1 (.slice A' xs.length c') xs.length (ints xs)]) := by
  rcases A with _ | ⟨b, o, s⟩
  · have hx : xs = [] := by
      rcases xs with _ | ⟨x, xs⟩
      · rfl
      · obtain ⟨b, o, cs, h, _⟩ := hS 0 (by simp); cases h
    subst hx
    refine (Try.slices_Clone_int_nil 0 c w).mono ?_
    rintro e w' ⟨rfl, rfl⟩
    refine ret_mk ⟨none, 0, rfl, ?_⟩
    exact row_of_owns ⟨rfl, .inl ⟨rfl, rfl⟩⟩ (Below.refl _ _)
  · rcases Nat.eq_zero_or_pos xs.length with h0 | h0
    · have hx : xs = [] := List.eq_nil_of_length_eq_zero h0
      subst hx
      refine (Try.slices_Clone_int_zero ⟨b, o, s⟩ c w).mono ?_
      rintro e w' ⟨v', rfl, hown, hne, hb⟩
      rcases hown.2 with ⟨rfl, _⟩ | ⟨g, cap, cur, rfl, hr⟩
      · exact absurd rfl hne
      · exact ret_mk ⟨_, _, rfl, row_of_owns hown hb⟩
    · obtain ⟨b', o', hA, hlt, hc⟩ := hS.at_ h0
      cases hA
      refine (Try.slices_Clone_int b o xs.length c xs w (Nat.le_refl _) (by omega) (fun j hj => ?_)).mono ?_
      · obtain ⟨b'', o'', hA', _, hc'⟩ := hS.at_ hj
        cases hA'
        rw [hc']; simp [List.getD_eq_getElem?_getD, List.getElem?_eq_getElem hj]
      rintro e w' ⟨v', rfl, hown, hne, hb⟩
      rw [List.take_length] at hown
      rcases hown.2 with ⟨rfl, _⟩ | ⟨g, cap, cur, rfl, hr⟩
      · exact absurd rfl hne
      · exact ret_mk ⟨_, _, rfl, row_of_owns hown hb⟩

theorem for_ok (w : World) (g : Nat) (f : Int → List Int) (hW : WOK w g f) (i : Int) (hi : -9223372036854775808 ≤ i ∧ i ≤ 9223372036854775807) (hf : (f i).length ≤ 1000000) :
    Calls Try.prog 10 #[.pointer (some ⟨g, 0, none⟩), .int .i64 i] w
      (Ret fun v w' => ∃ A c, v = .slice A (f i).length c ∧ Mem w w' [vec 3 1 A (f i).length c (ints (f i))]) := by
  obtain ⟨mv, n, S, D, hb, hnil, him, hv⟩ := hW
  have hM := Mem.refl w
  have hc0 : w.cell? ⟨g, 0, none⟩ = some (.map mv) := cell_blk hb
  clear hb
  rcases mv with _ | b
  · have hD := hnil rfl i
    go_enter Try.func10, Try.ntmps10
    go_wp2_with (first
      | (refine wl_lookupNil rfl 24 _ _ rfl rfl _ rfl Try.underlying24 Try.underlying3 hi _ (Try.zeroValue35 _) ?_)
      | (go_at_call 12; go_must (refine (clone_ok _ none 0 [] (Sl.nil _) (by simp)).mono ?_); rintro e wc ⟨v, rfl, A, c, rfl, hN⟩; replace hM := hM.trans1 hN; clear hN)
      | (show wpList _ _ _ (⟨_, Op.load 24 _, _, _, _, _⟩ :: _) _ _; first | (refine wl_load1 hM rfl 24 _ rfl rfl (.map _) rfl (by simp [go_sem]) ?_) | (refine wl_load1 hM.p1 rfl 24 _ rfl rfl (.map _) rfl (by simp [go_sem]) ?_) | (refine wl_load1 hM.p2 rfl 24 _ rfl rfl (.map _) rfl (by simp [go_sem]) ?_) | (refine wl_loadO hM rfl 24 _ rfl rfl (by assumption) (by simp [go_sem]) ?_))
      )
    go_ret
    rw [(hv i).1 hD]
    exact ret_mk ⟨A, c, rfl, hM.toVec⟩
  · have hI := him b rfl
    clear him hnil
    cases hD : D i with
    | none =>
      go_enter Try.func10, Try.ntmps10
      go_wp2_with (first
        | (refine wl_lookup (hM.oldok hI) rfl 24 _ _ rfl rfl _ rfl hi Try.underlying24 Try.underlying3 _ (Try.zeroValue35 _) ?_; rw [hD]; simp only [Option.getD_none])
        | (go_at_call 12; go_must (refine (clone_ok _ none 0 [] (Sl.nil _) (by simp)).mono ?_); rintro e wc ⟨v, rfl, A, c, rfl, hN⟩; replace hM := hM.trans1 hN; clear hN)
        | (show wpList _ _ _ (⟨_, Op.load 24 _, _, _, _, _⟩ :: _) _ _; first | (refine wl_load1 hM rfl 24 _ rfl rfl (.map _) rfl (by simp [go_sem]) ?_) | (refine wl_load1 hM.p1 rfl 24 _ rfl rfl (.map _) rfl (by simp [go_sem]) ?_) | (refine wl_load1 hM.p2 rfl 24 _ rfl rfl (.map _) rfl (by simp [go_sem]) ?_) | (refine wl_loadO hM rfl 24 _ rfl rfl (by assumption) (by simp [go_sem]) ?_))
        )
      go_ret
      rw [(hv i).1 hD]
      exact ret_mk ⟨A, c, rfl, hM.toVec⟩
    | some v =>
      obtain ⟨hne, b', o', c', rfl, hS, hlt, hc⟩ := (hv i).2 _ hD
      generalize hx : f i = xs at hne hc hf ⊢
      have HX := Lib.hid hx
      rw [hx] at hD
      clear hx hv
      have hSl : SlI w (some ⟨b', o', none⟩) xs := fun j hj => ⟨b', o', _, rfl, hlt, rfl, rfl, fun q v hq => by
        rcases q with _ | q
        · injection hq with hq; rw [← hq]; simp [hc j hj]
        · cases hq⟩
      clear hc
      have hD' := Lib.hid hD
      clear hD
      go_enter Try.func10, Try.ntmps10
      go_wp2_with (first
        | (refine wl_lookup (hM.oldok hI) rfl 24 _ _ rfl rfl _ rfl hi Try.underlying24 Try.underlying3 _ (Try.zeroValue35 _) ?_; rw [hD'.out]; simp only [Option.getD_some])
        | (go_at_call 12; go_must (refine (clone_ok _ _ _ xs (hSl.mem stay_int hM) hf).mono ?_); rintro e wc ⟨v, rfl, A, c, rfl, hN⟩; replace hM := hM.trans1 hN; clear hN)
        | (show wpList _ _ _ (⟨_, Op.load 24 _, _, _, _, _⟩ :: _) _ _; first | (refine wl_load1 hM rfl 24 _ rfl rfl (.map _) rfl (by simp [go_sem]) ?_) | (refine wl_load1 hM.p1 rfl 24 _ rfl rfl (.map _) rfl (by simp [go_sem]) ?_) | (refine wl_load1 hM.p2 rfl 24 _ rfl rfl (.map _) rfl (by simp [go_sem]) ?_) | (refine wl_loadO hM rfl 24 _ rfl rfl (by assumption) (by simp [go_sem]) ?_))
        )
      go_ret
      exact ret_mk ⟨A, c, rfl, hM.toVec⟩
end Go.Proofs.Ytenaklgkbchbdaa
