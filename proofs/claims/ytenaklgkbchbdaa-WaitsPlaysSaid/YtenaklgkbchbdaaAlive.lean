/- The document's example (alive). Conditions: as each theorem says. -/
import Derived.Test.YtenaklgkbchbdaaSame
set_option linter.unusedVariables false
set_option linter.unusedSimpArgs false
namespace Go.Proofs.Ytenaklgkbchbdaa
open Go.RowKit

theorem valsNil {w0 w : World} {L : List Res} (h : Mem w0 w L) : Mem w0 w (valsR [] (fun _ => none) (fun _ => []) :: L) :=
  h.add (Below.refl _ _) ⟨fun k => ⟨fun _ => rfl, fun v hv => by cases hv⟩, fun b hb => by cases hb⟩ (fun i hi => by cases hi)
theorem setL_one (x : Int) : setL [x] = [x] := sorted_eq (setOf_compact [x]).lt (List.pairwise_singleton _ _) (fun y => (setOf_compact [x]).mem y)
theorem sl_one {w : World} {g : Nat} {t : TypeId} {x : Int} (h : (blk g t #[.int .i64 x]).ok w) : SlI w (some ⟨g, 0, none⟩) [x] := fun j hj => by
  have hj0 : j = 0 := by simpa using hj
  subst hj0
  exact ⟨g, 0, _, rfl, (blk g _ _).dom h g rfl, rfl, rfl, fun q v hq => by
    rcases q with _ | q
    · injection hq with hq; rw [← hq, cell_blk h]; rfl
    · cases hq⟩
theorem alive_one : ¬ Reach (updF (fun _ => []) 1 (setL [2])) 1 1 := by
  rw [setL_one]
  have key : ∀ k, Reach (updF (fun _ => []) 1 [2]) 1 k → k = 2 := fun k h => by
    induction h with
    | one h => simpa [updF] using h
    | more h1 h2 ih => subst ih; simp [updF] at h2
  intro h; have := key 1 h; omega
theorem alive_two : Reach (updF (updF (fun _ => []) 1 (setL [2])) 2 (setL [1])) 2 2 := by
  rw [setL_one, setL_one]
  exact .more (j := 1) (.one (by simp [updF])) (by simp [updF])

set_option maxRecDepth 20000 in
set_option maxHeartbeats 2000000 in
theorem alive_ok (w : World) : Calls Try.prog 4 #[] w (Ret fun v w' => v = .bool true ∧ Mem w w' []) := by
  have hM := Mem.refl w
  have hB0 : Bd (fun _ => []) := okf_zero.toBd
  have hF1 := okf_wait okf_zero 1 (by omega) [2] (by simp)
  have c1 : ∀ (w1 : World) (L : List Res) (g ge : Nat), Mem w w1 (blk ge 3 #[.int .i64 2] :: blk g 26 #[.map none] :: L) →
      Calls Try.prog 8 #[.pointer (some ⟨g, 0, none⟩), .int .i64 1, .slice (some ⟨ge, 0, none⟩) 1 1] w1
        (Ret fun v w' => ∃ mv bs D, v = .bool true ∧ Mem w w' (wmap g mv 2 D :: valsR bs D (updF (fun _ => []) 1 (setL [2])) :: L)) := fun w1 L g ge hM => by
    refine (wait_ok w w1 _ g 0 none [] (fun _ => none) (fun _ => []) (valsNil (to_wmap_none hM.p1 (fun _ => rfl))).p1 hB0 (by omega) 1 (by omega) (some ⟨ge, 0, none⟩) 1 [2] (sl_one hM.head) (by simp) (by simp)).mono ?_
    rintro e w' ⟨v, rfl, mv, bs, D, ok, rfl, hok, h⟩
    have : ok = true := hok.2 alive_one
    subst this
    exact ret_mk ⟨mv, bs, D, rfl, (h.p2.drop)⟩
  have c2 : ∀ (w1 : World) (L : List Res) (g ge n : Nat) (mv bs D), n < 1000 → Mem w w1 (blk ge 3 #[.int .i64 1] :: wmap g mv n D :: valsR bs D (updF (fun _ => []) 1 (setL [2])) :: L) →
      Calls Try.prog 8 #[.pointer (some ⟨g, 0, none⟩), .int .i64 2, .slice (some ⟨ge, 0, none⟩) 1 1] w1
        (Ret fun v w' => ∃ mv n bs D, v = .bool false ∧ Mem w w' (wmap g mv n D :: valsR bs D (updF (fun _ => []) 1 (setL [2])) :: L)) := fun w1 L g ge n mv bs D hn hM => by
    refine (wait_ok w w1 _ g n mv bs D _ hM.q2 hF1.toBd (by omega) 2 (by omega) (some ⟨ge, 0, none⟩) 1 [1] (sl_one hM.head) (by simp) (by simp)).mono ?_
    rintro e w' ⟨v, rfl, mv, bs, D, ok, rfl, hok, h⟩
    have : ok = false := by
      cases ok with
      | false => rfl
      | true => exact absurd alive_two (hok.1 rfl)
    subst this
    exact ret_mk ⟨mv, _, bs, D, rfl, (h.p2.drop)⟩
  go_enter Try.func4, Try.ntmps4
  have c3 : ∀ (w1 : World) (L : List Res) (g n : Nat) (mv bs D), Mem w w1 (wmap g mv n D :: valsR bs D (updF (fun _ => []) 1 (setL [2])) :: L) →
      Calls Try.prog 10 #[.pointer (some ⟨g, 0, none⟩), .int .i64 1] w1 (Ret fun v w' => ∃ A c, v = .slice A 1 c ∧ Mem w w' []) := fun w1 L g n mv bs D hM => by
    have h1 : updF (fun _ => []) 1 (setL [2]) 1 = [2] := by rw [setL_one]; rfl
    refine (for_ok w1 g _ (wok_of hM.head hM.p1.head) 1 (by omega) (by rw [h1]; simp)).mono ?_
    rintro e w' ⟨v, rfl, A, c, rfl, h⟩
    rw [h1]
    exact ret_mk ⟨A, c, rfl, (Mem.dropL (F := _ :: wmap g mv n D :: valsR bs D (updF (fun _ => []) 1 (setL [2])) :: L) (L := []) (by simpa using hM.trans1 h))⟩
  go_wp2_with (first
    | (show wpList _ _ _ (⟨_, Op.buildSlice _ _ _, _, _, _, _⟩ :: _) _ _; go_must (refine wl_slice1 hM rfl 35 _ rfl (.int _ _) rfl rfl (e := 3) (by simp [go_sem]) (by simp [go_sem]) _ (Try.zeroValue3 _) rfl ?_; clear hM; intro ge wE hM))
    | (go_at_call 8; have hSec := hFirst; refine (c2 _ _ _ _ _ _ _ _ (by omega) hM).mono ?_; clear hM; rintro e wc ⟨v, rfl, mv, n, bs, D, rfl, hM⟩)
    | (go_at_call 8; refine (c1 _ _ _ _ hM).mono ?_; clear hM; rintro e wc ⟨v, rfl, mv, bs, D, rfl, hM⟩; have hFirst : True := trivial)
    | (go_at_call 10; refine (c3 _ _ _ _ _ _ _ hM).mono ?_; clear hM; rintro e wc ⟨v, rfl, A, c, rfl, hM⟩)
    | (show wpList _ _ _ (⟨_, Op.alloc _, _, _, _, _⟩ :: _) _ _; first | (refine wl_allocA (o := ⟨some 1, _, _, _, _, _⟩) hM rfl _ rfl _ (Try.zeroValue26 _) ?_; clear hM; intro g1 w1 hM))
    )
  go_ret
  exact ret_mk ⟨rfl, hM⟩
end Go.Proofs.Ytenaklgkbchbdaa
