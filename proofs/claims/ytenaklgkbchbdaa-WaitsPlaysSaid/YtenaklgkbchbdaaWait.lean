/- Wait. Conditions: as each theorem says. -/
import Derived.Test.YtenaklgkbchbdaaState
import Derived.Deep.QuietTactic
import Derived.BigQuiet
import Derived.Deep.CutRange
import Derived.Deep.DeepCutAuto
set_option linter.unusedVariables false
set_option linter.unusedSimpArgs false
namespace Go.Proofs.Ytenaklgkbchbdaa
open Go.RowKit

/-- What Wait lays down of what it was handed. -/
def setL (l : List Int) : List Int := Lib.compact (l.mergeSort (fun x y => decide (x ≤ y)))

theorem wmap_look {w : World} {g n : Nat} {mv : Option Nat} {D : Int → Option Value} (h : (wmap g mv n D).ok w) {i : Int} (hi : I64 i) :
    (Instr.lookup 24 (.map mv) (.int .i64 i) true).run Try.prog w = .ok (.tuple #[(D i).getD (.slice none 0 0), .bool (D i).isSome]) w := by
  rcases mv with _ | b
  · rw [h.2.1 rfl i]
    exact Maps.look_nil true (Maps.int_keyed Try.underlying3) Try.underlying24 (Try.zeroValue35 w) (keyK Try.underlying3 hi)
  · exact run_lookup_ok (h.2.2 b rfl).2 Try.underlying24 Try.underlying3 (Try.zeroValue35 w) hi

/-- slices.Contains of a slice of the call's own. -/
theorem contains_ok {w0 w : World} {L : List Res} {A : Option Addr} {c : Nat} {xs : List Int} (x : Int) (hM : Mem w0 w (vec 3 1 A xs.length c (ints xs) :: L)) (hlen : xs.length ≤ 1000000000000) :
    Calls Try.prog 19 #[.slice A xs.length c, .int .i64 x] w (fun e w' => e = .returned (.bool (xs.contains x)) ∧ w' = w) := by
  rcases vec_cases hM.head with ⟨rfl, h0, rfl⟩ | ⟨g, o, rfl⟩
  · have hx : xs = [] := List.eq_nil_of_length_eq_zero h0
    subst hx
    exact Try.slices_Contains_int_empty none 0 x w
  · obtain ⟨hH, hlt, hcap⟩ := holds_vec hM
    have h := Try.slices_Contains_int g o xs.length c xs x w (Nat.le_refl _) (by omega) (fun j hj => by
      have := (hH j (by simpa using hj)).1
      rw [this]; simp [List.getD_eq_getElem?_getD, List.getElem?_eq_getElem hj])
    rw [List.take_length] at h
    exact h

set_option maxRecDepth 20000 in
set_option maxHeartbeats 2000000 in
theorem wait_ok (w0 w : World) (L : List Res) (g n : Nat) (mv : Option Nat) (bs : List Nat) (D : Int → Option Value) (f : Int → List Int) (hM : Mem w0 w (wmap g mv n D :: valsR bs D f :: L)) (hB : Bd f) (hn : n < 100000000) (i : Int) (hi : 0 ≤ i ∧ i < 12)
    (A : Option Addr) (c : Nat) (l : List Int) (hS : SlI w A l) (hl : ∀ x ∈ l, 0 ≤ x ∧ x < 12) (hll : l.length ≤ 1000) :
    Calls Try.prog 8 #[.pointer (some ⟨g, 0, none⟩), .int .i64 i, .slice A l.length c] w
      (Ret fun v w' => ∃ mv' bs' D' ok, v = .bool ok ∧ (ok = true ↔ ¬ Reach (updF f i (setL l)) i i) ∧ Mem w0 w' (wmap g mv' (n + 2) D' :: valsR bs' D' (if ok then updF f i (setL l) else f) :: L)) := by
  have hM0 := hM
  have hW := hM.head
  have hV := hM.p1.head
  replace hM := Mem.refl w
  go_enter Try.func8, Try.ntmps8
  go_wp2_with (first
    | (show wpList _ _ _ (⟨_, Op.box _ _, _, _, _, _⟩ :: _) _ _; first | (refine wl_boxA (o := ⟨some 3, _, _, _, _, _⟩) hM rfl _ _ rfl _ rfl ?_; clear hM; intro g3 w3 hM) | (refine wl_box1 (o := ⟨some 3, _, _, _, _, _⟩) hM rfl _ _ rfl (.pointer _) rfl rfl ?_; clear hM; intro g3 w3 hM) | (refine wl_boxA (o := ⟨some 4, _, _, _, _, _⟩) hM rfl _ _ rfl _ rfl ?_; clear hM; intro g4 w4 hM) | (refine wl_box1 (o := ⟨some 4, _, _, _, _, _⟩) hM rfl _ _ rfl (.int _ _) rfl rfl ?_; clear hM; intro g4 w4 hM))
    | (show wpList _ _ _ (⟨_, Op.load 40 _, _, _, _, _⟩ :: _) _ _; first | (refine wl_load1 hM rfl 40 _ rfl rfl (.pointer _) rfl (by simp [go_sem]) ?_) | (refine wl_load1 hM.p1 rfl 40 _ rfl rfl (.pointer _) rfl (by simp [go_sem]) ?_) | (refine wl_load1 hM.p2 rfl 40 _ rfl rfl (.pointer _) rfl (by simp [go_sem]) ?_) | (refine wl_loadO hM rfl 40 _ rfl rfl (by assumption) (by simp [go_sem]) ?_))
    )
  have hc3 : w4.cell? ⟨g3, 0, none⟩ = some (.pointer (some ⟨g, 0, none⟩)) := cell_blk hM.p1.head
  have hc4 : w4.cell? ⟨g4, 0, none⟩ = some (.int .i64 i) := cell_blk hM.head
  have hcg : w4.cell? ⟨g, 0, none⟩ = some (.map mv) := cell_blk (hM.oldok hW).1
  have hlk : ∀ q, (Instr.lookup 24 (.map mv) (.int .i64 i) true).run Try.prog (w4.drewN q) = .ok (.tuple #[(D i).getD (.slice none 0 0), .bool (D i).isSome]) (w4.drewN q) := fun q => wmap_look ((hM.drewN q).oldok hW) (by omega)
  obtain ⟨A0, m0, c0, hD0⟩ : ∃ A0 m0 c0, (D i).getD (.slice none 0 0) = .slice A0 m0 c0 := by
    cases hd : D i with
    | none => exact ⟨_, _, _, rfl⟩
    | some v =>
      obtain ⟨_, b, o, c, rfl, _⟩ := (hV.1 i).2 v hd
      exact ⟨_, _, _, rfl⟩
  rw [hD0] at hlk
  have HD0 := Lib.hid hD0
  clear hD0
  go_quiet (first | (rw [hlk]; exact ⟨rfl, rfl⟩))
  replace hM := hM.drewN nq
  generalize w4.drewN nq = w5 at hM ⊢
  clear hlk hc3 hc4 hcg
  obtain ⟨p, hp⟩ : ∃ p, p = setL l := ⟨_, rfl⟩
  have HP := Lib.hid hp
  obtain ⟨srt, hsrt⟩ : ∃ s, s = l.mergeSort (fun x y => decide (x ≤ y)) := ⟨_, rfl⟩
  have hsl : srt.length = l.length := by rw [hsrt]; exact (List.mergeSort_perm l _).length_eq
  have hcs := Lib.hid (show Lib.compact srt = p by rw [hp, hsrt]; rfl)
  have hsl' := Lib.hid hsl
  have hsrt' := Lib.hid hsrt
  clear hp hsl hsrt
  go_wp2_with (first
    | (go_at_call 17; go_must (refine (values_ok _ _ _ hM _ _ _).mono ?_); clear hM; rintro e wv ⟨v, rfl, gv, rfl, hM⟩)
    | (go_at_call 16; go_must (refine (sorted_ok (w0 := w) (I0 := [blk gv 35 #[.slice A l.length c]]) (values_iter w gv c A l hS (by omega)) (enters_of Try.func26 (by kernel_rfl) rfl) (fun pre x ⟨s, hs⟩ => by rw [hs] at hll; simp at hll; omega) (by omega) hM).mono ?_); clear hM; rintro e ws ⟨v, rfl, A1, c1, rfl, hM⟩; rw [← hsrt'.out] at hM ⊢)
    | (go_at_call 18; go_must (refine (compact_ok hM (by have := hsl'.out; omega)).mono ?_); clear hM; rintro e wp ⟨v, rfl, rfl, hM⟩; rw [hcs.out] at hM ⊢)
    | (go_at_call 15; replace hM := (hM0.trans hM).q3.p1; go_must (refine (set_ok w0 _ _ g3 g4 g n mv D _ _ _ i (by omega) _ (by omega) hM).mono ?_); clear hM; rintro e wq ⟨v, rfl, mv1, hM⟩)
    | (show wpList _ _ _ (⟨_, Op.box _ _, _, _, _, _⟩ :: _) _ _; first | (refine wl_boxA (o := ⟨some 3, _, _, _, _, _⟩) hM rfl _ _ rfl _ rfl ?_; clear hM; intro g3 w3 hM) | (refine wl_box1 (o := ⟨some 3, _, _, _, _, _⟩) hM rfl _ _ rfl (.pointer _) rfl rfl ?_; clear hM; intro g3 w3 hM) | (refine wl_boxA (o := ⟨some 4, _, _, _, _, _⟩) hM rfl _ _ rfl _ rfl ?_; clear hM; intro g4 w4 hM) | (refine wl_box1 (o := ⟨some 4, _, _, _, _, _⟩) hM rfl _ _ rfl (.int _ _) rfl rfl ?_; clear hM; intro g4 w4 hM))
    | (show wpList _ _ _ (⟨_, Op.load 40 _, _, _, _, _⟩ :: _) _ _; first | (refine wl_load1 hM rfl 40 _ rfl rfl (.pointer _) rfl (by simp [go_sem]) ?_) | (refine wl_load1 hM.p1 rfl 40 _ rfl rfl (.pointer _) rfl (by simp [go_sem]) ?_) | (refine wl_load1 hM.p2 rfl 40 _ rfl rfl (.pointer _) rfl (by simp [go_sem]) ?_) | (refine wl_loadO hM rfl 40 _ rfl rfl (by assumption) (by simp [go_sem]) ?_))
    )
  have hBp : ∀ x ∈ p, x ∈ l := fun x hx => by
    rw [HP.out] at hx; exact ((setOf_compact l).mem x).1 hx
  have hpn : p.Pairwise (· < ·) := by rw [HP.out]; exact (setOf_compact l).lt
  have hB1 : Bd (updF f i p) := by
    refine ⟨fun k x hx => ?_, fun k => ?_⟩
    · by_cases hk : k = i
      · simp only [updF, hk, if_true] at hx; exact hl x (hBp x hx)
      · simp only [updF, hk, if_false] at hx; exact hB.le k x hx
    · by_cases hk : k = i
      · simp only [updF, hk, if_true]
        exact nodup_le (hpn.imp fun h => by omega) (fun k hk => hl k (hBp k hk))
      · simp only [updF, hk, if_false]; exact hB.len k
  obtain ⟨D1, hD1⟩ : ∃ D1, D1 = updD D i (if decide (0 < p.length) then some (.slice A1 p.length c1) else none) := ⟨_, rfl⟩
  have hvals : ∃ bs', Mem w0 wq (valsR bs' D1 (updF f i p) :: blk g3 40 #[.pointer (some ⟨g, 0, none⟩)] :: blk g4 3 #[.int .i64 i] :: wmap g mv1 (n + 1) D1 :: L) := by
    rw [hD1]
    by_cases h0 : p = []
    · subst h0
      exact ⟨bs, by simpa using vals_del (hM.p4.p4.drop.p1.p1) i⟩
    · have hpos : 0 < p.length := List.length_pos_iff.2 h0
      rw [decide_eq_true hpos, if_pos rfl]
      rw [decide_eq_true hpos, if_pos rfl] at hM
      exact vals_add hM.p4.p4 i h0
  have hWK : WOK wq g (updF f i p) := by
    obtain ⟨bs', h⟩ := hvals
    exact wok_of h.p3.head h.head
  have hc3 : wq.cell? ⟨g3, 0, none⟩ = some (.pointer (some ⟨g, 0, none⟩)) := cell_blk hM.head
  have hc4 : wq.cell? ⟨g4, 0, none⟩ = some (.int .i64 i) := cell_blk hM.p1.head
  go_cut [38] (fun v38 wx => ∃ bb : Bool, v38 = .bool bb ∧ (bb = true ↔ Reach (updF f i p) i i) ∧ Mem wq wx [])
  case first =>
    have hWKd : WOK wq.drew g (updF f i p) := hWK.mem (Mem.refl wq).drew
    have hlt4 : g4 < wq.heap.size := World.block_lt_of_cell? wq _ hc4
    go_region_with (first
      | (go_at_call 20; refine (chain_ok _ g _ hWKd hB1 i (by omega)).mono ?_; rintro e wch ⟨v, rfl, Ac, cc, ss, rfl, hSS, hN⟩; have hc4c : wch.cell? ⟨g4, 0, none⟩ = some (.int .i64 i) := (hN.below.cell (p := ⟨g4, 0, none⟩) hlt4).trans hc4)
      | (go_at_call 19; refine (contains_ok i hN (Nat.le_trans (nodup_le (hSS.lt.imp fun h => by omega) (fun k hk => reach_bd hB1 ((hSS.mem k).1 hk))) (by omega))).mono ?_; rintro e wd ⟨rfl, rfl⟩))
    all_goals (go_wp2_with fail; go_meet; exact ⟨decide (i ∈ ss), rfl, by simp [hSS.mem], (((Mem.refl wq).drew).trans hN).drop⟩)
  case rest =>
    obtain ⟨bb, rfl, hbb, hR⟩ := hcut
    replace hM := hM.trans0 hR
    obtain ⟨bs', hvals⟩ := hvals
    replace hvals := hvals.trans0 hR
    cases bb with
    | false =>
      go_wp2_with (first
        | (show wpList _ _ _ (⟨_, Op.box _ _, _, _, _, _⟩ :: _) _ _; first | (refine wl_boxA (o := ⟨some 3, _, _, _, _, _⟩) hM rfl _ _ rfl _ rfl ?_; clear hM; intro g3 w3 hM) | (refine wl_box1 (o := ⟨some 3, _, _, _, _, _⟩) hM rfl _ _ rfl (.pointer _) rfl rfl ?_; clear hM; intro g3 w3 hM) | (refine wl_boxA (o := ⟨some 4, _, _, _, _, _⟩) hM rfl _ _ rfl _ rfl ?_; clear hM; intro g4 w4 hM) | (refine wl_box1 (o := ⟨some 4, _, _, _, _, _⟩) hM rfl _ _ rfl (.int _ _) rfl rfl ?_; clear hM; intro g4 w4 hM))
        | (show wpList _ _ _ (⟨_, Op.load 40 _, _, _, _, _⟩ :: _) _ _; first | (refine wl_load1 hM rfl 40 _ rfl rfl (.pointer _) rfl (by simp [go_sem]) ?_) | (refine wl_load1 hM.p1 rfl 40 _ rfl rfl (.pointer _) rfl (by simp [go_sem]) ?_) | (refine wl_load1 hM.p2 rfl 40 _ rfl rfl (.pointer _) rfl (by simp [go_sem]) ?_) | (refine wl_loadO hM rfl 40 _ rfl rfl (by assumption) (by simp [go_sem]) ?_))
        )
      go_ret
      rw [← HP.out]
      refine ret_mk ⟨mv1, bs', D1, true, rfl, by simpa using hbb, ?_⟩
      exact wmap_more hvals.p3.p2.drop.p2.drop (by omega) (fun k => rfl)
    | true =>
      go_wp2_with (first
        | (go_at_call 15; go_must (refine (set_ok w0 _ _ g3 g4 g (n + 1) mv1 _ _ _ _ i (by omega) _ (by omega) hM).mono ?_); clear hM; rintro e wq ⟨v, rfl, mv2, hM⟩)
        | (show wpList _ _ _ (⟨_, Op.box _ _, _, _, _, _⟩ :: _) _ _; first | (refine wl_boxA (o := ⟨some 3, _, _, _, _, _⟩) hM rfl _ _ rfl _ rfl ?_; clear hM; intro g3 w3 hM) | (refine wl_box1 (o := ⟨some 3, _, _, _, _, _⟩) hM rfl _ _ rfl (.pointer _) rfl rfl ?_; clear hM; intro g3 w3 hM) | (refine wl_boxA (o := ⟨some 4, _, _, _, _, _⟩) hM rfl _ _ rfl _ rfl ?_; clear hM; intro g4 w4 hM) | (refine wl_box1 (o := ⟨some 4, _, _, _, _, _⟩) hM rfl _ _ rfl (.int _ _) rfl rfl ?_; clear hM; intro g4 w4 hM))
        | (show wpList _ _ _ (⟨_, Op.load 40 _, _, _, _, _⟩ :: _) _ _; first | (refine wl_load1 hM rfl 40 _ rfl rfl (.pointer _) rfl (by simp [go_sem]) ?_) | (refine wl_load1 hM.p1 rfl 40 _ rfl rfl (.pointer _) rfl (by simp [go_sem]) ?_) | (refine wl_load1 hM.p2 rfl 40 _ rfl rfl (.pointer _) rfl (by simp [go_sem]) ?_) | (refine wl_loadO hM rfl 40 _ rfl rfl (by assumption) (by simp [go_sem]) ?_))
        )
      go_ret
      rw [← HP.out]
      refine ret_mk ⟨mv2, bs, D, false, rfl, by simpa using hbb, ?_⟩
      refine wmap_more hM.drop.drop.p1.drop (by omega) (fun k => ?_)
      by_cases hk : k = i
      · subst hk
        have h0 := HD0.out
        cases hd : D k with
        | none => simp [updD]
        | some v =>
          rw [hd] at h0
          simp only [Option.getD_some] at h0
          simp [updD, h0]
      · simp [updD, hk]
end Go.Proofs.Ytenaklgkbchbdaa
