/- The statement WaitsPlaysSaid: called with any operations the law returns true, and the argument reads afterwards as before. Conditions: none but the statement's own. -/
import Derived.Test.YtenaklgkbchbdaaRows
import Derived.Test.YtenaklgkbchbdaaPlay
import Derived.Test.YtenaklgkbchbdaaReads
import Derived.ProofKit
import Derived.SizedLaws
import Derived.Below
import Derived.Carry
set_option linter.unusedVariables false
set_option linter.unusedSimpArgs false
namespace Go.Proofs.Ytenaklgkbchbdaa
open Go.ChangeShapes Go.WideShapes Go.ChangeAt Go.RowKit

theorem own : ownKnob Try.prog.godebug = none := by kernel_rfl
theorem laidOut : laidOutB Try.prog = true := by kernel_rfl

theorem ops_read {W : World} {A : Option Addr} {len cap : Nat} (h : TR Try.prog W 22 [.slice A len cap]) : len ≤ maxLen ∧ ∀ j, j < len → ∃ b o, A = some ⟨b, o, none⟩ ∧ OpAt W b o j := by
  obtain ⟨A', len', cap', he, hl, hm, hi⟩ := tr_slice Try.underlying22 (by decide +kernel) h
  cases he
  refine ⟨Nat.le_trans hl hm, fun j hj => ?_⟩
  obtain ⟨b, o, cs, rfl, hlt, hcl, htr, hc⟩ := hi j hj
  have hC : Try.prog.cellsOf 32 = 3 := by kernel_rfl
  rw [hC] at hcl hc
  obtain ⟨hcl', hf⟩ := tr_struct Try.underlying32 htr
  match cs, hcl with
  | [c0, c1, c2], _ =>
    have h0 : TR Try.prog W 5 (([c0, c1, c2].drop 0).take (Try.prog.cellsOf 5)) := hf 0 _ rfl
    have h1 : TR Try.prog W 5 (([c0, c1, c2].drop 1).take (Try.prog.cellsOf 5)) := hf 1 _ rfl
    have h2 : TR Try.prog W 30 (([c0, c1, c2].drop 2).take (Try.prog.cellsOf 30)) := hf 2 _ rfl
    have e5 : Try.prog.cellsOf 5 = 1 := by kernel_rfl
    have e30 : Try.prog.cellsOf 30 = 1 := by kernel_rfl
    rw [e5] at h0 h1
    rw [e30] at h2
    simp only [List.drop_zero, List.drop_succ_cons, List.take_succ_cons, List.take_zero] at h0 h1 h2
    obtain ⟨kd, hk, wk⟩ := tr_int Try.underlying5 h0
    obtain ⟨I, hI, wI⟩ := tr_int Try.underlying5 h1
    obtain ⟨AL, nL, cL, hL, hlL, hmL, hiL⟩ := tr_slice Try.underlying30 (by decide +kernel) h2
    cases hk; cases hI; cases hL
    have r0 := hc 0 _ rfl
    have r1 := hc 1 _ rfl
    have r2 := hc 2 _ rfl
    refine ⟨b, o, rfl, kd, I, AL, nL, cL, r0, r1, r2, wf_u8 wk, wf_u8 wI, fun q hq => ?_⟩
    obtain ⟨b', o', cs', hA, _, hcl2, htr2, hc2⟩ := hiL q hq
    obtain ⟨x, hx, wx⟩ := tr_int Try.underlying5 htr2
    subst hx
    rw [e5] at hc2
    have := hc2 0 _ rfl
    simp only [Nat.mul_one, Nat.add_zero] at this
    exact ⟨b', o', x, hA, this, wf_u8 wx⟩

set_option maxHeartbeats 800000 in
set_option maxRecDepth 100000 in
theorem lifted (os : Os) (started : os.Started) (H : Type) (enc : TypeId × Value → H) :
    ReturnsInHanded {} Try.checked os 3 .any (Rows.waitsPlaysSpec.pre6 enc Try.prog Try.f3 Rows.waitsPlaysRow.domain false) (Rows.waitsPlaysSpec.post enc Try.prog Try.f3 false true false false) := by
  refine returnsInHanded_of_change_sized (C := Try.checked) own started (by kernel_rfl) Try.func3
    (ChangeSpec.witness6 (enc := enc) (C := Try.checked) false ⟨#[], #[.slice none 0 0], []⟩ 8 (by kernel_rfl) (by kernel_rfl) (by kernel_rfl) (by kernel_rfl)) ?_
  intro W base args ds gs before hval0 hW hcnd hsz0 _
  have hval : ∀ (j : Nat) t v, Try.f3.params[j]? = some t → args[j]? = some v → Value.okWide Try.prog W .any base t v := hval0
  have hW' := hW
  obtain ⟨p, q, hA0, hV, rfl, hfz, hnd⟩ := hW
  have hA : DataW.TrodAll enc Try.prog W 0 (fun _ => true) true Try.f3.params.toList args.toList ds p := hA0
  rw [Try.params3] at hA hval
  obtain ⟨v0, vs0, d0, ds0, p0, q0, hargs, rfl, rfl, h0, r0⟩ := trodAll_cons hA
  obtain ⟨rfl, rfl, rfl⟩ := trodAll_nil r0
  obtain rfl : args = #[v0] := by cases args; simp_all
  obtain ⟨rfl, rfl⟩ := trodVars_none hV
  obtain ⟨a0, len0, cap0, rfl⟩ := okWide_slice Try.underlying22 (hval 0 22 v0 rfl rfl)
  have k0 := h0
  obtain ⟨m, hm⟩ := h0
  have lt0 : ∀ x ∈ p0, x.block < W.heap.size := DataW.trod_lt m _ _ _ hm
  obtain ⟨hlen, hops⟩ := ops_read ⟨_, _, _, _, _, _, _, hm⟩
  clear hA0 hval0 hsz0
  refine (play_ok W a0 len0 cap0 hops hlen).mono fun e W' hr => ?_
  obtain ⟨v, rfl, rfl, hM⟩ := hr
  have bel := hM.below
  exact ⟨_, rfl, _, _, _, [], _, [], hW', trodAll_mk1 (shut_bool Try.underlying4 _), trodAll_mk1 (Below.trod laidOut (by kernel_rfl) (of_decide_eq_true (by kernel_rfl)) k0 bel lt0), rfl, bel.frame _, fun h => by cases h⟩
theorem waitsPlays_over : Rows.waitsPlaysRow.holds Try.pinned (OpenSpec.ofChange Rows.waitsPlaysSpec) :=
  OpenClaim.holds_of_wide 3 Try.f3 rfl rfl rfl rfl rfl rfl rfl ⟨rfl, rfl, rfl, rfl, rfl⟩ rfl rfl rfl rfl rfl (by kernel_rfl) Try.func3 (by kernel_rfl)
    (of_decide_eq_true (by kernel_rfl)) (by unfold Func.isWrapper; first | (rw [if_pos (by decide +kernel)]; kernel_rfl) | (rw [if_neg (by decide +kernel)]; exact ⟨rfl, rfl⟩))
    (fun os started H enc _ => lifted os started H enc)
theorem waitsPlays_holds : Rows.WaitsPlaysSaid := waitsPlays_over
#print axioms waitsPlays_holds
end Go.Proofs.Ytenaklgkbchbdaa
