/- slices.Values of a slice, AppendSeq, Collect, Sorted over it: what they return. Conditions: as each theorem says. -/
import Derived.Test.YtenaklgkbchbdaaSort
import Derived.Test.YtenaklgkbchbdaaIter
import Derived.Test.YtenaklgkbchbdaaOpsIn
import Derived.Test.YtenaklgkbchbdaaSl
import Derived.Deep.LoopGhost
import Derived.Sort.LoopGhostIn
import Derived.KernelRfl
import Derived.WalkSpells
import Derived.LoopNIn
import Derived.LoopIn
set_option linter.unusedVariables false
set_option linter.unusedSimpArgs false
namespace Go.Proofs.Ytenaklgkbchbdaa
open Go.RowKit

set_option maxRecDepth 20000 in
set_option maxHeartbeats 1000000 in
/-- The iterator of slices.Values, at a slice that lay there ahead of it all. -/
theorem values_iter (w0 : World) (g c : Nat) (A : Option Addr) (xs : List Int) (hS : SlI w0 A xs) (hlen : xs.length ≤ 1000000) :
    IterOk Try.prog 26 #[.pointer (some ⟨g, 0, none⟩)] (fun x : Int => #[.int .i64 x]) [blk g 35 #[.slice A xs.length c]] (fun pre x => ∃ s, xs = pre ++ x :: s) (fun ys => ys = xs) w0 := by
  intro l W Cons Stop Lc hY hC hM
  simp only [List.singleton_append] at hM
  rcases Nat.eq_zero_or_pos xs.length with h0 | h0
  · have hx : xs = [] := List.eq_nil_of_length_eq_zero h0
    subst hx
    (refine callsIn_of_wp Try.func26 rfl trivial ?_ rfl; simp only [Try.ntmps26, List.size_toArray, List.length_cons, List.length_nil, Nat.reduceAdd, Nat.reduceSub, Array.replicate_succ, Array.replicate_zero, List.push_toArray, List.append_toArray, List.nil_append, List.cons_append])
    gi_wp2_with (first
      | (show wpListIn _ _ _ _ _ (⟨_, Op.load 35 _, _, _, _, _⟩ :: _) _ _; first | (refine wi_load1 hM rfl 35 _ rfl rfl (.slice _ _ _) rfl (by simp [go_sem]) ?_) | (refine wi_load1 hM.p1 rfl 35 _ rfl rfl (.slice _ _ _) rfl (by simp [go_sem]) ?_) | (refine wi_load1 hM.p2 rfl 35 _ rfl rfl (.slice _ _ _) rfl (by simp [go_sem]) ?_) | (refine wi_loadO hM rfl 35 _ rfl rfl (by assumption) (by simp [go_sem]) ?_))
      | (show wpListIn _ _ _ _ _ (⟨_, Op.load 3 _, _, _, _, _⟩ :: _) _ _; first | (refine wi_load1 hM rfl 3 _ rfl rfl (.int _ _) rfl (by simp [go_sem]) ?_) | (refine wi_load1 hM.p1 rfl 3 _ rfl rfl (.int _ _) rfl (by simp [go_sem]) ?_) | (refine wi_load1 hM.p2 rfl 3 _ rfl rfl (.int _ _) rfl (by simp [go_sem]) ?_) | (refine wi_loadO hM rfl 3 _ rfl rfl (by assumption) (by simp [go_sem]) ?_))
      )
    gi_loopg [7] 0 (fun kq v7 w' => v7 = .int .i64 0 ∧ Mem w0 w' Lc)
    case atStart => exact ⟨rfl, hM.drop⟩
    case round =>
      obtain ⟨rfl, hM⟩ := hrel
      gi_wp2_with (first
        | (show wpListIn _ _ _ _ _ (⟨_, Op.load 35 _, _, _, _, _⟩ :: _) _ _; first | (refine wi_load1 hM rfl 35 _ rfl rfl (.slice _ _ _) rfl (by simp [go_sem]) ?_) | (refine wi_load1 hM.p1 rfl 35 _ rfl rfl (.slice _ _ _) rfl (by simp [go_sem]) ?_) | (refine wi_load1 hM.p2 rfl 35 _ rfl rfl (.slice _ _ _) rfl (by simp [go_sem]) ?_) | (refine wi_loadO hM rfl 35 _ rfl rfl (by assumption) (by simp [go_sem]) ?_))
        | (show wpListIn _ _ _ _ _ (⟨_, Op.load 3 _, _, _, _, _⟩ :: _) _ _; first | (refine wi_load1 hM rfl 3 _ rfl rfl (.int _ _) rfl (by simp [go_sem]) ?_) | (refine wi_load1 hM.p1 rfl 3 _ rfl rfl (.int _ _) rfl (by simp [go_sem]) ?_) | (refine wi_load1 hM.p2 rfl 3 _ rfl rfl (.int _ _) rfl (by simp [go_sem]) ?_) | (refine wi_loadO hM rfl 3 _ rfl rfl (by assumption) (by simp [go_sem]) ?_))
        )
      go_end0
      exact ⟨⟨_, rfl⟩, Lc, hM, .inl ⟨[], rfl, hC⟩⟩
  · obtain ⟨b, o, rfl, _, _⟩ := hS.at_ h0
    have hc : ∀ i (h : i < xs.length), w0.cell? ⟨b, o + i, none⟩ = some (.int .i64 xs[i]) := fun i h => by
      obtain ⟨b', o', hA, _, h'⟩ := hS.at_ h
      cases hA; exact h'
    (refine callsIn_of_wp Try.func26 rfl trivial ?_ rfl; simp only [Try.ntmps26, List.size_toArray, List.length_cons, List.length_nil, Nat.reduceAdd, Nat.reduceSub, Array.replicate_succ, Array.replicate_zero, List.push_toArray, List.append_toArray, List.nil_append, List.cons_append])
    gi_wp2_with (first
      | (show wpListIn _ _ _ _ _ (⟨_, Op.load 35 _, _, _, _, _⟩ :: _) _ _; first | (refine wi_load1 hM rfl 35 _ rfl rfl (.slice _ _ _) rfl (by simp [go_sem]) ?_) | (refine wi_load1 hM.p1 rfl 35 _ rfl rfl (.slice _ _ _) rfl (by simp [go_sem]) ?_) | (refine wi_load1 hM.p2 rfl 35 _ rfl rfl (.slice _ _ _) rfl (by simp [go_sem]) ?_) | (refine wi_loadO hM rfl 35 _ rfl rfl (by assumption) (by simp [go_sem]) ?_))
      | (show wpListIn _ _ _ _ _ (⟨_, Op.load 3 _, _, _, _, _⟩ :: _) _ _; first | (refine wi_load1 hM rfl 3 _ rfl rfl (.int _ _) rfl (by simp [go_sem]) ?_) | (refine wi_load1 hM.p1 rfl 3 _ rfl rfl (.int _ _) rfl (by simp [go_sem]) ?_) | (refine wi_load1 hM.p2 rfl 3 _ rfl rfl (.int _ _) rfl (by simp [go_sem]) ?_) | (refine wi_loadO hM rfl 3 _ rfl rfl (by assumption) (by simp [go_sem]) ?_))
      )
    gi_loopg [7] xs.length (fun kq v7 w' => ∃ (n : Nat) (Lc : List Res), v7 = .int .i64 n ∧ n + kq = xs.length ∧ Cons (xs.take n) Lc ∧ Mem w0 w' (blk g 35 #[.slice (some ⟨b, o, none⟩) xs.length c] :: Lc))
    case atStart => exact ⟨0, Lc, rfl, by omega, by simpa using hC, hM⟩
    case round =>
      clear hC hM
      obtain ⟨n, Lc, rfl, hn, hC, hM⟩ := hrel
      by_cases hlt : n < xs.length
      · have hcn := hc n hlt
        have hnext : ∃ s, xs = xs.take n ++ xs[n] :: s := ⟨xs.drop (n + 1), by simp⟩
        obtain ⟨fn, tmps, assign, body, hy, hR⟩ := hY [blk g 35 #[.slice (some ⟨b, o, none⟩) xs.length c]] (xs.take n) xs[n] wr Lc hC (by simpa using hM) hnext
        clear hc
        gi_wp2_with (first
          | (show wpListIn _ _ _ _ _ (⟨_, Op.load 35 _, _, _, _, _⟩ :: _) _ _; first | (refine wi_load1 hM rfl 35 _ rfl rfl (.slice _ _ _) rfl (by simp [go_sem]) ?_) | (refine wi_load1 hM.p1 rfl 35 _ rfl rfl (.slice _ _ _) rfl (by simp [go_sem]) ?_) | (refine wi_load1 hM.p2 rfl 35 _ rfl rfl (.slice _ _ _) rfl (by simp [go_sem]) ?_) | (refine wi_loadO hM rfl 35 _ rfl rfl (by assumption) (by simp [go_sem]) ?_))
          | (show wpListIn _ _ _ _ _ (⟨_, Op.load 3 _, _, _, _, _⟩ :: _) _ _; first | (refine wi_load1 hM rfl 3 _ rfl rfl (.int _ _) rfl (by simp [go_sem]) ?_) | (refine wi_load1 hM.p1 rfl 3 _ rfl rfl (.int _ _) rfl (by simp [go_sem]) ?_) | (refine wi_load1 hM.p2 rfl 3 _ rfl rfl (.int _ _) rfl (by simp [go_sem]) ?_) | (refine wi_loadO hM rfl 3 _ rfl rfl (by assumption) (by simp [go_sem]) ?_))
          )
        refine ⟨rfl, hR.mono ?_⟩
        rintro e W3 ⟨Lc', hM, (⟨rfl, hC⟩ | ⟨rfl, hS⟩)⟩
        · simp only [List.singleton_append] at hM
          gi_wp2_with (first
            | (show wpListIn _ _ _ _ _ (⟨_, Op.load 35 _, _, _, _, _⟩ :: _) _ _; first | (refine wi_load1 hM rfl 35 _ rfl rfl (.slice _ _ _) rfl (by simp [go_sem]) ?_) | (refine wi_load1 hM.p1 rfl 35 _ rfl rfl (.slice _ _ _) rfl (by simp [go_sem]) ?_) | (refine wi_load1 hM.p2 rfl 35 _ rfl rfl (.slice _ _ _) rfl (by simp [go_sem]) ?_) | (refine wi_loadO hM rfl 35 _ rfl rfl (by assumption) (by simp [go_sem]) ?_))
            | (show wpListIn _ _ _ _ _ (⟨_, Op.load 3 _, _, _, _, _⟩ :: _) _ _; first | (refine wi_load1 hM rfl 3 _ rfl rfl (.int _ _) rfl (by simp [go_sem]) ?_) | (refine wi_load1 hM.p1 rfl 3 _ rfl rfl (.int _ _) rfl (by simp [go_sem]) ?_) | (refine wi_load1 hM.p2 rfl 3 _ rfl rfl (.int _ _) rfl (by simp [go_sem]) ?_) | (refine wi_loadO hM rfl 3 _ rfl rfl (by assumption) (by simp [go_sem]) ?_))
            )
          gi_roundg (gk - 1)
          case measure => omega
          case rel => exact ⟨n + 1, Lc', by go_num, by omega, by rw [List.take_succ_eq_append_getElem hlt]; exact hC, hM⟩
        · simp only [List.singleton_append] at hM
          gi_wp2_with (first
            | (show wpListIn _ _ _ _ _ (⟨_, Op.load 35 _, _, _, _, _⟩ :: _) _ _; first | (refine wi_load1 hM rfl 35 _ rfl rfl (.slice _ _ _) rfl (by simp [go_sem]) ?_) | (refine wi_load1 hM.p1 rfl 35 _ rfl rfl (.slice _ _ _) rfl (by simp [go_sem]) ?_) | (refine wi_load1 hM.p2 rfl 35 _ rfl rfl (.slice _ _ _) rfl (by simp [go_sem]) ?_) | (refine wi_loadO hM rfl 35 _ rfl rfl (by assumption) (by simp [go_sem]) ?_))
            | (show wpListIn _ _ _ _ _ (⟨_, Op.load 3 _, _, _, _, _⟩ :: _) _ _; first | (refine wi_load1 hM rfl 3 _ rfl rfl (.int _ _) rfl (by simp [go_sem]) ?_) | (refine wi_load1 hM.p1 rfl 3 _ rfl rfl (.int _ _) rfl (by simp [go_sem]) ?_) | (refine wi_load1 hM.p2 rfl 3 _ rfl rfl (.int _ _) rfl (by simp [go_sem]) ?_) | (refine wi_loadO hM rfl 3 _ rfl rfl (by assumption) (by simp [go_sem]) ?_))
            )
          (try simp only [Exit.inBlock, Exit.then])
          refine bodyPost_ret (results_none rfl _ _ _) rfl ?_
          exact ⟨⟨_, rfl⟩, Lc', hM.drop, .inr ⟨_, hS⟩⟩
      · have hn' : n = xs.length := by omega
        subst hn'
        rw [List.take_length] at hC
        gi_wp2_with (first
          | (show wpListIn _ _ _ _ _ (⟨_, Op.load 35 _, _, _, _, _⟩ :: _) _ _; first | (refine wi_load1 hM rfl 35 _ rfl rfl (.slice _ _ _) rfl (by simp [go_sem]) ?_) | (refine wi_load1 hM.p1 rfl 35 _ rfl rfl (.slice _ _ _) rfl (by simp [go_sem]) ?_) | (refine wi_load1 hM.p2 rfl 35 _ rfl rfl (.slice _ _ _) rfl (by simp [go_sem]) ?_) | (refine wi_loadO hM rfl 35 _ rfl rfl (by assumption) (by simp [go_sem]) ?_))
          | (show wpListIn _ _ _ _ _ (⟨_, Op.load 3 _, _, _, _, _⟩ :: _) _ _; first | (refine wi_load1 hM rfl 3 _ rfl rfl (.int _ _) rfl (by simp [go_sem]) ?_) | (refine wi_load1 hM.p1 rfl 3 _ rfl rfl (.int _ _) rfl (by simp [go_sem]) ?_) | (refine wi_load1 hM.p2 rfl 3 _ rfl rfl (.int _ _) rfl (by simp [go_sem]) ?_) | (refine wi_loadO hM rfl 3 _ rfl rfl (by assumption) (by simp [go_sem]) ?_))
          )
        go_end0
        exact ⟨⟨_, rfl⟩, Lc, hM.drop, .inl ⟨xs, rfl, hC⟩⟩

/-- slices.Values(l): the slice is boxed; the function value captures the box. -/
theorem values_ok (w w0 : World) (L : List Res) (hM : Mem w0 w L) (A : Option Addr) (n c : Nat) : Calls Try.prog 17 #[.slice A n c] w (Ret fun v w' => ∃ g, v = .func (.func 26) #[] #[.pointer (some ⟨g, 0, none⟩)] ∧ Mem w0 w' (blk g 35 #[.slice A n c] :: L)) := by
  go_enter Try.func17, Try.ntmps17
  go_wp2_with (first
    | (show wpList _ _ _ (⟨_, Op.box _ _, _, _, _, _⟩ :: _) _ _; first | (refine wl_boxA (o := ⟨some 1, _, _, _, _, _⟩) hM rfl _ _ rfl _ rfl ?_; clear hM; intro g1 w1 hM) | (refine wl_box1 (o := ⟨some 1, _, _, _, _, _⟩) hM rfl _ _ rfl (.slice _ _ _) rfl rfl ?_; clear hM; intro g1 w1 hM))
    )
  go_ret
  exact ret_mk ⟨_, rfl, hM⟩

set_option maxRecDepth 20000 in
set_option maxHeartbeats 1000000 in
/-- slices.AppendSeq(nil, seq). -/
theorem appendSeq_ok {w0 w : World} {L I0 : List Res} {gf : Nat} {lb : Array Value} {Next : List Int → Int → Prop} {xs : List Int} (hit : IterOk Try.prog gf lb (fun x : Int => #[.int .i64 x]) I0 Next (fun ys => ys = xs) w0)
    (eg : ∀ args w, (callFunc gf args).run Try.prog w = .ok (.enter gf args) w) (hlen : ∀ pre x, Next pre x → pre.length < 1000000000) (hM : Mem w0 w (I0 ++ L)) :
    Calls Try.prog 30 #[.slice none 0 0, .func (.func gf) #[] lb] w (Ret fun v w' => ∃ A c, v = .slice A xs.length c ∧ Mem w0 w' (vec 3 1 A xs.length c (ints xs) :: L)) := by
  refine (callsIn_wide (n := 0)).1 ?_
  (refine callsIn_of_wp_marks Try.func30 rfl trivial ?_ rfl; simp only [Try.ntmps30, List.size_toArray, List.length_cons, List.length_nil, Nat.reduceAdd, Nat.reduceSub, Array.replicate_succ, Array.replicate_zero, List.push_toArray, List.append_toArray, List.nil_append, List.cons_append])
  gi_wp2_with (first
    | (show wpListIn _ _ _ _ _ (⟨_, Op.box _ _, _, _, _, _⟩ :: _) _ _; first | (refine wi_boxA (o := ⟨some 2, _, _, _, _, _⟩) hM rfl _ _ rfl _ rfl ?_; clear hM; intro g2 w2 hM) | (refine wi_box1 (o := ⟨some 2, _, _, _, _, _⟩) hM rfl _ _ rfl (.slice _ _ _) rfl rfl ?_; clear hM; intro g2 w2 hM))
    | (show wpListIn _ _ _ _ _ (⟨_, Op.load 35 _, _, _, _, _⟩ :: _) _ _; first | (refine wi_load1 hM rfl 35 _ rfl rfl (.slice _ _ _) rfl (by simp [go_sem]) ?_) | (refine wi_load1 hM.p1 rfl 35 _ rfl rfl (.slice _ _ _) rfl (by simp [go_sem]) ?_) | (refine wi_load1 hM.p2 rfl 35 _ rfl rfl (.slice _ _ _) rfl (by simp [go_sem]) ?_) | (refine wi_loadO hM rfl 35 _ rfl rfl (by assumption) (by simp [go_sem]) ?_))
    | (show wpListIn _ _ _ _ _ (⟨_, Op.store 35 _ _, _, _, _, _⟩ :: _) _ _; first | (refine wi_storeV hM rfl 35 _ _ rfl rfl (.slice _ _ _) rfl rfl (by simp [go_sem]) ?_; clear hM; intro wS hM) | (refine wi_storeV hM.p1 rfl 35 _ _ rfl rfl (.slice _ _ _) rfl rfl (by simp [go_sem]) ?_; clear hM; intro wS hM) | (refine wi_storeV hM.p2 rfl 35 _ _ rfl rfl (.slice _ _ _) rfl rfl (by simp [go_sem]) ?_; clear hM; intro wS hM))
    )
  have hM := (hM.vecNil 3 1).perm ((List.Perm.swap _ _ _).trans perm2.symm)
  refine wp_range (gf := gf) (lb := lb) rfl eg hit (fun x => rfl) hM (fun pre Lc => ∃ A c, Lc = blk g2 35 #[.slice A pre.length c] :: vec 3 1 A pre.length c (ints pre) :: L) (fun _ _ _ => False) ⟨none, 0, rfl⟩ ?_ ?_ ?_
  · rintro l F pre x W Lc ⟨A, c, rfl⟩ hM hnext
    have hpl := hlen _ _ hnext
    gi_wp2_with (first
      | (show wpListIn _ _ _ _ _ (⟨_, Op.box _ _, _, _, _, _⟩ :: _) _ _; first | (refine wi_boxA (o := ⟨some 2, _, _, _, _, _⟩) hM rfl _ _ rfl _ rfl ?_; clear hM; intro g2 w2 hM) | (refine wi_box1 (o := ⟨some 2, _, _, _, _, _⟩) hM rfl _ _ rfl (.slice _ _ _) rfl rfl ?_; clear hM; intro g2 w2 hM))
      | (show wpListIn _ _ _ _ _ (⟨_, Op.load 35 _, _, _, _, _⟩ :: _) _ _; first | (refine wi_load1 hM rfl 35 _ rfl rfl (.slice _ _ _) rfl (by simp [go_sem]) ?_) | (refine wi_load1 hM.p1 rfl 35 _ rfl rfl (.slice _ _ _) rfl (by simp [go_sem]) ?_) | (refine wi_load1 hM.p2 rfl 35 _ rfl rfl (.slice _ _ _) rfl (by simp [go_sem]) ?_) | (refine wi_loadO hM rfl 35 _ rfl rfl (by assumption) (by simp [go_sem]) ?_))
      | (show wpListIn _ _ _ _ _ (⟨_, Op.store 35 _ _, _, _, _, _⟩ :: _) _ _; first | (refine wi_storeV hM rfl 35 _ _ rfl rfl (.slice _ _ _) rfl rfl (by simp [go_sem]) ?_; clear hM; intro wS hM) | (refine wi_storeV hM.p1 rfl 35 _ _ rfl rfl (.slice _ _ _) rfl rfl (by simp [go_sem]) ?_; clear hM; intro wS hM) | (refine wi_storeV hM.p2 rfl 35 _ _ rfl rfl (.slice _ _ _) rfl rfl (by simp [go_sem]) ?_; clear hM; intro wS hM))
      | gi_round_op_a
      )
    refine ⟨_, hM, ?_⟩
    intro W2 F2 hM
    have hM := hM.perm perm2
    gi_wp2_with (first
      | (show wpListIn _ _ _ _ _ (⟨_, Op.buildSlice _ _ _, _, _, _, _⟩ :: _) _ _; go_must (refine wi_slice1 hM rfl 35 _ rfl (.int _ _) rfl rfl (e := 3) (by simp [go_sem]) (by simp [go_sem]) _ (Try.zeroValue3 _) rfl ?_; clear hM; intro ge wE hM))
      | (show wpListIn _ _ _ _ _ (⟨_, Op.call _, _, _, _, _⟩ :: _) _ _; go_must (refine wi_append hM.p2 rfl _ _ 35 rfl rfl rfl [.int .i64 x] (src_blk hM.head) (by simp [Value.oneCell']) (.int .i64 0) 8 rfl Try.underlying35 rfl (by omega) (by omega) (by omega) ?_; clear hM; intro A' c' wA hM))
      | (show wpListIn _ _ _ _ _ (⟨_, Op.box _ _, _, _, _, _⟩ :: _) _ _; first | (refine wi_boxA (o := ⟨some 2, _, _, _, _, _⟩) hM rfl _ _ rfl _ rfl ?_; clear hM; intro g2 w2 hM) | (refine wi_box1 (o := ⟨some 2, _, _, _, _, _⟩) hM rfl _ _ rfl (.slice _ _ _) rfl rfl ?_; clear hM; intro g2 w2 hM))
      | (show wpListIn _ _ _ _ _ (⟨_, Op.load 35 _, _, _, _, _⟩ :: _) _ _; first | (refine wi_load1 hM rfl 35 _ rfl rfl (.slice _ _ _) rfl (by simp [go_sem]) ?_) | (refine wi_load1 hM.p1 rfl 35 _ rfl rfl (.slice _ _ _) rfl (by simp [go_sem]) ?_) | (refine wi_load1 hM.p2 rfl 35 _ rfl rfl (.slice _ _ _) rfl (by simp [go_sem]) ?_) | (refine wi_loadO hM rfl 35 _ rfl rfl (by assumption) (by simp [go_sem]) ?_))
      | (show wpListIn _ _ _ _ _ (⟨_, Op.store 35 _ _, _, _, _, _⟩ :: _) _ _; first | (refine wi_storeV hM rfl 35 _ _ rfl rfl (.slice _ _ _) rfl rfl (by simp [go_sem]) ?_; clear hM; intro wS hM) | (refine wi_storeV hM.p1 rfl 35 _ _ rfl rfl (.slice _ _ _) rfl rfl (by simp [go_sem]) ?_; clear hM; intro wS hM) | (refine wi_storeV hM.p2 rfl 35 _ _ rfl rfl (.slice _ _ _) rfl rfl (by simp [go_sem]) ?_; clear hM; intro wS hM))
      | gi_round_op_a
      )
    refine ⟨_, (hM.p2.drop).perm perm2.symm, A', c', ?_⟩
    simp [ints]
  · intro D xs' W Lc hx hC hM
    subst hx
    obtain ⟨A, c, rfl⟩ := hC
    have hM := hM.p1
    gi_wp2_with (first
      | (show wpListIn _ _ _ _ _ (⟨_, Op.box _ _, _, _, _, _⟩ :: _) _ _; first | (refine wi_boxA (o := ⟨some 2, _, _, _, _, _⟩) hM rfl _ _ rfl _ rfl ?_; clear hM; intro g2 w2 hM) | (refine wi_box1 (o := ⟨some 2, _, _, _, _, _⟩) hM rfl _ _ rfl (.slice _ _ _) rfl rfl ?_; clear hM; intro g2 w2 hM))
      | (show wpListIn _ _ _ _ _ (⟨_, Op.load 35 _, _, _, _, _⟩ :: _) _ _; first | (refine wi_load1 hM rfl 35 _ rfl rfl (.slice _ _ _) rfl (by simp [go_sem]) ?_) | (refine wi_load1 hM.p1 rfl 35 _ rfl rfl (.slice _ _ _) rfl (by simp [go_sem]) ?_) | (refine wi_load1 hM.p2 rfl 35 _ rfl rfl (.slice _ _ _) rfl (by simp [go_sem]) ?_) | (refine wi_loadO hM rfl 35 _ rfl rfl (by assumption) (by simp [go_sem]) ?_))
      | (show wpListIn _ _ _ _ _ (⟨_, Op.store 35 _ _, _, _, _, _⟩ :: _) _ _; first | (refine wi_storeV hM rfl 35 _ _ rfl rfl (.slice _ _ _) rfl rfl (by simp [go_sem]) ?_; clear hM; intro wS hM) | (refine wi_storeV hM.p1 rfl 35 _ _ rfl rfl (.slice _ _ _) rfl rfl (by simp [go_sem]) ?_; clear hM; intro wS hM) | (refine wi_storeV hM.p2 rfl 35 _ _ rfl rfl (.slice _ _ _) rfl rfl (by simp [go_sem]) ?_; clear hM; intro wS hM))
      )
    refine ⟨by simp, .inl ⟨_, _, rfl, run_takeDeferred hM.p1.head, ?_⟩⟩
    exact ⟨_, results_tmp rfl _ _ _, ret_mk ⟨A, c, rfl, (hM.p1.putObj _).drop.drop⟩⟩
  · intro D c pre W Lc h; exact h.elim

theorem collect_ok {w0 w : World} {L I0 : List Res} {gf : Nat} {lb : Array Value} {Next : List Int → Int → Prop} {xs : List Int} (hit : IterOk Try.prog gf lb (fun x : Int => #[.int .i64 x]) I0 Next (fun ys => ys = xs) w0)
    (eg : ∀ args w, (callFunc gf args).run Try.prog w = .ok (.enter gf args) w) (hlen : ∀ pre x, Next pre x → pre.length < 1000000000) (hM : Mem w0 w (I0 ++ L)) :
    Calls Try.prog 24 #[.func (.func gf) #[] lb] w (Ret fun v w' => ∃ A c, v = .slice A xs.length c ∧ Mem w0 w' (vec 3 1 A xs.length c (ints xs) :: L)) := by
  go_enter Try.func24, Try.ntmps24
  go_wp2_with (first
    | (go_at_call 30; go_must (refine (appendSeq_ok hit eg hlen hM).mono ?_); rintro e wc ⟨v, rfl, A, c, rfl, hM⟩)
    )
  go_ret
  exact ret_mk ⟨A, c, rfl, hM⟩

theorem sorted_ok {w0 w : World} {L I0 : List Res} {gf : Nat} {lb : Array Value} {Next : List Int → Int → Prop} {xs : List Int} (hit : IterOk Try.prog gf lb (fun x : Int => #[.int .i64 x]) I0 Next (fun ys => ys = xs) w0)
    (eg : ∀ args w, (callFunc gf args).run Try.prog w = .ok (.enter gf args) w) (hlen : ∀ pre x, Next pre x → pre.length < 1000000000) (hl : xs.length ≤ 1000000000000) (hM : Mem w0 w (I0 ++ L)) :
    Calls Try.prog 16 #[.func (.func gf) #[] lb] w (Ret fun v w' => ∃ A c, v = .slice A (xs.mergeSort (fun x y => decide (x ≤ y))).length c ∧ Mem w0 w' (vec 3 1 A (xs.mergeSort (fun x y => decide (x ≤ y))).length c (ints (xs.mergeSort (fun x y => decide (x ≤ y)))) :: L)) := by
  go_enter Try.func16, Try.ntmps16
  go_wp2_with (first
    | (go_at_call 24; go_must (refine (collect_ok hit eg hlen hM).mono ?_); clear hM; rintro e wc ⟨v, rfl, A, c, rfl, hM⟩)
    | (go_at_call 25; go_must (refine (sort_ok hM hl).mono ?_); clear hM; rintro e wc ⟨v, rfl, rfl, hM⟩)
    )
  go_ret
  rw [(List.mergeSort_perm xs _).length_eq]
  exact ret_mk ⟨A, c, rfl, hM⟩
end Go.Proofs.Ytenaklgkbchbdaa
