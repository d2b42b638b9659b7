/- The reference of layer 19 (waits): what its functions return. Conditions: as each theorem says. -/
import Derived.Test.YtenaklgkbchbdaaProg
import Derived.Test.YtenaklgkbchbdaaBits
import Derived.Test.YtenaklgkbchbdaaSl
import Derived.StillTailTactics
import Derived.Deep.LoopGhost
import Derived.KernelRfl
import Derived.WalkSpells
set_option linter.unusedVariables false
set_option linter.unusedSimpArgs false
namespace Go.Proofs.Ytenaklgkbchbdaa
open Go.RowKit
theorem zero29 (w : World) : (zeroValue 29).run Try.prog w = .ok (.agg (bits 144 fun _ => false)) w := by kernel_rfl

def freeM (m : Nat → Bool) (i : Nat) (k : Nat) : Bool := if k / 12 = i ∨ k % 12 = i then false else m k
def freeTo (m : Nat → Bool) (i n : Nat) (k : Nat) : Bool := if k / 12 = i ∨ k % 12 = i ∧ k / 12 < n then false else m k

set_option maxRecDepth 20000 in
theorem rfree (m : Nat → Bool) (i : Nat) (hi : i < 12) (w : World) :
    Calls Try.prog 6 #[.agg (bits 144 m), .int .i64 i] w (Ret fun v w' => v = .agg (bits 144 (freeM m i)) ∧ Mem w w' []) := by
  have hM := Mem.refl w
  go_enter Try.func6, Try.ntmps6
  go_wp2_with (first
    | (show wpList _ _ _ (⟨none, Op.store 27 _ _, _, _, _, _⟩ :: _) _ _; go_must (refine wl_storeA hM.p1 rfl _ _ _ rfl rfl (bits 12 fun _ => false) (by kernel_rfl) (by simp [go_sem, bits_size]) (by simp only [bits_size]; omega) (bits_one _ _) ?_); clear hM; intro w5 hM; rw [bits_lay _ _ _ _ _ (by omega)] at hM)
    | (show wpList _ _ _ (⟨_, Op.box _ _, _, _, _, _⟩ :: _) _ _; first | (refine wl_boxA (o := ⟨some 2, _, _, _, _, _⟩) hM rfl _ _ rfl _ rfl ?_; clear hM; intro g2 w2 hM) | (refine wl_box1 (o := ⟨some 2, _, _, _, _, _⟩) hM rfl _ _ rfl _ rfl rfl ?_; clear hM; intro g2 w2 hM))
    | (show wpList _ _ _ (⟨_, Op.alloc _, _, _, _, _⟩ :: _) _ _; first | (refine wl_allocA (o := ⟨some 4, _, _, _, _, _⟩) hM rfl _ rfl _ (zero29 _) ?_; clear hM; intro g4 w4 hM))
    | (show wpList _ _ _ (⟨_, Op.load 29 _, _, _, _, _⟩ :: _) _ _; first | (refine wl_loadW hM rfl 29 _ rfl rfl (by simp [go_sem]) (by simp [go_sem, bits_size]) ?_) | (refine wl_loadW hM.p1 rfl 29 _ rfl rfl (by simp [go_sem]) (by simp [go_sem, bits_size]) ?_) | (refine wl_loadW hM.p2 rfl 29 _ rfl rfl (by simp [go_sem]) (by simp [go_sem, bits_size]) ?_))
    | (show wpList _ _ _ (⟨_, Op.store 27 _ _, _, _, _, _⟩ :: _) _ _; first | (refine wl_storeW hM rfl 27 _ _ rfl rfl _ rfl (by simp [go_sem, bits_size]) (by simp [bits_size]) (by first | rfl | exact bits_one _ _) ?_; clear hM; intro wS hM) | (refine wl_storeW hM.p1 rfl 27 _ _ rfl rfl _ rfl (by simp [go_sem, bits_size]) (by simp [bits_size]) (by first | rfl | exact bits_one _ _) ?_; clear hM; intro wS hM) | (refine wl_storeW hM.p2 rfl 27 _ _ rfl rfl _ rfl (by simp [go_sem, bits_size]) (by simp [bits_size]) (by first | rfl | exact bits_one _ _) ?_; clear hM; intro wS hM))
    | (show wpList _ _ _ (⟨_, Op.store 4 _ _, _, _, _, _⟩ :: _) _ _; first | (refine wl_storeV hM rfl 4 _ _ rfl rfl (.bool _) rfl rfl (by simp [go_sem]) ?_; clear hM; intro wS hM) | (refine wl_storeV hM.p1 rfl 4 _ _ rfl rfl (.bool _) rfl rfl (by simp [go_sem]) ?_; clear hM; intro wS hM) | (refine wl_storeV hM.p2 rfl 4 _ _ rfl rfl (.bool _) rfl rfl (by simp [go_sem]) ?_; clear hM; intro wS hM))
    | (show wpList _ _ _ (⟨_, Op.store 29 _ _, _, _, _, _⟩ :: _) _ _; first | (refine wl_storeW hM rfl 29 _ _ rfl rfl _ rfl (by simp [go_sem, bits_size]) (by simp [bits_size]) (by first | rfl | exact bits_one _ _) ?_; clear hM; intro wS hM) | (refine wl_storeW hM.p1 rfl 29 _ _ rfl rfl _ rfl (by simp [go_sem, bits_size]) (by simp [bits_size]) (by first | rfl | exact bits_one _ _) ?_; clear hM; intro wS hM) | (refine wl_storeW hM.p2 rfl 29 _ _ rfl rfl _ rfl (by simp [go_sem, bits_size]) (by simp [bits_size]) (by first | rfl | exact bits_one _ _) ?_; clear hM; intro wS hM))
    )
  go_loopg [5] (12 : Nat) (fun kq v5 w' => ∃ n : Nat, v5 = .int .i64 n ∧ n ≤ 12 ∧ kq + n = 12 ∧ Mem w w' [blk g2 29 (bits 144 (freeTo m i n)), blk g4 29 (bits 144 fun _ => false)])
  case atStart =>
    refine ⟨0, rfl, by omega, by omega, ?_⟩
    rw [bits_congr (m' := freeTo m i 0)] at hM
    · exact hM
    · intro j hj; simp only [freeTo]; by_cases h : i * 12 ≤ j ∧ j < i * 12 + 12
      · rw [if_pos h, if_pos (by omega)]
      · rw [if_neg h, if_neg (by omega)]
  case round =>
    obtain ⟨n, rfl, hn, hk, hM⟩ := hrel
    by_cases h : n < 12
    · go_wp2_with (first
        | (show wpList _ _ _ (⟨none, Op.store 4 _ _, _, _, _, _⟩ :: _) _ _; go_must (refine wl_store1 hM rfl _ _ _ rfl rfl (.bool _) rfl rfl (by simp [go_sem]) (by simp only [bits_size]; omega) ?_); clear hM; intro w6 hM; go_must (rw [bits_set _ _ _ _ (by omega)] at hM))
        | (show wpList _ _ _ (⟨_, Op.box _ _, _, _, _, _⟩ :: _) _ _; first | (refine wl_boxA (o := ⟨some 2, _, _, _, _, _⟩) hM rfl _ _ rfl _ rfl ?_; clear hM; intro g2 w2 hM) | (refine wl_box1 (o := ⟨some 2, _, _, _, _, _⟩) hM rfl _ _ rfl _ rfl rfl ?_; clear hM; intro g2 w2 hM))
        | (show wpList _ _ _ (⟨_, Op.alloc _, _, _, _, _⟩ :: _) _ _; first | (refine wl_allocA (o := ⟨some 4, _, _, _, _, _⟩) hM rfl _ rfl _ (zero29 _) ?_; clear hM; intro g4 w4 hM))
        | (show wpList _ _ _ (⟨_, Op.load 29 _, _, _, _, _⟩ :: _) _ _; first | (refine wl_loadW hM rfl 29 _ rfl rfl (by simp [go_sem]) (by simp [go_sem, bits_size]) ?_) | (refine wl_loadW hM.p1 rfl 29 _ rfl rfl (by simp [go_sem]) (by simp [go_sem, bits_size]) ?_) | (refine wl_loadW hM.p2 rfl 29 _ rfl rfl (by simp [go_sem]) (by simp [go_sem, bits_size]) ?_))
        | (show wpList _ _ _ (⟨_, Op.store 27 _ _, _, _, _, _⟩ :: _) _ _; first | (refine wl_storeW hM rfl 27 _ _ rfl rfl _ rfl (by simp [go_sem, bits_size]) (by simp [bits_size]) (by first | rfl | exact bits_one _ _) ?_; clear hM; intro wS hM) | (refine wl_storeW hM.p1 rfl 27 _ _ rfl rfl _ rfl (by simp [go_sem, bits_size]) (by simp [bits_size]) (by first | rfl | exact bits_one _ _) ?_; clear hM; intro wS hM) | (refine wl_storeW hM.p2 rfl 27 _ _ rfl rfl _ rfl (by simp [go_sem, bits_size]) (by simp [bits_size]) (by first | rfl | exact bits_one _ _) ?_; clear hM; intro wS hM))
        | (show wpList _ _ _ (⟨_, Op.store 4 _ _, _, _, _, _⟩ :: _) _ _; first | (refine wl_storeV hM rfl 4 _ _ rfl rfl (.bool _) rfl rfl (by simp [go_sem]) ?_; clear hM; intro wS hM) | (refine wl_storeV hM.p1 rfl 4 _ _ rfl rfl (.bool _) rfl rfl (by simp [go_sem]) ?_; clear hM; intro wS hM) | (refine wl_storeV hM.p2 rfl 4 _ _ rfl rfl (.bool _) rfl rfl (by simp [go_sem]) ?_; clear hM; intro wS hM))
        | (show wpList _ _ _ (⟨_, Op.store 29 _ _, _, _, _, _⟩ :: _) _ _; first | (refine wl_storeW hM rfl 29 _ _ rfl rfl _ rfl (by simp [go_sem, bits_size]) (by simp [bits_size]) (by first | rfl | exact bits_one _ _) ?_; clear hM; intro wS hM) | (refine wl_storeW hM.p1 rfl 29 _ _ rfl rfl _ rfl (by simp [go_sem, bits_size]) (by simp [bits_size]) (by first | rfl | exact bits_one _ _) ?_; clear hM; intro wS hM) | (refine wl_storeW hM.p2 rfl 29 _ _ rfl rfl _ rfl (by simp [go_sem, bits_size]) (by simp [bits_size]) (by first | rfl | exact bits_one _ _) ?_; clear hM; intro wS hM))
        )
      go_roundg (gk - 1)
      case measure => omega
      case rel =>
        refine ⟨n + 1, by go_num, by omega, by omega, ?_⟩
        rw [bits_congr (m' := freeTo m i (n + 1))] at hM
        · exact hM
        · intro j hj; simp only [freeTo]
          by_cases h1 : j = n * 12 + i
          · rw [if_pos h1, if_pos (by omega)]
          · rw [if_neg h1]
            by_cases h2 : j / 12 = i ∨ j % 12 = i ∧ j / 12 < n
            · rw [if_pos h2, if_pos (by omega)]
            · rw [if_neg h2, if_neg (by omega)]
    · go_wp2_with (first
        | (show wpList _ _ _ (⟨_, Op.box _ _, _, _, _, _⟩ :: _) _ _; first | (refine wl_boxA (o := ⟨some 2, _, _, _, _, _⟩) hM rfl _ _ rfl _ rfl ?_; clear hM; intro g2 w2 hM) | (refine wl_box1 (o := ⟨some 2, _, _, _, _, _⟩) hM rfl _ _ rfl _ rfl rfl ?_; clear hM; intro g2 w2 hM))
        | (show wpList _ _ _ (⟨_, Op.alloc _, _, _, _, _⟩ :: _) _ _; first | (refine wl_allocA (o := ⟨some 4, _, _, _, _, _⟩) hM rfl _ rfl _ (zero29 _) ?_; clear hM; intro g4 w4 hM))
        | (show wpList _ _ _ (⟨_, Op.load 29 _, _, _, _, _⟩ :: _) _ _; first | (refine wl_loadW hM rfl 29 _ rfl rfl (by simp [go_sem]) (by simp [go_sem, bits_size]) ?_) | (refine wl_loadW hM.p1 rfl 29 _ rfl rfl (by simp [go_sem]) (by simp [go_sem, bits_size]) ?_) | (refine wl_loadW hM.p2 rfl 29 _ rfl rfl (by simp [go_sem]) (by simp [go_sem, bits_size]) ?_))
        | (show wpList _ _ _ (⟨_, Op.store 27 _ _, _, _, _, _⟩ :: _) _ _; first | (refine wl_storeW hM rfl 27 _ _ rfl rfl _ rfl (by simp [go_sem, bits_size]) (by simp [bits_size]) (by first | rfl | exact bits_one _ _) ?_; clear hM; intro wS hM) | (refine wl_storeW hM.p1 rfl 27 _ _ rfl rfl _ rfl (by simp [go_sem, bits_size]) (by simp [bits_size]) (by first | rfl | exact bits_one _ _) ?_; clear hM; intro wS hM) | (refine wl_storeW hM.p2 rfl 27 _ _ rfl rfl _ rfl (by simp [go_sem, bits_size]) (by simp [bits_size]) (by first | rfl | exact bits_one _ _) ?_; clear hM; intro wS hM))
        | (show wpList _ _ _ (⟨_, Op.store 4 _ _, _, _, _, _⟩ :: _) _ _; first | (refine wl_storeV hM rfl 4 _ _ rfl rfl (.bool _) rfl rfl (by simp [go_sem]) ?_; clear hM; intro wS hM) | (refine wl_storeV hM.p1 rfl 4 _ _ rfl rfl (.bool _) rfl rfl (by simp [go_sem]) ?_; clear hM; intro wS hM) | (refine wl_storeV hM.p2 rfl 4 _ _ rfl rfl (.bool _) rfl rfl (by simp [go_sem]) ?_; clear hM; intro wS hM))
        | (show wpList _ _ _ (⟨_, Op.store 29 _ _, _, _, _, _⟩ :: _) _ _; first | (refine wl_storeW hM rfl 29 _ _ rfl rfl _ rfl (by simp [go_sem, bits_size]) (by simp [bits_size]) (by first | rfl | exact bits_one _ _) ?_; clear hM; intro wS hM) | (refine wl_storeW hM.p1 rfl 29 _ _ rfl rfl _ rfl (by simp [go_sem, bits_size]) (by simp [bits_size]) (by first | rfl | exact bits_one _ _) ?_; clear hM; intro wS hM) | (refine wl_storeW hM.p2 rfl 29 _ _ rfl rfl _ rfl (by simp [go_sem, bits_size]) (by simp [bits_size]) (by first | rfl | exact bits_one _ _) ?_; clear hM; intro wS hM))
        )
      refine bodyPost_ret (results_cell_row rfl _ _ g4 29 _ (0, 0) _ rfl hM.head Try.underlying29 rfl (by kernel_rfl)) rfl (ret_mk ⟨?_, hM.drop.drop⟩)
      rw [bits_congr (m' := freeM m i)]
      intro j hj
      simp only [freeTo, freeM]
      by_cases h2 : j / 12 = i ∨ j % 12 = i
      · rw [if_pos h2, if_pos (by omega)]
      · rw [if_neg h2, if_neg (by omega)]

/-- One step of the closure by way of a middle. -/
def chStep (m : Nat → Bool) (q i k : Nat) : Nat → Bool := fun j => if j = i * 12 + k then (m j || (m (i * 12 + q) && m (q * 12 + k))) else m j
/-- .. in the order of the loops: k innermost. -/
def chRow (m : Nat → Bool) (q i : Nat) : Nat → (Nat → Bool)
  | 0 => m
  | k + 1 => chStep (chRow m q i k) q i k
def chAll (m : Nat → Bool) (q : Nat) : Nat → (Nat → Bool)
  | 0 => m
  | i + 1 => chRow (chAll m q i) q i 12
def chTo (m : Nat → Bool) : Nat → (Nat → Bool)
  | 0 => m
  | q + 1 => chAll (chTo m q) q 12
def chain (m : Nat → Bool) : Nat → Bool := chTo m 12

theorem chStep_get (m : Nat → Bool) (q i k : Nat) : (fun j => if j = i * 12 + k then true else m j) = chStep m q i k ∨ (m (i * 12 + q) && m (q * 12 + k)) = false := by
  cases h : (m (i * 12 + q) && m (q * 12 + k)) with
  | false => exact .inr rfl
  | true => left; funext j; simp [chStep, h]
theorem chStep_no {m : Nat → Bool} {q i k : Nat} (h : (m (i * 12 + q) && m (q * 12 + k)) = false) : chStep m q i k = m := by
  funext j; simp only [chStep, h, Bool.or_false]; split <;> simp_all
theorem chStep_yes {m : Nat → Bool} {q i k : Nat} (h : (m (i * 12 + q) && m (q * 12 + k)) = true) : chStep m q i k = fun j => if j = i * 12 + k then true else m j := by
  funext j; simp [chStep, h]
set_option maxRecDepth 20000 in
set_option maxHeartbeats 1000000 in
theorem rchain (m : Nat → Bool) (w : World) :
    Calls Try.prog 14 #[.agg (bits 144 m)] w (Ret fun v w' => v = .agg (bits 144 (chain m)) ∧ Mem w w' []) := by
  have hM := Mem.refl w
  go_enter Try.func14, Try.ntmps14
  go_wp2_with (first
    | (show wpList _ _ _ (⟨_, Op.box _ _, _, _, _, _⟩ :: _) _ _; first | (refine wl_boxA (o := ⟨some 1, _, _, _, _, _⟩) hM rfl _ _ rfl _ rfl ?_; clear hM; intro g1 w1 hM) | (refine wl_box1 (o := ⟨some 1, _, _, _, _, _⟩) hM rfl _ _ rfl _ rfl rfl ?_; clear hM; intro g1 w1 hM))
    | (show wpList _ _ _ (⟨_, Op.alloc _, _, _, _, _⟩ :: _) _ _; first | (refine wl_allocA (o := ⟨some 2, _, _, _, _, _⟩) hM rfl _ rfl _ (zero29 _) ?_; clear hM; intro g2 w2 hM))
    | (show wpList _ _ _ (⟨_, Op.load 4 _, _, _, _, _⟩ :: _) _ _; first | (refine wl_load1 hM rfl 4 _ rfl rfl (.bool _) rfl (by simp [go_sem]) ?_) | (refine wl_load1 hM.p1 rfl 4 _ rfl rfl (.bool _) rfl (by simp [go_sem]) ?_) | (refine wl_load1 hM.p2 rfl 4 _ rfl rfl (.bool _) rfl (by simp [go_sem]) ?_) | (refine wl_loadO hM rfl 4 _ rfl rfl (by assumption) (by simp [go_sem]) ?_))
    | (show wpList _ _ _ (⟨_, Op.load 29 _, _, _, _, _⟩ :: _) _ _; first | (refine wl_loadW hM rfl 29 _ rfl rfl (by simp [go_sem]) (by simp [go_sem, bits_size]) ?_) | (refine wl_loadW hM.p1 rfl 29 _ rfl rfl (by simp [go_sem]) (by simp [go_sem, bits_size]) ?_) | (refine wl_loadW hM.p2 rfl 29 _ rfl rfl (by simp [go_sem]) (by simp [go_sem, bits_size]) ?_))
    | (show wpList _ _ _ (⟨_, Op.store 4 _ _, _, _, _, _⟩ :: _) _ _; first | (refine wl_storeV hM rfl 4 _ _ rfl rfl (.bool _) rfl rfl (by simp [go_sem]) ?_; clear hM; intro wS hM) | (refine wl_storeV hM.p1 rfl 4 _ _ rfl rfl (.bool _) rfl rfl (by simp [go_sem]) ?_; clear hM; intro wS hM) | (refine wl_storeV hM.p2 rfl 4 _ _ rfl rfl (.bool _) rfl rfl (by simp [go_sem]) ?_; clear hM; intro wS hM))
    | (show wpList _ _ _ (⟨_, Op.store 29 _ _, _, _, _, _⟩ :: _) _ _; first | (refine wl_storeW hM rfl 29 _ _ rfl rfl _ rfl (by simp [go_sem, bits_size]) (by simp [bits_size]) (by first | rfl | exact bits_one _ _) ?_; clear hM; intro wS hM) | (refine wl_storeW hM.p1 rfl 29 _ _ rfl rfl _ rfl (by simp [go_sem, bits_size]) (by simp [bits_size]) (by first | rfl | exact bits_one _ _) ?_; clear hM; intro wS hM) | (refine wl_storeW hM.p2 rfl 29 _ _ rfl rfl _ rfl (by simp [go_sem, bits_size]) (by simp [bits_size]) (by first | rfl | exact bits_one _ _) ?_; clear hM; intro wS hM))
    )
  go_loopg [3] (12 : Nat) (fun kq v3 w' => ∃ q : Nat, v3 = .int .i64 q ∧ q ≤ 12 ∧ kq + q = 12 ∧ Mem w w' [blk g1 29 (bits 144 (chTo m q)), blk g2 29 (bits 144 fun _ => false)])
  case atStart => exact ⟨0, rfl, by omega, by omega, hM.p1⟩
  case round =>
    clear hM
    obtain ⟨q, rfl, hq, hkq, hM⟩ := hrel
    obtain ⟨gk1, rfl⟩ : ∃ x, x = gk := ⟨_, rfl⟩
    by_cases h : q < 12
    · have hd1 : decide ((q : Int) < 12) = true := decide_eq_true (by omega)
      go_wp2_with (first
        | (show wpList _ _ _ (⟨_, Op.box _ _, _, _, _, _⟩ :: _) _ _; first | (refine wl_boxA (o := ⟨some 1, _, _, _, _, _⟩) hM rfl _ _ rfl _ rfl ?_; clear hM; intro g1 w1 hM) | (refine wl_box1 (o := ⟨some 1, _, _, _, _, _⟩) hM rfl _ _ rfl _ rfl rfl ?_; clear hM; intro g1 w1 hM))
        | (show wpList _ _ _ (⟨_, Op.alloc _, _, _, _, _⟩ :: _) _ _; first | (refine wl_allocA (o := ⟨some 2, _, _, _, _, _⟩) hM rfl _ rfl _ (zero29 _) ?_; clear hM; intro g2 w2 hM))
        | (show wpList _ _ _ (⟨_, Op.load 4 _, _, _, _, _⟩ :: _) _ _; first | (refine wl_load1 hM rfl 4 _ rfl rfl (.bool _) rfl (by simp [go_sem]) ?_) | (refine wl_load1 hM.p1 rfl 4 _ rfl rfl (.bool _) rfl (by simp [go_sem]) ?_) | (refine wl_load1 hM.p2 rfl 4 _ rfl rfl (.bool _) rfl (by simp [go_sem]) ?_) | (refine wl_loadO hM rfl 4 _ rfl rfl (by assumption) (by simp [go_sem]) ?_))
        | (show wpList _ _ _ (⟨_, Op.load 29 _, _, _, _, _⟩ :: _) _ _; first | (refine wl_loadW hM rfl 29 _ rfl rfl (by simp [go_sem]) (by simp [go_sem, bits_size]) ?_) | (refine wl_loadW hM.p1 rfl 29 _ rfl rfl (by simp [go_sem]) (by simp [go_sem, bits_size]) ?_) | (refine wl_loadW hM.p2 rfl 29 _ rfl rfl (by simp [go_sem]) (by simp [go_sem, bits_size]) ?_))
        | (show wpList _ _ _ (⟨_, Op.store 4 _ _, _, _, _, _⟩ :: _) _ _; first | (refine wl_storeV hM rfl 4 _ _ rfl rfl (.bool _) rfl rfl (by simp [go_sem]) ?_; clear hM; intro wS hM) | (refine wl_storeV hM.p1 rfl 4 _ _ rfl rfl (.bool _) rfl rfl (by simp [go_sem]) ?_; clear hM; intro wS hM) | (refine wl_storeV hM.p2 rfl 4 _ _ rfl rfl (.bool _) rfl rfl (by simp [go_sem]) ?_; clear hM; intro wS hM))
        | (show wpList _ _ _ (⟨_, Op.store 29 _ _, _, _, _, _⟩ :: _) _ _; first | (refine wl_storeW hM rfl 29 _ _ rfl rfl _ rfl (by simp [go_sem, bits_size]) (by simp [bits_size]) (by first | rfl | exact bits_one _ _) ?_; clear hM; intro wS hM) | (refine wl_storeW hM.p1 rfl 29 _ _ rfl rfl _ rfl (by simp [go_sem, bits_size]) (by simp [bits_size]) (by first | rfl | exact bits_one _ _) ?_; clear hM; intro wS hM) | (refine wl_storeW hM.p2 rfl 29 _ _ rfl rfl _ rfl (by simp [go_sem, bits_size]) (by simp [bits_size]) (by first | rfl | exact bits_one _ _) ?_; clear hM; intro wS hM))
        )
      go_loopg [4] (12 : Nat) (fun kq v4 w' => ∃ i : Nat, v4 = .int .i64 i ∧ i ≤ 12 ∧ kq + i = 12 ∧ Mem w w' [blk g1 29 (bits 144 (chAll (chTo m q) q i)), blk g2 29 (bits 144 fun _ => false)])
      case atStart => exact ⟨0, rfl, by omega, by omega, hM⟩
      case round =>
        clear hM
        obtain ⟨i, rfl, hi, hki, hM⟩ := hrel
        obtain ⟨gk2, rfl⟩ : ∃ x, x = gk := ⟨_, rfl⟩
        by_cases h2 : i < 12
        · have hd2 : decide ((i : Int) < 12) = true := decide_eq_true (by omega)
          go_wp2_with (first
            | (show wpList _ _ _ (⟨_, Op.box _ _, _, _, _, _⟩ :: _) _ _; first | (refine wl_boxA (o := ⟨some 1, _, _, _, _, _⟩) hM rfl _ _ rfl _ rfl ?_; clear hM; intro g1 w1 hM) | (refine wl_box1 (o := ⟨some 1, _, _, _, _, _⟩) hM rfl _ _ rfl _ rfl rfl ?_; clear hM; intro g1 w1 hM))
            | (show wpList _ _ _ (⟨_, Op.alloc _, _, _, _, _⟩ :: _) _ _; first | (refine wl_allocA (o := ⟨some 2, _, _, _, _, _⟩) hM rfl _ rfl _ (zero29 _) ?_; clear hM; intro g2 w2 hM))
            | (show wpList _ _ _ (⟨_, Op.load 4 _, _, _, _, _⟩ :: _) _ _; first | (refine wl_load1 hM rfl 4 _ rfl rfl (.bool _) rfl (by simp [go_sem]) ?_) | (refine wl_load1 hM.p1 rfl 4 _ rfl rfl (.bool _) rfl (by simp [go_sem]) ?_) | (refine wl_load1 hM.p2 rfl 4 _ rfl rfl (.bool _) rfl (by simp [go_sem]) ?_) | (refine wl_loadO hM rfl 4 _ rfl rfl (by assumption) (by simp [go_sem]) ?_))
            | (show wpList _ _ _ (⟨_, Op.load 29 _, _, _, _, _⟩ :: _) _ _; first | (refine wl_loadW hM rfl 29 _ rfl rfl (by simp [go_sem]) (by simp [go_sem, bits_size]) ?_) | (refine wl_loadW hM.p1 rfl 29 _ rfl rfl (by simp [go_sem]) (by simp [go_sem, bits_size]) ?_) | (refine wl_loadW hM.p2 rfl 29 _ rfl rfl (by simp [go_sem]) (by simp [go_sem, bits_size]) ?_))
            | (show wpList _ _ _ (⟨_, Op.store 4 _ _, _, _, _, _⟩ :: _) _ _; first | (refine wl_storeV hM rfl 4 _ _ rfl rfl (.bool _) rfl rfl (by simp [go_sem]) ?_; clear hM; intro wS hM) | (refine wl_storeV hM.p1 rfl 4 _ _ rfl rfl (.bool _) rfl rfl (by simp [go_sem]) ?_; clear hM; intro wS hM) | (refine wl_storeV hM.p2 rfl 4 _ _ rfl rfl (.bool _) rfl rfl (by simp [go_sem]) ?_; clear hM; intro wS hM))
            | (show wpList _ _ _ (⟨_, Op.store 29 _ _, _, _, _, _⟩ :: _) _ _; first | (refine wl_storeW hM rfl 29 _ _ rfl rfl _ rfl (by simp [go_sem, bits_size]) (by simp [bits_size]) (by first | rfl | exact bits_one _ _) ?_; clear hM; intro wS hM) | (refine wl_storeW hM.p1 rfl 29 _ _ rfl rfl _ rfl (by simp [go_sem, bits_size]) (by simp [bits_size]) (by first | rfl | exact bits_one _ _) ?_; clear hM; intro wS hM) | (refine wl_storeW hM.p2 rfl 29 _ _ rfl rfl _ rfl (by simp [go_sem, bits_size]) (by simp [bits_size]) (by first | rfl | exact bits_one _ _) ?_; clear hM; intro wS hM))
            )
          go_loopg [5] (12 : Nat) (fun kq v5 w' => ∃ k : Nat, v5 = .int .i64 k ∧ k ≤ 12 ∧ kq + k = 12 ∧ Mem w w' [blk g1 29 (bits 144 (chRow (chAll (chTo m q) q i) q i k)), blk g2 29 (bits 144 fun _ => false)])
          case atStart => exact ⟨0, rfl, by omega, by omega, hM⟩
          case round =>
            clear hM
            obtain ⟨k, rfl, hk, hkk, hM⟩ := hrel
            by_cases h3 : k < 12
            · generalize hm : chRow (chAll (chTo m q) q i) q i k = mm at hM
              have H := Lib.hid hm; clear hm
              cases h4 : mm (i * 12 + q) with
              | false =>
                go_wp2_with (first
                  | (show wpList _ _ _ (⟨_, Op.load 4 _, _, _, _, _⟩ :: _) _ _; go_must (refine wl_load1 hM rfl _ _ rfl rfl (.bool (mm (i * 12 + q))) (bits_get _ _ _ (by omega)) (by simp [go_sem]) ?_))
                  | (show wpList _ _ _ (⟨_, Op.box _ _, _, _, _, _⟩ :: _) _ _; first | (refine wl_boxA (o := ⟨some 1, _, _, _, _, _⟩) hM rfl _ _ rfl _ rfl ?_; clear hM; intro g1 w1 hM) | (refine wl_box1 (o := ⟨some 1, _, _, _, _, _⟩) hM rfl _ _ rfl _ rfl rfl ?_; clear hM; intro g1 w1 hM))
                  | (show wpList _ _ _ (⟨_, Op.alloc _, _, _, _, _⟩ :: _) _ _; first | (refine wl_allocA (o := ⟨some 2, _, _, _, _, _⟩) hM rfl _ rfl _ (zero29 _) ?_; clear hM; intro g2 w2 hM))
                  | (show wpList _ _ _ (⟨_, Op.load 4 _, _, _, _, _⟩ :: _) _ _; first | (refine wl_load1 hM rfl 4 _ rfl rfl (.bool _) rfl (by simp [go_sem]) ?_) | (refine wl_load1 hM.p1 rfl 4 _ rfl rfl (.bool _) rfl (by simp [go_sem]) ?_) | (refine wl_load1 hM.p2 rfl 4 _ rfl rfl (.bool _) rfl (by simp [go_sem]) ?_) | (refine wl_loadO hM rfl 4 _ rfl rfl (by assumption) (by simp [go_sem]) ?_))
                  | (show wpList _ _ _ (⟨_, Op.load 29 _, _, _, _, _⟩ :: _) _ _; first | (refine wl_loadW hM rfl 29 _ rfl rfl (by simp [go_sem]) (by simp [go_sem, bits_size]) ?_) | (refine wl_loadW hM.p1 rfl 29 _ rfl rfl (by simp [go_sem]) (by simp [go_sem, bits_size]) ?_) | (refine wl_loadW hM.p2 rfl 29 _ rfl rfl (by simp [go_sem]) (by simp [go_sem, bits_size]) ?_))
                  | (show wpList _ _ _ (⟨_, Op.store 4 _ _, _, _, _, _⟩ :: _) _ _; first | (refine wl_storeV hM rfl 4 _ _ rfl rfl (.bool _) rfl rfl (by simp [go_sem]) ?_; clear hM; intro wS hM) | (refine wl_storeV hM.p1 rfl 4 _ _ rfl rfl (.bool _) rfl rfl (by simp [go_sem]) ?_; clear hM; intro wS hM) | (refine wl_storeV hM.p2 rfl 4 _ _ rfl rfl (.bool _) rfl rfl (by simp [go_sem]) ?_; clear hM; intro wS hM))
                  | (show wpList _ _ _ (⟨_, Op.store 29 _ _, _, _, _, _⟩ :: _) _ _; first | (refine wl_storeW hM rfl 29 _ _ rfl rfl _ rfl (by simp [go_sem, bits_size]) (by simp [bits_size]) (by first | rfl | exact bits_one _ _) ?_; clear hM; intro wS hM) | (refine wl_storeW hM.p1 rfl 29 _ _ rfl rfl _ rfl (by simp [go_sem, bits_size]) (by simp [bits_size]) (by first | rfl | exact bits_one _ _) ?_; clear hM; intro wS hM) | (refine wl_storeW hM.p2 rfl 29 _ _ rfl rfl _ rfl (by simp [go_sem, bits_size]) (by simp [bits_size]) (by first | rfl | exact bits_one _ _) ?_; clear hM; intro wS hM))
                  )
                go_roundg (gk - 1)
                case measure => omega
                case rel =>
                  refine ⟨k + 1, by go_num, by omega, by omega, ?_⟩
                  show Mem _ _ [blk _ _ (bits 144 (chStep (chRow (chAll (chTo m q) q i) q i k) q i k)), _]
                  rw [H.out, chStep_no (by simp [h4])]; exact hM
              | true =>
                cases h5 : mm (q * 12 + k) with
                | false =>
                  go_wp2_with (first
                    | (show wpList _ _ _ (⟨_, Op.load 4 _, _, _, _, _⟩ :: _) _ _; first | (refine wl_load1 hM rfl _ (.tmp 21) rfl rfl (.bool (mm (i * 12 + q))) (bits_get _ _ _ (by omega)) (by simp [go_sem]) ?_) | (refine wl_load1 hM rfl _ (.tmp 27) rfl rfl (.bool (mm (q * 12 + k))) (bits_get _ _ _ (by omega)) (by simp [go_sem]) ?_))
                    | (show wpList _ _ _ (⟨_, Op.box _ _, _, _, _, _⟩ :: _) _ _; first | (refine wl_boxA (o := ⟨some 1, _, _, _, _, _⟩) hM rfl _ _ rfl _ rfl ?_; clear hM; intro g1 w1 hM) | (refine wl_box1 (o := ⟨some 1, _, _, _, _, _⟩) hM rfl _ _ rfl _ rfl rfl ?_; clear hM; intro g1 w1 hM))
                    | (show wpList _ _ _ (⟨_, Op.alloc _, _, _, _, _⟩ :: _) _ _; first | (refine wl_allocA (o := ⟨some 2, _, _, _, _, _⟩) hM rfl _ rfl _ (zero29 _) ?_; clear hM; intro g2 w2 hM))
                    | (show wpList _ _ _ (⟨_, Op.load 4 _, _, _, _, _⟩ :: _) _ _; first | (refine wl_load1 hM rfl 4 _ rfl rfl (.bool _) rfl (by simp [go_sem]) ?_) | (refine wl_load1 hM.p1 rfl 4 _ rfl rfl (.bool _) rfl (by simp [go_sem]) ?_) | (refine wl_load1 hM.p2 rfl 4 _ rfl rfl (.bool _) rfl (by simp [go_sem]) ?_) | (refine wl_loadO hM rfl 4 _ rfl rfl (by assumption) (by simp [go_sem]) ?_))
                    | (show wpList _ _ _ (⟨_, Op.load 29 _, _, _, _, _⟩ :: _) _ _; first | (refine wl_loadW hM rfl 29 _ rfl rfl (by simp [go_sem]) (by simp [go_sem, bits_size]) ?_) | (refine wl_loadW hM.p1 rfl 29 _ rfl rfl (by simp [go_sem]) (by simp [go_sem, bits_size]) ?_) | (refine wl_loadW hM.p2 rfl 29 _ rfl rfl (by simp [go_sem]) (by simp [go_sem, bits_size]) ?_))
                    | (show wpList _ _ _ (⟨_, Op.store 4 _ _, _, _, _, _⟩ :: _) _ _; first | (refine wl_storeV hM rfl 4 _ _ rfl rfl (.bool _) rfl rfl (by simp [go_sem]) ?_; clear hM; intro wS hM) | (refine wl_storeV hM.p1 rfl 4 _ _ rfl rfl (.bool _) rfl rfl (by simp [go_sem]) ?_; clear hM; intro wS hM) | (refine wl_storeV hM.p2 rfl 4 _ _ rfl rfl (.bool _) rfl rfl (by simp [go_sem]) ?_; clear hM; intro wS hM))
                    | (show wpList _ _ _ (⟨_, Op.store 29 _ _, _, _, _, _⟩ :: _) _ _; first | (refine wl_storeW hM rfl 29 _ _ rfl rfl _ rfl (by simp [go_sem, bits_size]) (by simp [bits_size]) (by first | rfl | exact bits_one _ _) ?_; clear hM; intro wS hM) | (refine wl_storeW hM.p1 rfl 29 _ _ rfl rfl _ rfl (by simp [go_sem, bits_size]) (by simp [bits_size]) (by first | rfl | exact bits_one _ _) ?_; clear hM; intro wS hM) | (refine wl_storeW hM.p2 rfl 29 _ _ rfl rfl _ rfl (by simp [go_sem, bits_size]) (by simp [bits_size]) (by first | rfl | exact bits_one _ _) ?_; clear hM; intro wS hM))
                    )
                  go_roundg (gk - 1)
                  case measure => omega
                  case rel =>
                    refine ⟨k + 1, by go_num, by omega, by omega, ?_⟩
                    show Mem _ _ [blk _ _ (bits 144 (chStep (chRow (chAll (chTo m q) q i) q i k) q i k)), _]
                    rw [H.out, chStep_no (by simp [h5])]; exact hM
                | true =>
                  go_wp2_with (first
                    | (show wpList _ _ _ (⟨_, Op.load 4 _, _, _, _, _⟩ :: _) _ _; first | (refine wl_load1 hM rfl _ (.tmp 21) rfl rfl (.bool (mm (i * 12 + q))) (bits_get _ _ _ (by omega)) (by simp [go_sem]) ?_) | (refine wl_load1 hM rfl _ (.tmp 27) rfl rfl (.bool (mm (q * 12 + k))) (bits_get _ _ _ (by omega)) (by simp [go_sem]) ?_))
                    | (show wpList _ _ _ (⟨none, Op.store 4 _ _, _, _, _, _⟩ :: _) _ _; go_must (refine wl_store1 hM rfl _ _ _ rfl rfl (.bool _) rfl rfl (by simp [go_sem]) (by simp only [bits_size]; omega) ?_); clear hM; intro w6 hM; go_must (rw [bits_set _ _ _ _ (by omega)] at hM))
                    | (show wpList _ _ _ (⟨_, Op.box _ _, _, _, _, _⟩ :: _) _ _; first | (refine wl_boxA (o := ⟨some 1, _, _, _, _, _⟩) hM rfl _ _ rfl _ rfl ?_; clear hM; intro g1 w1 hM) | (refine wl_box1 (o := ⟨some 1, _, _, _, _, _⟩) hM rfl _ _ rfl _ rfl rfl ?_; clear hM; intro g1 w1 hM))
                    | (show wpList _ _ _ (⟨_, Op.alloc _, _, _, _, _⟩ :: _) _ _; first | (refine wl_allocA (o := ⟨some 2, _, _, _, _, _⟩) hM rfl _ rfl _ (zero29 _) ?_; clear hM; intro g2 w2 hM))
                    | (show wpList _ _ _ (⟨_, Op.load 4 _, _, _, _, _⟩ :: _) _ _; first | (refine wl_load1 hM rfl 4 _ rfl rfl (.bool _) rfl (by simp [go_sem]) ?_) | (refine wl_load1 hM.p1 rfl 4 _ rfl rfl (.bool _) rfl (by simp [go_sem]) ?_) | (refine wl_load1 hM.p2 rfl 4 _ rfl rfl (.bool _) rfl (by simp [go_sem]) ?_) | (refine wl_loadO hM rfl 4 _ rfl rfl (by assumption) (by simp [go_sem]) ?_))
                    | (show wpList _ _ _ (⟨_, Op.load 29 _, _, _, _, _⟩ :: _) _ _; first | (refine wl_loadW hM rfl 29 _ rfl rfl (by simp [go_sem]) (by simp [go_sem, bits_size]) ?_) | (refine wl_loadW hM.p1 rfl 29 _ rfl rfl (by simp [go_sem]) (by simp [go_sem, bits_size]) ?_) | (refine wl_loadW hM.p2 rfl 29 _ rfl rfl (by simp [go_sem]) (by simp [go_sem, bits_size]) ?_))
                    | (show wpList _ _ _ (⟨_, Op.store 4 _ _, _, _, _, _⟩ :: _) _ _; first | (refine wl_storeV hM rfl 4 _ _ rfl rfl (.bool _) rfl rfl (by simp [go_sem]) ?_; clear hM; intro wS hM) | (refine wl_storeV hM.p1 rfl 4 _ _ rfl rfl (.bool _) rfl rfl (by simp [go_sem]) ?_; clear hM; intro wS hM) | (refine wl_storeV hM.p2 rfl 4 _ _ rfl rfl (.bool _) rfl rfl (by simp [go_sem]) ?_; clear hM; intro wS hM))
                    | (show wpList _ _ _ (⟨_, Op.store 29 _ _, _, _, _, _⟩ :: _) _ _; first | (refine wl_storeW hM rfl 29 _ _ rfl rfl _ rfl (by simp [go_sem, bits_size]) (by simp [bits_size]) (by first | rfl | exact bits_one _ _) ?_; clear hM; intro wS hM) | (refine wl_storeW hM.p1 rfl 29 _ _ rfl rfl _ rfl (by simp [go_sem, bits_size]) (by simp [bits_size]) (by first | rfl | exact bits_one _ _) ?_; clear hM; intro wS hM) | (refine wl_storeW hM.p2 rfl 29 _ _ rfl rfl _ rfl (by simp [go_sem, bits_size]) (by simp [bits_size]) (by first | rfl | exact bits_one _ _) ?_; clear hM; intro wS hM))
                    )
                  go_roundg (gk - 1)
                  case measure => omega
                  case rel =>
                    refine ⟨k + 1, by go_num, by omega, by omega, ?_⟩
                    show Mem _ _ [blk _ _ (bits 144 (chStep (chRow (chAll (chTo m q) q i) q i k) q i k)), _]
                    rw [H.out, chStep_yes (by simp [h4, h5])]; exact hM
            · obtain rfl : k = 12 := by omega
              go_wp2_with (first
                | (show wpList _ _ _ (⟨_, Op.box _ _, _, _, _, _⟩ :: _) _ _; first | (refine wl_boxA (o := ⟨some 1, _, _, _, _, _⟩) hM rfl _ _ rfl _ rfl ?_; clear hM; intro g1 w1 hM) | (refine wl_box1 (o := ⟨some 1, _, _, _, _, _⟩) hM rfl _ _ rfl _ rfl rfl ?_; clear hM; intro g1 w1 hM))
                | (show wpList _ _ _ (⟨_, Op.alloc _, _, _, _, _⟩ :: _) _ _; first | (refine wl_allocA (o := ⟨some 2, _, _, _, _, _⟩) hM rfl _ rfl _ (zero29 _) ?_; clear hM; intro g2 w2 hM))
                | (show wpList _ _ _ (⟨_, Op.load 4 _, _, _, _, _⟩ :: _) _ _; first | (refine wl_load1 hM rfl 4 _ rfl rfl (.bool _) rfl (by simp [go_sem]) ?_) | (refine wl_load1 hM.p1 rfl 4 _ rfl rfl (.bool _) rfl (by simp [go_sem]) ?_) | (refine wl_load1 hM.p2 rfl 4 _ rfl rfl (.bool _) rfl (by simp [go_sem]) ?_) | (refine wl_loadO hM rfl 4 _ rfl rfl (by assumption) (by simp [go_sem]) ?_))
                | (show wpList _ _ _ (⟨_, Op.load 29 _, _, _, _, _⟩ :: _) _ _; first | (refine wl_loadW hM rfl 29 _ rfl rfl (by simp [go_sem]) (by simp [go_sem, bits_size]) ?_) | (refine wl_loadW hM.p1 rfl 29 _ rfl rfl (by simp [go_sem]) (by simp [go_sem, bits_size]) ?_) | (refine wl_loadW hM.p2 rfl 29 _ rfl rfl (by simp [go_sem]) (by simp [go_sem, bits_size]) ?_))
                | (show wpList _ _ _ (⟨_, Op.store 4 _ _, _, _, _, _⟩ :: _) _ _; first | (refine wl_storeV hM rfl 4 _ _ rfl rfl (.bool _) rfl rfl (by simp [go_sem]) ?_; clear hM; intro wS hM) | (refine wl_storeV hM.p1 rfl 4 _ _ rfl rfl (.bool _) rfl rfl (by simp [go_sem]) ?_; clear hM; intro wS hM) | (refine wl_storeV hM.p2 rfl 4 _ _ rfl rfl (.bool _) rfl rfl (by simp [go_sem]) ?_; clear hM; intro wS hM))
                | (show wpList _ _ _ (⟨_, Op.store 29 _ _, _, _, _, _⟩ :: _) _ _; first | (refine wl_storeW hM rfl 29 _ _ rfl rfl _ rfl (by simp [go_sem, bits_size]) (by simp [bits_size]) (by first | rfl | exact bits_one _ _) ?_; clear hM; intro wS hM) | (refine wl_storeW hM.p1 rfl 29 _ _ rfl rfl _ rfl (by simp [go_sem, bits_size]) (by simp [bits_size]) (by first | rfl | exact bits_one _ _) ?_; clear hM; intro wS hM) | (refine wl_storeW hM.p2 rfl 29 _ _ rfl rfl _ rfl (by simp [go_sem, bits_size]) (by simp [bits_size]) (by first | rfl | exact bits_one _ _) ?_; clear hM; intro wS hM))
                )
              go_roundg (gk2 - 1)
              case measure => omega
              case rel => exact ⟨i + 1, by go_num, by omega, by omega, hM⟩
        · obtain rfl : i = 12 := by omega
          go_wp2_with (first
            | (show wpList _ _ _ (⟨_, Op.box _ _, _, _, _, _⟩ :: _) _ _; first | (refine wl_boxA (o := ⟨some 1, _, _, _, _, _⟩) hM rfl _ _ rfl _ rfl ?_; clear hM; intro g1 w1 hM) | (refine wl_box1 (o := ⟨some 1, _, _, _, _, _⟩) hM rfl _ _ rfl _ rfl rfl ?_; clear hM; intro g1 w1 hM))
            | (show wpList _ _ _ (⟨_, Op.alloc _, _, _, _, _⟩ :: _) _ _; first | (refine wl_allocA (o := ⟨some 2, _, _, _, _, _⟩) hM rfl _ rfl _ (zero29 _) ?_; clear hM; intro g2 w2 hM))
            | (show wpList _ _ _ (⟨_, Op.load 4 _, _, _, _, _⟩ :: _) _ _; first | (refine wl_load1 hM rfl 4 _ rfl rfl (.bool _) rfl (by simp [go_sem]) ?_) | (refine wl_load1 hM.p1 rfl 4 _ rfl rfl (.bool _) rfl (by simp [go_sem]) ?_) | (refine wl_load1 hM.p2 rfl 4 _ rfl rfl (.bool _) rfl (by simp [go_sem]) ?_) | (refine wl_loadO hM rfl 4 _ rfl rfl (by assumption) (by simp [go_sem]) ?_))
            | (show wpList _ _ _ (⟨_, Op.load 29 _, _, _, _, _⟩ :: _) _ _; first | (refine wl_loadW hM rfl 29 _ rfl rfl (by simp [go_sem]) (by simp [go_sem, bits_size]) ?_) | (refine wl_loadW hM.p1 rfl 29 _ rfl rfl (by simp [go_sem]) (by simp [go_sem, bits_size]) ?_) | (refine wl_loadW hM.p2 rfl 29 _ rfl rfl (by simp [go_sem]) (by simp [go_sem, bits_size]) ?_))
            | (show wpList _ _ _ (⟨_, Op.store 4 _ _, _, _, _, _⟩ :: _) _ _; first | (refine wl_storeV hM rfl 4 _ _ rfl rfl (.bool _) rfl rfl (by simp [go_sem]) ?_; clear hM; intro wS hM) | (refine wl_storeV hM.p1 rfl 4 _ _ rfl rfl (.bool _) rfl rfl (by simp [go_sem]) ?_; clear hM; intro wS hM) | (refine wl_storeV hM.p2 rfl 4 _ _ rfl rfl (.bool _) rfl rfl (by simp [go_sem]) ?_; clear hM; intro wS hM))
            | (show wpList _ _ _ (⟨_, Op.store 29 _ _, _, _, _, _⟩ :: _) _ _; first | (refine wl_storeW hM rfl 29 _ _ rfl rfl _ rfl (by simp [go_sem, bits_size]) (by simp [bits_size]) (by first | rfl | exact bits_one _ _) ?_; clear hM; intro wS hM) | (refine wl_storeW hM.p1 rfl 29 _ _ rfl rfl _ rfl (by simp [go_sem, bits_size]) (by simp [bits_size]) (by first | rfl | exact bits_one _ _) ?_; clear hM; intro wS hM) | (refine wl_storeW hM.p2 rfl 29 _ _ rfl rfl _ rfl (by simp [go_sem, bits_size]) (by simp [bits_size]) (by first | rfl | exact bits_one _ _) ?_; clear hM; intro wS hM))
            )
          go_roundg (gk1 - 1)
          case measure => omega
          case rel => exact ⟨q + 1, by go_num, by omega, by omega, hM⟩
    · obtain rfl : q = 12 := by omega
      go_wp2_with (first
        | (show wpList _ _ _ (⟨_, Op.box _ _, _, _, _, _⟩ :: _) _ _; first | (refine wl_boxA (o := ⟨some 1, _, _, _, _, _⟩) hM rfl _ _ rfl _ rfl ?_; clear hM; intro g1 w1 hM) | (refine wl_box1 (o := ⟨some 1, _, _, _, _, _⟩) hM rfl _ _ rfl _ rfl rfl ?_; clear hM; intro g1 w1 hM))
        | (show wpList _ _ _ (⟨_, Op.alloc _, _, _, _, _⟩ :: _) _ _; first | (refine wl_allocA (o := ⟨some 2, _, _, _, _, _⟩) hM rfl _ rfl _ (zero29 _) ?_; clear hM; intro g2 w2 hM))
        | (show wpList _ _ _ (⟨_, Op.load 4 _, _, _, _, _⟩ :: _) _ _; first | (refine wl_load1 hM rfl 4 _ rfl rfl (.bool _) rfl (by simp [go_sem]) ?_) | (refine wl_load1 hM.p1 rfl 4 _ rfl rfl (.bool _) rfl (by simp [go_sem]) ?_) | (refine wl_load1 hM.p2 rfl 4 _ rfl rfl (.bool _) rfl (by simp [go_sem]) ?_) | (refine wl_loadO hM rfl 4 _ rfl rfl (by assumption) (by simp [go_sem]) ?_))
        | (show wpList _ _ _ (⟨_, Op.load 29 _, _, _, _, _⟩ :: _) _ _; first | (refine wl_loadW hM rfl 29 _ rfl rfl (by simp [go_sem]) (by simp [go_sem, bits_size]) ?_) | (refine wl_loadW hM.p1 rfl 29 _ rfl rfl (by simp [go_sem]) (by simp [go_sem, bits_size]) ?_) | (refine wl_loadW hM.p2 rfl 29 _ rfl rfl (by simp [go_sem]) (by simp [go_sem, bits_size]) ?_))
        | (show wpList _ _ _ (⟨_, Op.store 4 _ _, _, _, _, _⟩ :: _) _ _; first | (refine wl_storeV hM rfl 4 _ _ rfl rfl (.bool _) rfl rfl (by simp [go_sem]) ?_; clear hM; intro wS hM) | (refine wl_storeV hM.p1 rfl 4 _ _ rfl rfl (.bool _) rfl rfl (by simp [go_sem]) ?_; clear hM; intro wS hM) | (refine wl_storeV hM.p2 rfl 4 _ _ rfl rfl (.bool _) rfl rfl (by simp [go_sem]) ?_; clear hM; intro wS hM))
        | (show wpList _ _ _ (⟨_, Op.store 29 _ _, _, _, _, _⟩ :: _) _ _; first | (refine wl_storeW hM rfl 29 _ _ rfl rfl _ rfl (by simp [go_sem, bits_size]) (by simp [bits_size]) (by first | rfl | exact bits_one _ _) ?_; clear hM; intro wS hM) | (refine wl_storeW hM.p1 rfl 29 _ _ rfl rfl _ rfl (by simp [go_sem, bits_size]) (by simp [bits_size]) (by first | rfl | exact bits_one _ _) ?_; clear hM; intro wS hM) | (refine wl_storeW hM.p2 rfl 29 _ _ rfl rfl _ rfl (by simp [go_sem, bits_size]) (by simp [bits_size]) (by first | rfl | exact bits_one _ _) ?_; clear hM; intro wS hM))
        )
      refine bodyPost_ret (results_cell_row rfl _ _ g2 29 _ (0, 0) _ rfl hM.head Try.underlying29 rfl (by kernel_rfl)) rfl (ret_mk ⟨?_, hM.drop.drop⟩)
      rfl

def waitV (m : Nat → Bool) (i : Nat) (l : List Int) : Nat → Bool := fun j => if i * 12 ≤ j ∧ j < i * 12 + 12 then l.contains ((j - i * 12 : Nat) : Int) else m j
def waitM (m : Nat → Bool) (i : Nat) (l : List Int) : (Nat → Bool) × Bool := if chain (waitV m i l) (i * 12 + i) then (m, false) else (waitV m i l, true)
theorem waitV_step (m : Nat → Bool) (i : Nat) (l : List Int) (n : Nat) (hn : n < l.length) (hx : 0 ≤ l[n] ∧ l[n] < 12) :
    (fun j => if j = i * 12 + l[n].toNat then true else waitV m i (l.take n) j) = waitV m i (l.take (n + 1)) := by
  funext j
  rw [List.take_succ_eq_append_getElem hn]
  simp only [waitV]
  by_cases h : i * 12 ≤ j ∧ j < i * 12 + 12
  · rw [if_pos h, if_pos h, List.contains_append]
    by_cases e : j = i * 12 + l[n].toNat
    · rw [if_pos e]
      have : ((j - i * 12 : Nat) : Int) = l[n] := by omega
      rw [this]; simp
    · rw [if_neg e]
      have : ¬ ((j - i * 12 : Nat) : Int) = l[n] := by omega
      simp [this]
  · rw [if_neg h, if_neg h, if_neg (by omega)]

set_option maxRecDepth 20000 in
set_option maxHeartbeats 1000000 in
theorem rwait (m : Nat → Bool) (i : Nat) (hi : i < 12) (A : Option Addr) (c : Nat) (l : List Int) (w : World) (hS : SlI w A l) (hl : ∀ x ∈ l, 0 ≤ x ∧ x < 12) (hlen : l.length ≤ 1000) :
    Calls Try.prog 7 #[.agg (bits 144 m), .int .i64 i, .slice A l.length c] w
      (Ret fun v w' => v = .tuple #[.agg (bits 144 (waitM m i l).1), .bool (waitM m i l).2] ∧ Mem w w' []) := by
  have hM := Mem.refl w
  go_enter Try.func7, Try.ntmps7
  go_wp2_with (first
    | (show wpList _ _ _ (⟨none, Op.store 27 _ _, _, _, _, _⟩ :: _) _ _; go_must (refine wl_storeA hM rfl _ _ _ rfl rfl (bits 12 fun _ => false) (by kernel_rfl) (by simp [go_sem, bits_size]) (by simp only [bits_size]; omega) (bits_one _ _) ?_); clear hM; intro w5 hM; rw [bits_lay _ _ _ _ _ (by omega)] at hM)
    | (show wpList _ _ _ (⟨_, Op.box _ _, _, _, _, _⟩ :: _) _ _; first | (refine wl_boxA (o := ⟨some 3, _, _, _, _, _⟩) hM rfl _ _ rfl _ rfl ?_; clear hM; intro g3 w3 hM) | (refine wl_box1 (o := ⟨some 3, _, _, _, _, _⟩) hM rfl _ _ rfl _ rfl rfl ?_; clear hM; intro g3 w3 hM))
    | (show wpList _ _ _ (⟨_, Op.alloc _, _, _, _, _⟩ :: _) _ _; first | (refine wl_allocA (o := ⟨some 6, _, _, _, _, _⟩) hM rfl _ rfl _ (zero29 _) ?_; clear hM; intro g6 w6 hM) | (refine wl_allocA (o := ⟨some 8, _, _, _, _, _⟩) hM rfl _ rfl _ (zero29 _) ?_; clear hM; intro g8 w8 hM))
    | (show wpList _ _ _ (⟨_, Op.load 29 _, _, _, _, _⟩ :: _) _ _; first | (refine wl_loadW hM rfl 29 _ rfl rfl (by simp [go_sem]) (by simp [go_sem, bits_size]) ?_) | (refine wl_loadW hM.p1 rfl 29 _ rfl rfl (by simp [go_sem]) (by simp [go_sem, bits_size]) ?_) | (refine wl_loadW hM.p2 rfl 29 _ rfl rfl (by simp [go_sem]) (by simp [go_sem, bits_size]) ?_))
    | (show wpList _ _ _ (⟨_, Op.store 29 _ _, _, _, _, _⟩ :: _) _ _; first | (refine wl_storeW hM rfl 29 _ _ rfl rfl _ rfl (by simp [go_sem, bits_size]) (by simp [bits_size]) (by first | rfl | exact bits_one _ _) ?_; clear hM; intro wS hM) | (refine wl_storeW hM.p1 rfl 29 _ _ rfl rfl _ rfl (by simp [go_sem, bits_size]) (by simp [bits_size]) (by first | rfl | exact bits_one _ _) ?_; clear hM; intro wS hM) | (refine wl_storeW hM.p2 rfl 29 _ _ rfl rfl _ rfl (by simp [go_sem, bits_size]) (by simp [bits_size]) (by first | rfl | exact bits_one _ _) ?_; clear hM; intro wS hM))
    | (show wpList _ _ _ (⟨_, Op.store 27 _ _, _, _, _, _⟩ :: _) _ _; first | (refine wl_storeW hM rfl 27 _ _ rfl rfl _ rfl (by simp [go_sem, bits_size]) (by simp [bits_size]) (by first | rfl | exact bits_one _ _) ?_; clear hM; intro wS hM) | (refine wl_storeW hM.p1 rfl 27 _ _ rfl rfl _ rfl (by simp [go_sem, bits_size]) (by simp [bits_size]) (by first | rfl | exact bits_one _ _) ?_; clear hM; intro wS hM) | (refine wl_storeW hM.p2 rfl 27 _ _ rfl rfl _ rfl (by simp [go_sem, bits_size]) (by simp [bits_size]) (by first | rfl | exact bits_one _ _) ?_; clear hM; intro wS hM))
    )
  rw [show (fun j => if i * 12 ≤ j ∧ j < i * 12 + 12 then false else m j) = waitV m i (l.take 0) from by
    funext j; simp only [waitV, List.take_zero, List.contains_nil]] at hM
  go_loopg [9] l.length (fun kq v9 w' => ∃ n : Nat, v9 = .int .i64 n ∧ n ≤ l.length ∧ kq + n = l.length ∧ Mem w w' [blk g8 29 (bits 144 (waitV m i (l.take n))), blk g6 29 (bits 144 fun _ => false), blk g3 29 (bits 144 m)])
  case atStart => exact ⟨0, rfl, by omega, by omega, hM⟩
  case round =>
    clear hM
    obtain ⟨n, rfl, hn, hk, hM⟩ := hrel
    by_cases h : n < l.length
    · obtain ⟨b, of, rfl, hb, hc⟩ := hS.at_ h
      have hx := hl l[n] (List.getElem_mem h)
      obtain ⟨x, hX⟩ : ∃ x, x = l[n] := ⟨_, rfl⟩
      have hX' := Lib.hid hX
      rw [← hX] at hc hx
      clear hX
      have hc' := (hM.below.cell (p := ⟨b, of + n, none⟩) hb).trans hc
      clear hc hS
      go_wp2_with fail
      have hi' : (i : Int) < 12 := by omega
      obtain ⟨hx0, hx1⟩ := hx
      go_still_tail 7, (by kernel_rfl)
      change wpList _ _ _ _ _ wr.drew
      have hM := hM.drew
      generalize wr.drew = wd at hM ⊢
      go_wp2_with (first
        | (show wpList _ _ _ (⟨none, Op.store 4 _ _, _, _, _, _⟩ :: _) _ _; go_must (refine wl_store1 hM rfl _ _ _ rfl rfl (.bool _) rfl rfl (by simp [go_sem]) (by simp only [bits_size]; omega) ?_); clear hM; intro w6 hM; go_must (rw [bits_set _ _ _ _ (by omega)] at hM))
        | (show wpList _ _ _ (⟨_, Op.box _ _, _, _, _, _⟩ :: _) _ _; first | (refine wl_boxA (o := ⟨some 3, _, _, _, _, _⟩) hM rfl _ _ rfl _ rfl ?_; clear hM; intro g3 w3 hM) | (refine wl_box1 (o := ⟨some 3, _, _, _, _, _⟩) hM rfl _ _ rfl _ rfl rfl ?_; clear hM; intro g3 w3 hM))
        | (show wpList _ _ _ (⟨_, Op.alloc _, _, _, _, _⟩ :: _) _ _; first | (refine wl_allocA (o := ⟨some 6, _, _, _, _, _⟩) hM rfl _ rfl _ (zero29 _) ?_; clear hM; intro g6 w6 hM) | (refine wl_allocA (o := ⟨some 8, _, _, _, _, _⟩) hM rfl _ rfl _ (zero29 _) ?_; clear hM; intro g8 w8 hM))
        | (show wpList _ _ _ (⟨_, Op.load 29 _, _, _, _, _⟩ :: _) _ _; first | (refine wl_loadW hM rfl 29 _ rfl rfl (by simp [go_sem]) (by simp [go_sem, bits_size]) ?_) | (refine wl_loadW hM.p1 rfl 29 _ rfl rfl (by simp [go_sem]) (by simp [go_sem, bits_size]) ?_) | (refine wl_loadW hM.p2 rfl 29 _ rfl rfl (by simp [go_sem]) (by simp [go_sem, bits_size]) ?_))
        | (show wpList _ _ _ (⟨_, Op.store 29 _ _, _, _, _, _⟩ :: _) _ _; first | (refine wl_storeW hM rfl 29 _ _ rfl rfl _ rfl (by simp [go_sem, bits_size]) (by simp [bits_size]) (by first | rfl | exact bits_one _ _) ?_; clear hM; intro wS hM) | (refine wl_storeW hM.p1 rfl 29 _ _ rfl rfl _ rfl (by simp [go_sem, bits_size]) (by simp [bits_size]) (by first | rfl | exact bits_one _ _) ?_; clear hM; intro wS hM) | (refine wl_storeW hM.p2 rfl 29 _ _ rfl rfl _ rfl (by simp [go_sem, bits_size]) (by simp [bits_size]) (by first | rfl | exact bits_one _ _) ?_; clear hM; intro wS hM))
        | (show wpList _ _ _ (⟨_, Op.store 27 _ _, _, _, _, _⟩ :: _) _ _; first | (refine wl_storeW hM rfl 27 _ _ rfl rfl _ rfl (by simp [go_sem, bits_size]) (by simp [bits_size]) (by first | rfl | exact bits_one _ _) ?_; clear hM; intro wS hM) | (refine wl_storeW hM.p1 rfl 27 _ _ rfl rfl _ rfl (by simp [go_sem, bits_size]) (by simp [bits_size]) (by first | rfl | exact bits_one _ _) ?_; clear hM; intro wS hM) | (refine wl_storeW hM.p2 rfl 27 _ _ rfl rfl _ rfl (by simp [go_sem, bits_size]) (by simp [bits_size]) (by first | rfl | exact bits_one _ _) ?_; clear hM; intro wS hM))
        )
      go_roundg (gk - 1)
      case measure => omega
      case rel =>
        refine ⟨n + 1, by go_num, by omega, by omega, ?_⟩
        rw [← waitV_step m i l n h (by rw [← hX'.out]; exact ⟨hx0, hx1⟩), ← hX'.out]
        exact hM
    · obtain rfl : n = l.length := by omega
      rw [List.take_length] at hM
      cases hc : chain (waitV m i l) (i * 12 + i) with
      | true =>
        go_wp2_with (first
          | (go_at_call 14; refine (rchain _ _).mono ?_; rintro e wc ⟨v, rfl, rfl, hN⟩; replace hM := hM.trans0 hN; clear hN)
          | (refine wl_indexA rfl 29 _ _ rfl _ rfl _ _ rfl 12 27 (by simp [go_sem]) (by omega) 12 (by simp [go_sem]) (by simp [go_sem]) ?_; rw [bits_extract _ _ _ _ (by omega)])
          | (refine wl_index1 rfl 27 _ _ rfl _ rfl _ _ rfl 12 4 (by simp [go_sem]) (by omega) (by simp [go_sem]) (by simp [go_sem]) (.bool true) ((bits_get _ _ _ (by omega)).trans (by rw [hc])) ?_)
          | (show wpList _ _ _ (⟨_, Op.box _ _, _, _, _, _⟩ :: _) _ _; first | (refine wl_boxA (o := ⟨some 3, _, _, _, _, _⟩) hM rfl _ _ rfl _ rfl ?_; clear hM; intro g3 w3 hM) | (refine wl_box1 (o := ⟨some 3, _, _, _, _, _⟩) hM rfl _ _ rfl _ rfl rfl ?_; clear hM; intro g3 w3 hM))
          | (show wpList _ _ _ (⟨_, Op.alloc _, _, _, _, _⟩ :: _) _ _; first | (refine wl_allocA (o := ⟨some 6, _, _, _, _, _⟩) hM rfl _ rfl _ (zero29 _) ?_; clear hM; intro g6 w6 hM) | (refine wl_allocA (o := ⟨some 8, _, _, _, _, _⟩) hM rfl _ rfl _ (zero29 _) ?_; clear hM; intro g8 w8 hM))
          | (show wpList _ _ _ (⟨_, Op.load 29 _, _, _, _, _⟩ :: _) _ _; first | (refine wl_loadW hM rfl 29 _ rfl rfl (by simp [go_sem]) (by simp [go_sem, bits_size]) ?_) | (refine wl_loadW hM.p1 rfl 29 _ rfl rfl (by simp [go_sem]) (by simp [go_sem, bits_size]) ?_) | (refine wl_loadW hM.p2 rfl 29 _ rfl rfl (by simp [go_sem]) (by simp [go_sem, bits_size]) ?_))
          | (show wpList _ _ _ (⟨_, Op.store 29 _ _, _, _, _, _⟩ :: _) _ _; first | (refine wl_storeW hM rfl 29 _ _ rfl rfl _ rfl (by simp [go_sem, bits_size]) (by simp [bits_size]) (by first | rfl | exact bits_one _ _) ?_; clear hM; intro wS hM) | (refine wl_storeW hM.p1 rfl 29 _ _ rfl rfl _ rfl (by simp [go_sem, bits_size]) (by simp [bits_size]) (by first | rfl | exact bits_one _ _) ?_; clear hM; intro wS hM) | (refine wl_storeW hM.p2 rfl 29 _ _ rfl rfl _ rfl (by simp [go_sem, bits_size]) (by simp [bits_size]) (by first | rfl | exact bits_one _ _) ?_; clear hM; intro wS hM))
          | (show wpList _ _ _ (⟨_, Op.store 27 _ _, _, _, _, _⟩ :: _) _ _; first | (refine wl_storeW hM rfl 27 _ _ rfl rfl _ rfl (by simp [go_sem, bits_size]) (by simp [bits_size]) (by first | rfl | exact bits_one _ _) ?_; clear hM; intro wS hM) | (refine wl_storeW hM.p1 rfl 27 _ _ rfl rfl _ rfl (by simp [go_sem, bits_size]) (by simp [bits_size]) (by first | rfl | exact bits_one _ _) ?_; clear hM; intro wS hM) | (refine wl_storeW hM.p2 rfl 27 _ _ rfl rfl _ rfl (by simp [go_sem, bits_size]) (by simp [bits_size]) (by first | rfl | exact bits_one _ _) ?_; clear hM; intro wS hM))
          )
        refine bp_cell_tmp hM rfl rfl (by simp [go_sem]) (by simp [go_sem, bits_size]) (.bool false) rfl rfl (ret_mk ⟨?_, hM.drop.drop.drop⟩)
        simp [waitM, hc]
      | false =>
        go_wp2_with (first
          | (go_at_call 14; refine (rchain _ _).mono ?_; rintro e wc ⟨v, rfl, rfl, hN⟩; replace hM := hM.trans0 hN; clear hN)
          | (refine wl_indexA rfl 29 _ _ rfl _ rfl _ _ rfl 12 27 (by simp [go_sem]) (by omega) 12 (by simp [go_sem]) (by simp [go_sem]) ?_; rw [bits_extract _ _ _ _ (by omega)])
          | (refine wl_index1 rfl 27 _ _ rfl _ rfl _ _ rfl 12 4 (by simp [go_sem]) (by omega) (by simp [go_sem]) (by simp [go_sem]) (.bool false) ((bits_get _ _ _ (by omega)).trans (by rw [hc])) ?_)
          | (show wpList _ _ _ (⟨_, Op.box _ _, _, _, _, _⟩ :: _) _ _; first | (refine wl_boxA (o := ⟨some 3, _, _, _, _, _⟩) hM rfl _ _ rfl _ rfl ?_; clear hM; intro g3 w3 hM) | (refine wl_box1 (o := ⟨some 3, _, _, _, _, _⟩) hM rfl _ _ rfl _ rfl rfl ?_; clear hM; intro g3 w3 hM))
          | (show wpList _ _ _ (⟨_, Op.alloc _, _, _, _, _⟩ :: _) _ _; first | (refine wl_allocA (o := ⟨some 6, _, _, _, _, _⟩) hM rfl _ rfl _ (zero29 _) ?_; clear hM; intro g6 w6 hM) | (refine wl_allocA (o := ⟨some 8, _, _, _, _, _⟩) hM rfl _ rfl _ (zero29 _) ?_; clear hM; intro g8 w8 hM))
          | (show wpList _ _ _ (⟨_, Op.load 29 _, _, _, _, _⟩ :: _) _ _; first | (refine wl_loadW hM rfl 29 _ rfl rfl (by simp [go_sem]) (by simp [go_sem, bits_size]) ?_) | (refine wl_loadW hM.p1 rfl 29 _ rfl rfl (by simp [go_sem]) (by simp [go_sem, bits_size]) ?_) | (refine wl_loadW hM.p2 rfl 29 _ rfl rfl (by simp [go_sem]) (by simp [go_sem, bits_size]) ?_))
          | (show wpList _ _ _ (⟨_, Op.store 29 _ _, _, _, _, _⟩ :: _) _ _; first | (refine wl_storeW hM rfl 29 _ _ rfl rfl _ rfl (by simp [go_sem, bits_size]) (by simp [bits_size]) (by first | rfl | exact bits_one _ _) ?_; clear hM; intro wS hM) | (refine wl_storeW hM.p1 rfl 29 _ _ rfl rfl _ rfl (by simp [go_sem, bits_size]) (by simp [bits_size]) (by first | rfl | exact bits_one _ _) ?_; clear hM; intro wS hM) | (refine wl_storeW hM.p2 rfl 29 _ _ rfl rfl _ rfl (by simp [go_sem, bits_size]) (by simp [bits_size]) (by first | rfl | exact bits_one _ _) ?_; clear hM; intro wS hM))
          | (show wpList _ _ _ (⟨_, Op.store 27 _ _, _, _, _, _⟩ :: _) _ _; first | (refine wl_storeW hM rfl 27 _ _ rfl rfl _ rfl (by simp [go_sem, bits_size]) (by simp [bits_size]) (by first | rfl | exact bits_one _ _) ?_; clear hM; intro wS hM) | (refine wl_storeW hM.p1 rfl 27 _ _ rfl rfl _ rfl (by simp [go_sem, bits_size]) (by simp [bits_size]) (by first | rfl | exact bits_one _ _) ?_; clear hM; intro wS hM) | (refine wl_storeW hM.p2 rfl 27 _ _ rfl rfl _ rfl (by simp [go_sem, bits_size]) (by simp [bits_size]) (by first | rfl | exact bits_one _ _) ?_; clear hM; intro wS hM))
          )
        refine bp_cell_tmp hM rfl rfl (by simp [go_sem]) (by simp [go_sem, bits_size]) (.bool true) rfl rfl (ret_mk ⟨?_, hM.drop.drop.drop⟩)
        simp [waitM, hc]
end Go.Proofs.Ytenaklgkbchbdaa
