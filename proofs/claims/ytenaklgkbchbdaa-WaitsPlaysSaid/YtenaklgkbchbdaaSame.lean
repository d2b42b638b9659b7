/- The comparison of the waits with the document's (same). Conditions: as each theorem says. -/
import Derived.Test.YtenaklgkbchbdaaLaw
import Derived.Test.YtenaklgkbchbdaaWaiting
set_option linter.unusedVariables false
set_option linter.unusedSimpArgs false
namespace Go.Proofs.Ytenaklgkbchbdaa
open Go.RowKit

theorem sl_of_vec {w : World} {A : Option Addr} {c : Nat} {xs : List Int} (h : (vec 3 1 A xs.length c (ints xs)).ok w) : SlI w A xs := fun j hj => by
  obtain ⟨g, o, u, rfl, hu, hc⟩ := vec_cell h (j := j) (by omega)
  have hu' : u = .int .i64 xs[j] := by
    have : (ints xs)[j]? = some (.int .i64 xs[j]) := by simp [ints, hj]
    rw [hu] at this; exact Option.some.inj this
  subst hu'
  exact ⟨g, o, _, rfl, (vec _ _ _ _ _ _).dom h g ⟨_, rfl, rfl⟩, rfl, rfl, fun q v hq => by
    rcases q with _ | q
    · injection hq with hq; rw [← hq]; simp [hc]
    · cases hq⟩

theorem ints_same (w : World) (A B : Option Addr) (c d : Nat) (xs : List Int) (hA : SlI w A xs) (hB : SlI w B xs) (hx : xs.length ≤ 1000000) :
    Calls Try.prog 21 #[.slice A xs.length c, .slice B xs.length d] w (Ret fun v w' => v = .bool true ∧ Mem w w' []) := by
  refine (ints_ok w A B c d xs xs hA hB hx hx).mono ?_
  rintro e w' ⟨v, rfl, rfl, h⟩
  exact ret_mk ⟨by simp, h⟩

set_option maxRecDepth 20000 in
set_option maxHeartbeats 4000000 in
theorem same_ok (w : World) (g n : Nat) (mv : Option Nat) (bs : List Nat) (D : Int → Option Value) (f : Int → List Int) (m : Nat → Bool) (hW : (wmap g mv n D).ok w) (hV : (valsR bs D f).ok w) (hF : OKF f m) (hn : n ≤ 1000000000000) :
    Calls Try.prog 9 #[.pointer (some ⟨g, 0, none⟩), .agg (bits 144 m)] w (Ret fun v w' => v = .bool true ∧ Mem w w' []) := by
  have hM := Mem.refl w
  have hWK : WOK w g f := wok_of hW hV
  have hB := hF.toBd
  go_enter Try.func9, Try.ntmps9
  go_wp2_with (first
    | (go_at_call 14; go_must (refine (rchain m _).mono ?_); rintro e wc ⟨v, rfl, rfl, hN⟩; replace hM := hM.trans0 hN; clear hN)
    | (show wpList _ _ _ (⟨_, Op.box _ _, _, _, _, _⟩ :: _) _ _; first | (refine wl_boxA (o := ⟨some 3, _, _, _, _, _⟩) hM rfl _ _ rfl _ rfl ?_; clear hM; intro g3 w3 hM) | (refine wl_box1 (o := ⟨some 3, _, _, _, _, _⟩) hM rfl _ _ rfl _ rfl rfl ?_; clear hM; intro g3 w3 hM))
    | (show wpList _ _ _ (⟨_, Op.alloc _, _, _, _, _⟩ :: _) _ _; first | (refine wl_allocA (o := ⟨some 5, _, _, _, _, _⟩) hM rfl _ rfl _ (zero29 _) ?_; clear hM; intro g5 w5 hM))
    | (show wpList _ _ _ (⟨_, Op.load 29 _, _, _, _, _⟩ :: _) _ _; first | (refine wl_loadW hM rfl 29 _ rfl rfl (by simp [go_sem]) (by simp [go_sem, bits_size]) ?_) | (refine wl_loadW hM.p1 rfl 29 _ rfl rfl (by simp [go_sem]) (by simp [go_sem, bits_size]) ?_) | (refine wl_loadW hM.p2 rfl 29 _ rfl rfl (by simp [go_sem]) (by simp [go_sem, bits_size]) ?_))
    | (show wpList _ _ _ (⟨_, Op.load 4 _, _, _, _, _⟩ :: _) _ _; first | (refine wl_load1 hM rfl 4 _ rfl rfl (.bool _) rfl (by simp [go_sem]) ?_) | (refine wl_load1 hM.p1 rfl 4 _ rfl rfl (.bool _) rfl (by simp [go_sem]) ?_) | (refine wl_load1 hM.p2 rfl 4 _ rfl rfl (.bool _) rfl (by simp [go_sem]) ?_) | (refine wl_loadO hM rfl 4 _ rfl rfl (by assumption) (by simp [go_sem]) ?_))
    | (show wpList _ _ _ (⟨_, Op.store 29 _ _, _, _, _, _⟩ :: _) _ _; first | (refine wl_storeW hM rfl 29 _ _ rfl rfl _ rfl (by simp [go_sem, bits_size]) (by simp [bits_size]) (by first | rfl | exact bits_one _ _) ?_; clear hM; intro wS hM) | (refine wl_storeW hM.p1 rfl 29 _ _ rfl rfl _ rfl (by simp [go_sem, bits_size]) (by simp [bits_size]) (by first | rfl | exact bits_one _ _) ?_; clear hM; intro wS hM) | (refine wl_storeW hM.p2 rfl 29 _ _ rfl rfl _ rfl (by simp [go_sem, bits_size]) (by simp [bits_size]) (by first | rfl | exact bits_one _ _) ?_; clear hM; intro wS hM))
    )
  generalize hch : chain m = mc at hM ⊢
  have HC := Lib.hid hch
  clear hch
  try go_frame
  go_loopg [6, 7] 12 (fun kq v6 v7 w' => ∃ (i : Nat) (A6 : Option Addr) (c6 : Nat), v7 = .int .i64 i ∧ i ≤ 12 ∧ kq + i = 12 ∧ v6 = .slice A6 (waitTo m i).length c6 ∧
    Mem w w' [vec 3 1 A6 (waitTo m i).length c6 (ints (waitTo m i)), blk g5 29 (bits 144 mc), blk g3 29 (bits 144 m)])
  case atStart => exact ⟨0, none, 0, rfl, by omega, by omega, rfl, hM.vecNil _ _⟩
  case round =>
    clear hM
    obtain ⟨i, A6, c6, rfl, hi, hki, rfl, hM⟩ := hrel
    obtain ⟨gk1, rfl⟩ : ∃ x, x = gk := ⟨_, rfl⟩
    have hwl := waitTo_len m i
    by_cases h : i < 12
    · have hd1 : decide ((i : Int) < 12) = true := decide_eq_true (by omega)
      go_wp2_with fail
      try go_frame
      go_loopg [8, 9, 10] 12 (fun kq v8 v9 v10 w' => ∃ (k : Nat) (A8 A9 : Option Addr) (c8 c9 : Nat), v10 = .int .i64 k ∧ k ≤ 12 ∧ kq + k = 12 ∧ v8 = .slice A8 (rowTo m i k).length c8 ∧ v9 = .slice A9 (rowTo mc i k).length c9 ∧
        Mem w w' [vec 3 1 A8 (rowTo m i k).length c8 (ints (rowTo m i k)), vec 3 1 A9 (rowTo mc i k).length c9 (ints (rowTo mc i k)), vec 3 1 A6 (waitTo m i).length c6 (ints (waitTo m i)), blk g5 29 (bits 144 mc), blk g3 29 (bits 144 m)])
      case atStart => exact ⟨0, none, none, 0, 0, rfl, by omega, by omega, rfl, rfl, (hM.vecNil _ _).vecNil _ _⟩
      case round =>
        clear hM
        obtain ⟨k, A8, A9, c8, c9, rfl, hk, hkk, rfl, rfl, hM⟩ := hrel
        have hl8 := rowTo_len m i k
        have hl9 := rowTo_len mc i k
        obtain ⟨gk2, rfl⟩ : ∃ x, x = gk := ⟨_, rfl⟩
        by_cases h2 : k < 12
        · have hd2 : decide ((k : Int) < 12) = true := decide_eq_true (by omega)
          cases h4 : m (i * 12 + k) <;> cases h5 : mc (i * 12 + k)
          all_goals
            go_wp2_with (first
              | (show wpList _ _ _ (⟨some 25, Op.load 4 _, _, _, _, _⟩ :: _) _ _; go_must (refine wl_load1 hM.p4 rfl _ _ rfl rfl (.bool _) ((bits_get 144 m (i * 12 + k) (by omega)).trans (by rw [h4])) (by simp [go_sem]) ?_))
              | (show wpList _ _ _ (⟨some 34, Op.load 4 _, _, _, _, _⟩ :: _) _ _; go_must (refine wl_load1 hM.p3 rfl _ _ rfl rfl (.bool _) ((bits_get 144 mc (i * 12 + k) (by omega)).trans (by rw [h5])) (by simp [go_sem]) ?_))
              | (show wpList _ _ _ (⟨_, Op.buildSlice _ _ _, _, _, _, _⟩ :: _) _ _; go_must (refine wl_slice1 hM rfl 35 _ rfl (.int _ _) rfl rfl (e := 3) (by simp [go_sem]) (by simp [go_sem]) _ (Try.zeroValue3 _) rfl ?_; clear hM; intro ge wE hM))
              | (show wpList _ _ _ (⟨some 29, Op.call { callee := Callee.builtin Builtin.append, args := _, argTypes := _ }, _, _, _, _⟩ :: _) _ _; go_must (refine wl_append (sz := 1) hM.p1 rfl _ _ 35 rfl rfl rfl [.int .i64 k] (src_blk hM.head) (by simp [Value.oneCell']) (.int .i64 0) 8 rfl Try.underlying35 rfl (by omega) (by omega) (by omega) ?_; clear hM; intro A8' c8' wA hM; replace hM := hM.p1.drop))
              | (show wpList _ _ _ (⟨some 38, Op.call { callee := Callee.builtin Builtin.append, args := _, argTypes := _ }, _, _, _, _⟩ :: _) _ _; go_must (refine wl_append (sz := 1) hM.p2 rfl _ _ 35 rfl rfl rfl [.int .i64 k] (src_blk hM.head) (by simp [Value.oneCell']) (.int .i64 0) 8 rfl Try.underlying35 rfl (by omega) (by omega) (by omega) ?_; clear hM; intro A9' c9' wA hM; replace hM := hM.p1.drop.p1)))
            go_roundg (gk2 - 1)
            case measure => omega
          · exact ⟨k + 1, A8, A9, c8, c9, by go_num, by omega, by omega, by simp [rowTo, h4], by simp [rowTo, h5], by simpa [rowTo, h4, h5, ints] using hM⟩
          · exact ⟨k + 1, A8, A9', c8, c9', by go_num, by omega, by omega, by simp [rowTo, h4], by simp [rowTo, h5], by simpa [rowTo, h4, h5, ints] using hM⟩
          · exact ⟨k + 1, A8', A9, c8', c9, by go_num, by omega, by omega, by simp [rowTo, h4], by simp [rowTo, h5], by simpa [rowTo, h4, h5, ints] using hM⟩
          · exact ⟨k + 1, A8', A9', c8', c9', by go_num, by omega, by omega, by simp [rowTo, h4], by simp [rowTo, h5], by simpa [rowTo, h4, h5, ints] using hM⟩
        · obtain rfl : k = 12 := by omega
          have hfi := Lib.hid (okf_row hF i h)
          have hfl : (f i).length ≤ 12 := hB.len i
          obtain ⟨R, hR⟩ : ∃ R, R = rowTo m i 12 := ⟨_, rfl⟩
          obtain ⟨C, hC⟩ : ∃ C, C = rowTo mc i 12 := ⟨_, rfl⟩
          rw [← hR] at hM hl8 hfi ⊢
          rw [← hC] at hM hl9 ⊢
          have HR := Lib.hid hR
          have HCC := Lib.hid hC
          clear hR hC
          have hrc : ∀ ss, SetOf ss (Reach f i) → ss = C := fun ss hs => by rw [HCC.out, ← HC.out]; exact okf_chain hF i h hs
          go_wp2_with (first
            | (show wpList _ _ _ (⟨_, Op.buildSlice _ _ _, _, _, _, _⟩ :: _) _ _; go_must (refine wl_slice1 hM rfl 35 _ rfl (.int _ _) rfl rfl (e := 3) (by simp [go_sem]) (by simp [go_sem]) _ (Try.zeroValue3 _) rfl ?_; clear hM; intro ge wE hM))
            | (show wpList _ _ _ (⟨some 45, Op.call { callee := Callee.builtin Builtin.append, args := _, argTypes := _ }, _, _, _, _⟩ :: _) _ _; go_must (refine wl_append (sz := 1) hM.p3 rfl _ _ 35 rfl rfl rfl [.int .i64 i] (src_blk hM.head) (by simp [Value.oneCell']) (.int .i64 0) 8 rfl Try.underlying35 rfl (by omega) (by omega) (by omega) ?_; clear hM; intro A6' c6' wA hM; replace hM := hM.p1.drop.q2))
            | (go_at_call 10; go_must (refine (for_ok _ g f (hWK.mem hM) i (by constructor <;> omega) (by omega)).mono ?_); rintro e wc ⟨v, rfl, Af, cf, rfl, hN⟩; replace hM := hM.trans1 hN; clear hN; rw [hfi.out] at hM ⊢)
            | (go_at_call 20; go_must (refine (chain_ok _ g f (hWK.mem hM) hB i (by constructor <;> omega)).mono ?_); rintro e wc ⟨v, rfl, Ac, cc, ss, rfl, hSS, hN⟩; replace hM := hM.trans1 hN; clear hN; rw [hrc ss hSS] at hM ⊢)
            | (go_at_call 21; have hSS' := hSS; refine (ints_same _ _ _ _ _ C (sl_of_vec hM.head) (sl_of_vec hM.p3.head) (by omega)).mono ?_; rintro e wc ⟨v, rfl, rfl, hN⟩; replace hM := hM.trans0 hN; clear hN)
            | (go_at_call 21; refine (ints_same _ _ _ _ _ R (sl_of_vec hM.head) (sl_of_vec hM.p1.head) (by omega)).mono ?_; rintro e wc ⟨v, rfl, rfl, hN⟩; replace hM := hM.trans0 hN; clear hN))
          · have hne : rowTo m i 12 ≠ [] := by
              rw [← HR.out]; intro e; have e0 : R.length = 0 := by rw [e]; rfl
              omega
            have hM := hM.drop.drop.drop.drop
            go_roundg (gk1 - 1)
            case measure => omega
            case rel => exact ⟨i + 1, A6', c6', by go_num, by omega, by omega, by simp [waitTo, hne], by simpa [waitTo, hne, ints] using hM⟩
          · have hne : rowTo m i 12 = [] := by
              rw [← HR.out]; exact List.eq_nil_of_length_eq_zero (by omega)
            have hM := hM.drop.drop.drop.drop
            go_roundg (gk1 - 1)
            case measure => omega
            case rel => exact ⟨i + 1, A6, c6, by go_num, by omega, by omega, by simp [waitTo, hne], by simpa [waitTo, hne, ints] using hM⟩
    · obtain rfl : i = 12 := by omega
      go_wp2_with (first
        | (go_at_call 22; go_must (refine (waiting_ok _ g n mv D (· ∈ bs) f (hM.oldok hW) (hM.oldok hV).1 hn).mono ?_); rintro e wc ⟨v, rfl, Aw, cw, ss, rfl, hK, hN⟩; replace hM := hM.trans1 hN; clear hN; rw [okf_waiting hF hK] at hM ⊢)
        | (go_at_call 21; refine (ints_same _ _ _ _ _ (waitTo m 12) (sl_of_vec hM.head) (sl_of_vec hM.p1.head) (by omega)).mono ?_; rintro e wc ⟨v, rfl, rfl, hN⟩; replace hM := hM.trans0 hN; clear hN))
      go_ret
      exact ret_mk ⟨rfl, hM.drop.drop.drop.drop⟩
end Go.Proofs.Ytenaklgkbchbdaa
