/- The law (WaitsPlays): it returns true. Conditions: as each theorem says. -/
import Derived.Test.YtenaklgkbchbdaaAlive
import Derived.Deep.CutRange
import Derived.Deep.DeepCutAuto
set_option linter.unusedVariables false
set_option linter.unusedSimpArgs false
namespace Go.Proofs.Ytenaklgkbchbdaa
open Go.RowKit

/-- The j-th operation of the argument: its kind, its saga, its list, as cells of the world w. -/
def OpAt (w : World) (b o j : Nat) : Prop :=
  ∃ (kd I : Int) (A : Option Addr) (n c : Nat), w.cell? ⟨b, o + j * 3, none⟩ = some (.int .u8 kd) ∧ w.cell? ⟨b, o + j * 3 + 1, none⟩ = some (.int .u8 I) ∧ w.cell? ⟨b, o + j * 3 + 2, none⟩ = some (.slice A n c) ∧
    (0 ≤ kd ∧ kd ≤ 255) ∧ (0 ≤ I ∧ I ≤ 255) ∧ ∀ q, q < n → ∃ (b' o' : Nat) (x : Int), A = some ⟨b', o', none⟩ ∧ w.cell? ⟨b', o' + q, none⟩ = some (.int .u8 x) ∧ 0 ≤ x ∧ x ≤ 255

theorem okf_wait2 {f : Int → List Int} {m : Nat → Bool} (h : OKF f m) (i : Nat) (hi : i < 12) (l : List Int) (hl : ∀ x ∈ l, 0 ≤ x ∧ x < 12) : OKF (if (waitM m i l).2 then updF f i (setL l) else f) (waitM m i l).1 := by
  unfold waitM
  cases hc : chain (waitV m i l) (i * 12 + i) with
  | true => simpa using h
  | false => simpa using okf_wait h i hi l hl
theorem ok_eq {f : Int → List Int} {m : Nat → Bool} (h : OKF f m) (i : Nat) (hi : i < 12) (l : List Int) (hl : ∀ x ∈ l, 0 ≤ x ∧ x < 12) {ok : Bool} (hok : ok = true ↔ ¬ Reach (updF f i (setL l)) i i) : ok = (waitM m i l).2 := by
  have hr := chain_reach (okf_wait h i hi l hl) i i hi hi
  unfold waitM
  cases hc : chain (waitV m i l) (i * 12 + i) with
  | true =>
    rw [hc] at hr
    cases ok with
    | false => simp
    | true => exact absurd (hr.1 rfl) (hok.1 rfl)
  | false =>
    rw [hc] at hr
    cases ok with
    | true => simp
    | false =>
      have : ¬ Reach (updF f i (setL l)) i i := fun hR => by cases hr.2 hR
      simpa using hok.2 this
theorem Mem.only3 {w0 w : World} {a b c : Res} {L : List Res} (h : Mem w0 w (a :: b :: c :: L)) : Mem w0 w [a, b, c] :=
  ⟨h.os, h.tape, h.output, h.size, h.old, fun s hs => h.all s (by simp at hs; rcases hs with rfl | rfl | rfl <;> simp), fun s hs => h.new s (by simp at hs; rcases hs with rfl | rfl | rfl <;> simp),
    h.sep.sublist (by simp)⟩

set_option maxRecDepth 20000 in
set_option maxHeartbeats 4000000 in
theorem play_ok (w : World) (A : Option Addr) (n c : Nat) (h : ∀ j, j < n → ∃ b o, A = some ⟨b, o, none⟩ ∧ OpAt w b o j) (hn : n ≤ 9223372036854775807) :
    Calls Try.prog 3 #[.slice A n c] w (Ret fun v w' => v = .bool true ∧ Mem w w' []) := by
  have hM := Mem.refl w
  go_enter Try.func3, Try.ntmps3
  go_wp2_with (first
    | (go_at_call 4; go_must (refine (alive_ok _).mono ?_); rintro e wc ⟨v, rfl, rfl, hN⟩; replace hM := hM.trans0 hN; clear hN)
    | (show wpList _ _ _ (⟨_, Op.alloc _, _, _, _, _⟩ :: _) _ _; first | (refine wl_allocA (o := ⟨some 3, _, _, _, _, _⟩) hM rfl _ rfl _ (Try.zeroValue26 _) ?_; clear hM; intro g3 w3 hM) | (refine wl_allocA (o := ⟨some 4, _, _, _, _, _⟩) hM rfl _ rfl _ (zero29 _) ?_; clear hM; intro g4 w4 hM) | (refine wl_allocA (o := ⟨some 9, _, _, _, _, _⟩) hM rfl _ rfl _ (zero29 _) ?_; clear hM; intro g9 w9 hM))
    | (show wpList _ _ _ (⟨_, Op.load 5 _, _, _, _, _⟩ :: _) _ _; first | (refine wl_load1 hM rfl 5 _ rfl rfl (.int _ _) rfl (by simp [go_sem]) ?_) | (refine wl_load1 hM.p1 rfl 5 _ rfl rfl (.int _ _) rfl (by simp [go_sem]) ?_) | (refine wl_load1 hM.p2 rfl 5 _ rfl rfl (.int _ _) rfl (by simp [go_sem]) ?_) | (refine wl_loadO hM rfl 5 _ rfl rfl (by assumption) (by simp [go_sem]) ?_))
    | (show wpList _ _ _ (⟨_, Op.load 29 _, _, _, _, _⟩ :: _) _ _; first | (refine wl_loadW hM rfl 29 _ rfl rfl (by simp [go_sem]) (by simp [go_sem, bits_size]) ?_) | (refine wl_loadW hM.p1 rfl 29 _ rfl rfl (by simp [go_sem]) (by simp [go_sem, bits_size]) ?_) | (refine wl_loadW hM.p2 rfl 29 _ rfl rfl (by simp [go_sem]) (by simp [go_sem, bits_size]) ?_))
    | (show wpList _ _ _ (⟨_, Op.load 30 _, _, _, _, _⟩ :: _) _ _; first | (refine wl_load1 hM rfl 30 _ rfl rfl (.slice _ _ _) rfl (by simp [go_sem]) ?_) | (refine wl_load1 hM.p1 rfl 30 _ rfl rfl (.slice _ _ _) rfl (by simp [go_sem]) ?_) | (refine wl_load1 hM.p2 rfl 30 _ rfl rfl (.slice _ _ _) rfl (by simp [go_sem]) ?_) | (refine wl_loadO hM rfl 30 _ rfl rfl (by assumption) (by simp [go_sem]) ?_))
    | (show wpList _ _ _ (⟨_, Op.store 29 _ _, _, _, _, _⟩ :: _) _ _; first | (refine wl_storeW hM rfl 29 _ _ rfl rfl _ rfl (by simp [go_sem, bits_size]) (by simp [bits_size]) (by first | rfl | exact bits_one _ _) ?_; clear hM; intro wS hM) | (refine wl_storeW hM.p1 rfl 29 _ _ rfl rfl _ rfl (by simp [go_sem, bits_size]) (by simp [bits_size]) (by first | rfl | exact bits_one _ _) ?_; clear hM; intro wS hM) | (refine wl_storeW hM.p2 rfl 29 _ _ rfl rfl _ rfl (by simp [go_sem, bits_size]) (by simp [bits_size]) (by first | rfl | exact bits_one _ _) ?_; clear hM; intro wS hM))
    )
  have hM := (valsNil (to_wmap_none (n := 0) (D := fun _ => none) hM.p1 (fun _ => rfl))).p1
  go_loopg [5] 60 (fun kq v5 w' => ∃ (i : Nat) (mv : Option Nat) (D : Int → Option Value) (bs : List Nat) (f : Int → List Int) (m : Nat → Bool), v5 = .int .i64 i ∧ kq + i = 60 ∧ OKF f m ∧
    Mem w w' [wmap g3 mv (2 * i) D, valsR bs D f, blk g4 29 (bits 144 m)])
  case atStart => exact ⟨0, none, fun _ => none, [], fun _ => [], fun _ => false, rfl, by omega, okf_zero, hM⟩
  case round =>
    clear hM
    obtain ⟨i, mv, D, bs, f, m, rfl, hki, hF, hM⟩ := hrel
    obtain ⟨gk1, rfl⟩ : ∃ x, x = gk := ⟨_, rfl⟩
    by_cases hin : i < n ∧ i < 60
    · obtain ⟨hi, hi60⟩ := hin
      obtain ⟨b, o, rfl, kd, I, AL, nL, cL, hkd, hI, hL, hkr, hIr, hq⟩ := h i hi
      have hkd' := (hM.below.cell (p := ⟨b, o + i * 3, none⟩) (World.block_lt_of_cell? w _ hkd)).trans hkd
      have hI' := (hM.below.cell (p := ⟨b, o + i * 3 + 1, none⟩) (World.block_lt_of_cell? w _ hI)).trans hI
      have hd1 : decide ((i : Int) < (n : Int)) = true := decide_eq_true (by omega)
      have hd2 : decide ((i : Int) < 60) = true := decide_eq_true (by omega)
      go_upto_region 9 with (show wpList _ _ _ (⟨_, Op.load _ _, _, _, _, _⟩ :: _) _ _; refine wl_loadC rfl _ _ rfl rfl (by assumption) (by simp [go_sem]) ?_)
      obtain ⟨at', hat⟩ : ∃ at' : Nat, (at' : Int) = I % 12 := ⟨(I % 12).toNat, by omega⟩
      have hat12 : at' < 12 := by omega
      rw [← hat]
      clear hat
      by_cases hk3 : kd % 4 = 3
      · have hb3 : (kd % 4 == 3) = true := by simp [hk3]
        go_wp2_with (first
          | (show wpList _ _ _ (⟨_, Op.load 5 _, _, _, _, _⟩ :: _) _ _; refine wl_loadC rfl _ _ rfl rfl (by assumption) (by simp [go_sem]) ?_)
          | (go_at_call 5; go_must (refine (free_ok w _ _ g3 (2 * i) mv bs D f hM (by omega) (fun k => Nat.le_trans (hF.toBd.len k) (by omega)) at' (by constructor <;> omega)).mono ?_); clear hM; rintro e wf ⟨v, rfl, mv1, bs1, D1, hM⟩)
          | (go_at_call 6; go_must (refine (rfree m at' hat12 _).mono ?_); rintro e wc ⟨v, rfl, rfl, hN⟩; replace hM := hM.trans0 hN; clear hN)
          | (show wpList _ _ _ (⟨_, Op.load 29 _, _, _, _, _⟩ :: _) _ _; go_must (refine wl_loadW hM.p2 rfl _ _ rfl rfl (by simp [go_sem]) (by simp [go_sem, bits_size]) ?_))
          | (show wpList _ _ _ (⟨_, Op.store 29 _ _, _, _, _, _⟩ :: _) _ _; go_must (refine wl_storeW hM.p2 rfl _ _ _ rfl rfl _ rfl (by simp [go_sem, bits_size]) (by simp [bits_size]) (bits_one _ _) ?_; clear hM; intro wS hM; replace hM := hM.q2))
          | (go_at_call 9; go_must (refine (same_ok _ g3 _ _ _ _ _ _ hM.head hM.p1.head (okf_free hF at' hat12) (by omega)).mono ?_); rintro e wc ⟨v, rfl, rfl, hN⟩; replace hM := hM.trans0 hN; clear hN))
        go_roundg (gk1 - 1)
        case measure => omega
        case rel => exact ⟨i + 1, mv1, D1, bs1, _, _, by go_num, by omega, okf_free hF at' hat12, wmap_more hM (by omega) (fun _ => rfl)⟩
      · have hb3 : (kd % 4 == 3) = false := by simp [hk3]
        go_wp2_with (first
          | (show wpList _ _ _ (⟨_, Op.load 5 _, _, _, _, _⟩ :: _) _ _; refine wl_loadC rfl _ _ rfl rfl (by assumption) (by simp [go_sem]) ?_))
        clear hkd' hI'
        try go_frame
        go_loopg [7, 8] 20 (fun kq v7 v8 w' => ∃ (k : Nat) (A7 : Option Addr) (c7 : Nat) (on : List Int), v8 = .int .i64 k ∧ kq + k = 20 ∧ v7 = .slice A7 on.length c7 ∧ on.length ≤ k ∧ (∀ x ∈ on, 0 ≤ x ∧ x < 12) ∧
          Mem w w' [vec 3 1 A7 on.length c7 (ints on), wmap g3 mv (2 * i) D, valsR bs D f, blk g4 29 (bits 144 m)])
        case atStart => exact ⟨0, none, 0, [], rfl, by omega, rfl, by simp, by simp, hM.vecNil _ _⟩
        case round =>
          clear hM
          obtain ⟨k, A7, c7, on, rfl, hkk, rfl, hol, hon, hM⟩ := hrel
          obtain ⟨gk2, rfl⟩ : ∃ x, x = gk := ⟨_, rfl⟩
          have hL' := (hM.below.cell (p := ⟨b, o + i * 3 + 2, none⟩) (World.block_lt_of_cell? w _ hL)).trans hL
          have hcase : (k < nL ∧ k < 20) ∨ (k < nL ∧ 20 ≤ k) ∨ nL ≤ k := by omega
          rcases hcase with ⟨hkn, hk20⟩ | ⟨hkn, hk20⟩ | hkn
          · obtain ⟨b', o', x, rfl, hx, hx0, hx1⟩ := hq k hkn
            have hx' := (hM.below.cell (p := ⟨b', o' + k, none⟩) (World.block_lt_of_cell? w _ hx)).trans hx
            go_wp2_with (first
              | (show wpList _ _ _ (⟨_, Op.load 5 _, _, _, _, _⟩ :: _) _ _; refine wl_loadC rfl _ _ rfl rfl (by assumption) (by simp [go_sem]) ?_)
              | (show wpList _ _ _ (⟨_, Op.load 30 _, _, _, _, _⟩ :: _) _ _; refine wl_loadC rfl _ _ rfl rfl (by assumption) (by simp [go_sem]) ?_)
              | (show wpList _ _ _ (⟨_, Op.buildSlice _ _ _, _, _, _, _⟩ :: _) _ _; go_must (refine wl_slice1 hM rfl 35 _ rfl (.int _ _) rfl rfl (e := 3) (by simp [go_sem]) (by simp [go_sem]) _ (Try.zeroValue3 _) rfl ?_; clear hM; intro ge wE hM))
              | (show wpList _ _ _ (⟨_, Op.call { callee := .builtin .append, args := _, argTypes := _ }, _, _, _, _⟩ :: _) _ _; go_must (refine wl_append hM.p1 rfl _ _ 35 rfl rfl rfl [.int .i64 _] (src_blk hM.head) (by simp [Value.oneCell']) (.int .i64 0) 8 rfl Try.underlying35 rfl (by omega) (by omega) (by omega) ?_; clear hM; intro A7' c7' wA hM)))
            go_roundg (gk2 - 1)
            case measure => omega
            case rel =>
              refine ⟨k + 1, A7', c7', on ++ [x % 12], by go_num, by omega, by simp, by simp; omega, ?_, ?_⟩
              · intro y hy
                rcases List.mem_append.1 hy with hy | hy
                · exact hon y hy
                · rw [List.mem_singleton.1 hy]; omega
              · have h2 := hM.p1.drop
                simpa [ints] using h2
          all_goals
            have hok := okf_wait2 hF at' hat12 on hon
            obtain ⟨m2, hm2⟩ : ∃ m2, m2 = (waitM m at' on).1 := ⟨_, rfl⟩
            obtain ⟨b2, hb2⟩ : ∃ b2, b2 = (waitM m at' on).2 := ⟨_, rfl⟩
            rw [← hm2, ← hb2] at hok
            have HM2 := Lib.hid hm2
            have HB2 := Lib.hid hb2
            clear hm2 hb2
            go_wp2_with (first
              | (show wpList _ _ _ (⟨_, Op.load 30 _, _, _, _, _⟩ :: _) _ _; refine wl_loadC rfl _ _ rfl rfl (by assumption) (by simp [go_sem]) ?_)
              | (show wpList _ _ _ (⟨_, Op.load 29 (Operand.tmp 4), _, _, _, _⟩ :: _) _ _; refine (wl_loadW hM.p3 rfl _ _ rfl rfl (by simp [go_sem]) (by simp [go_sem, bits_size]) ?_))
              | (go_at_call 7; go_must (refine (rwait m at' hat12 A7 c7 on _ (sl_of_vec hM.head) hon (by omega)).mono ?_); rintro e wc ⟨v, rfl, rfl, hN⟩; replace hM := hM.trans0 hN; clear hN; rw [← HM2.out, ← HB2.out])
              | (show wpList _ _ _ (⟨_, Op.alloc _, _, _, _, _⟩ :: _) _ _; refine wl_allocA hM rfl _ rfl _ (zero29 _) ?_; clear hM; intro g9 w9 hM)
              | (show wpList _ _ _ (⟨_, Op.store 29 (Operand.tmp 9) _, _, _, _, _⟩ :: _) _ _; go_must (refine wl_storeW hM rfl _ _ _ rfl rfl _ rfl (by simp [go_sem, bits_size]) (by simp [bits_size]) (bits_one _ _) ?_; clear hM; intro wS hM))
              | (go_at_call 8; go_must (refine (wait_ok w _ _ g3 (2 * i) mv bs D f hM.p2.p3.p1 hF.toBd (by omega) at' (by constructor <;> omega) A7 c7 on (sl_of_vec hM.p1.head) hon (by omega)).mono ?_); clear hM; rintro e wf ⟨v, rfl, mv1, bs1, D1, ok, rfl, hko, hM⟩; replace hko := ok_eq hF at' hat12 on hon hko; rw [← HB2.out] at hko; subst hko)
              | (show wpList _ _ _ (⟨_, Op.load 29 (Operand.tmp 9), _, _, _, _⟩ :: _) _ _; go_must (refine wl_loadW hM.p2 rfl _ _ rfl rfl (by simp [go_sem]) (by simp [go_sem, bits_size]) ?_))
              | (show wpList _ _ _ (⟨_, Op.store 29 (Operand.tmp 4) _, _, _, _, _⟩ :: _) _ _; go_must (refine wl_storeW hM.p4 rfl _ _ _ rfl rfl _ rfl (by simp [go_sem, bits_size]) (by simp [bits_size]) (bits_one _ _) ?_; clear hM; intro wS hM; replace hM := hM.q2.only3; have hSt : True := trivial))
              | (show wpList _ _ _ (⟨_, Op.load 29 (Operand.tmp 4), _, _, _, _⟩ :: _) _ _; have hSt' := hSt; go_must (refine wl_loadW hM.p2 rfl _ _ rfl rfl (by simp [go_sem]) (by simp [go_sem, bits_size]) ?_))
              | (go_at_call 9; go_must (refine (same_ok _ g3 _ _ _ _ _ _ hM.head hM.p1.head hok (by omega)).mono ?_); rintro e wc ⟨v, rfl, rfl, hN⟩; replace hM := hM.trans0 hN; clear hN))
            go_roundg (gk1 - 1)
            case measure => omega
            case rel => exact ⟨i + 1, mv1, D1, bs1, _, _, by go_num, by omega, hok, wmap_more hM (by omega) (fun _ => rfl)⟩
    · have hcase : i < n ∧ 60 ≤ i ∨ n ≤ i := by omega
      rcases hcase with ⟨h1, h2⟩ | h1
      all_goals
        go_wp2_with fail
        go_ret
        exact ret_mk ⟨rfl, hM.drop.drop.drop⟩
end Go.Proofs.Ytenaklgkbchbdaa
