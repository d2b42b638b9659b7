/- The plain law: the document's closure of 12 sagas' waits is what the search finds. No program in sight. -/
import Derived.Test.YtenaklgkbchbdaaRef19
import Derived.Test.YtenaklgkbchbdaaWait
import Derived.Test.YtenaklgkbchbdaaFree
set_option linter.unusedVariables false
set_option linter.unusedSimpArgs false
namespace Go.Proofs.Ytenaklgkbchbdaa

theorem at_eq {a c i k : Nat} (hc : c < 12) (hk : k < 12) : a * 12 + c = i * 12 + k ↔ a = i ∧ c = k := by omega

theorem chRow_get (X : Nat → Bool) (q i : Nat) (hq : q < 12) : ∀ n, n ≤ 12 → ∀ a c, c < 12 → chRow X q i n (a * 12 + c) = if a = i ∧ c < n then (X (i * 12 + c) || (X (i * 12 + q) && X (q * 12 + c))) else X (a * 12 + c)
  | 0, _, a, c, _ => by simp [chRow]
  | n + 1, hn, a, c, hc => by
    have IH := chRow_get X q i hq n (by omega)
    have e1 : chRow X q i n (i * 12 + q) = X (i * 12 + q) := by
      rw [IH i q hq]
      by_cases h : q < n
      · rw [if_pos ⟨rfl, h⟩]; cases X (i * 12 + q) <;> simp
      · rw [if_neg (fun h' => h h'.2)]
    have e2 : chRow X q i n (q * 12 + n) = X (q * 12 + n) := by
      rw [IH q n (by omega), if_neg (fun h' => by omega)]
    have e3 : chRow X q i n (i * 12 + n) = X (i * 12 + n) := by
      rw [IH i n (by omega), if_neg (fun h' => by omega)]
    simp only [chRow, chStep, e1, e2]
    by_cases h : a = i ∧ c = n
    · obtain ⟨rfl, rfl⟩ := h
      rw [if_pos rfl, if_pos ⟨rfl, by omega⟩, e3]
    · rw [if_neg (fun e => h ((at_eq hc (by omega)).1 e)), IH a c hc]
      by_cases h2 : a = i ∧ c < n
      · rw [if_pos h2, if_pos ⟨h2.1, by omega⟩]
      · rw [if_neg h2, if_neg (fun h3 => by
          have : c = n := by
            have := h3.2
            have h4 : ¬ c < n := fun h5 => h2 ⟨h3.1, h5⟩
            omega
          exact h ⟨h3.1, this⟩)]
theorem chAll_get (X : Nat → Bool) (q : Nat) (hq : q < 12) : ∀ n, n ≤ 12 → ∀ a c, c < 12 → chAll X q n (a * 12 + c) = if a < n then (X (a * 12 + c) || (X (a * 12 + q) && X (q * 12 + c))) else X (a * 12 + c)
  | 0, _, a, c, _ => by simp [chAll]
  | n + 1, hn, a, c, hc => by
    have IH := chAll_get X q hq n (by omega)
    have e2 : chAll X q n (q * 12 + c) = X (q * 12 + c) := by
      rw [IH q c hc]
      by_cases h : q < n
      · rw [if_pos h]; cases X (q * 12 + c) <;> simp
      · rw [if_neg h]
    simp only [chAll]
    rw [chRow_get _ q n hq 12 (Nat.le_refl _) a c hc, e2]
    by_cases h : a = n
    · subst h
      rw [if_pos ⟨rfl, hc⟩, if_pos (by omega), IH a c hc, if_neg (by omega), IH a q hq, if_neg (by omega)]
    · rw [if_neg (fun h' => h h'.1), IH a c hc]
      by_cases h2 : a < n
      · rw [if_pos h2, if_pos (by omega)]
      · rw [if_neg h2, if_neg (by omega)]
theorem chTo_succ (m : Nat → Bool) (q : Nat) (hq : q < 12) (a c : Nat) (ha : a < 12) (hc : c < 12) : chTo m (q + 1) (a * 12 + c) = (chTo m q (a * 12 + c) || (chTo m q (a * 12 + q) && chTo m q (q * 12 + c))) := by
  simp only [chTo]
  rw [chAll_get _ q hq 12 (Nat.le_refl _) a c hc, if_pos ha]
theorem chTo_mono (m : Nat → Bool) (a c : Nat) (ha : a < 12) (hc : c < 12) (h : m (a * 12 + c) = true) : ∀ q, q ≤ 12 → chTo m q (a * 12 + c) = true
  | 0, _ => h
  | q + 1, hq => by rw [chTo_succ m q (by omega) a c ha hc, chTo_mono m a c ha hc h q (by omega)]; rfl
theorem chTo_closed (m : Nat → Bool) : ∀ q, q ≤ 12 → ∀ j, j < q → ∀ a c, a < 12 → c < 12 → chTo m q (a * 12 + j) = true → chTo m q (j * 12 + c) = true → chTo m q (a * 12 + c) = true
  | 0, _, j, hj, _, _, _, _, _, _ => by omega
  | q + 1, hq, j, hj, a, c, ha, hc, h1, h2 => by
    have IH := chTo_closed m q (by omega)
    have hj12 : j < 12 := by omega
    rw [chTo_succ m q (by omega) a j ha hj12] at h1
    rw [chTo_succ m q (by omega) j c hj12 hc] at h2
    rw [chTo_succ m q (by omega) a c ha hc]
    simp only [Bool.or_eq_true, Bool.and_eq_true] at h1 h2 ⊢
    by_cases hjq : j = q
    · subst hjq
      right
      exact ⟨h1.elim id (fun h => h.1), h2.elim id (fun h => h.2)⟩
    · have hjl : j < q := by omega
      rcases h1 with h1 | ⟨h1, h1'⟩ <;> rcases h2 with h2 | ⟨h2, h2'⟩
      · exact .inl (IH j hjl a c ha hc h1 h2)
      · exact .inr ⟨IH j hjl a q ha (by omega) h1 h2, h2'⟩
      · exact .inr ⟨h1, IH j hjl q c (by omega) hc h1' h2⟩
      · exact .inr ⟨h1, h2'⟩

/-- The waits f are the matrix m. -/
structure OKF (f : Int → List Int) (m : Nat → Bool) : Prop where
  lt : ∀ k, (f k).Pairwise (· < ·)
  bd : ∀ k x, x ∈ f k → (0 ≤ k ∧ k < 12) ∧ 0 ≤ x ∧ x < 12
  rel : ∀ i k : Nat, i < 12 → k < 12 → (m (i * 12 + k) = true ↔ (k : Int) ∈ f i)

theorem OKF.toBd {f : Int → List Int} {m : Nat → Bool} (h : OKF f m) : Bd f :=
  ⟨fun k x hx => (h.bd k x hx).2, fun k => nodup_le ((h.lt k).imp fun h => by omega) (fun x hx => (h.bd k x hx).2)⟩

theorem reach_trans {f : Int → List Int} {i j k : Int} (h1 : Reach f i j) (h2 : Reach f j k) : Reach f i k := by
  induction h2 with
  | one h => exact .more h1 h
  | more _ h ih => exact .more ih h
theorem reach_from {f : Int → List Int} {m : Nat → Bool} (h : OKF f m) {i k : Int} (hr : Reach f i k) : 0 ≤ i ∧ i < 12 := by
  induction hr with
  | one hk => exact (h.bd _ _ hk).1
  | more _ _ ih => exact ih

theorem chain_reach {f : Int → List Int} {m : Nat → Bool} (h : OKF f m) (i k : Nat) (hi : i < 12) (hk : k < 12) : chain m (i * 12 + k) = true ↔ Reach f i k := by
  constructor
  · suffices key : ∀ q, q ≤ 12 → ∀ i k : Nat, i < 12 → k < 12 → chTo m q (i * 12 + k) = true → Reach f i k from key 12 (Nat.le_refl _) i k hi hk
    intro q
    induction q with
    | zero => intro _ i k hi hk hm; exact .one ((h.rel i k hi hk).1 hm)
    | succ q ih =>
      intro hq i k hi hk hm
      rw [chTo_succ m q (by omega) i k hi hk] at hm
      simp only [Bool.or_eq_true, Bool.and_eq_true] at hm
      rcases hm with hm | ⟨h1, h2⟩
      · exact ih (by omega) i k hi hk hm
      · exact reach_trans (ih (by omega) i q hi (by omega) h1) (ih (by omega) q k (by omega) hk h2)
  · intro hr
    obtain ⟨k', hk'⟩ : ∃ k' : Int, k' = k := ⟨_, rfl⟩
    rw [← hk'] at hr
    induction hr generalizing k with
    | one hx =>
      subst hk'
      exact chTo_mono m i k hi hk ((h.rel i k hi hk).2 hx) 12 (Nat.le_refl _)
    | @more j k2 hr hx ih =>
      subst hk'
      have hj := reach_bd h.toBd hr
      obtain ⟨jn, hjn⟩ : ∃ jn : Nat, (jn : Int) = j := ⟨j.toNat, by omega⟩
      subst hjn
      have hj12 : jn < 12 := by omega
      have h1 := ih jn hj12 rfl
      exact chTo_closed m 12 (Nat.le_refl _) jn hj12 i k hi hk h1 (chTo_mono m jn k hj12 hk ((h.rel jn k hj12 hk).2 hx) 12 (Nat.le_refl _))

theorem okf_zero : OKF (fun _ => []) (fun _ => false) := ⟨fun _ => .nil, by simp, by simp⟩

theorem okf_wait {f : Int → List Int} {m : Nat → Bool} (h : OKF f m) (i : Nat) (hi : i < 12) (l : List Int) (hl : ∀ x ∈ l, 0 ≤ x ∧ x < 12) : OKF (updF f i (setL l)) (waitV m i l) := by
  have hs := setOf_compact l
  refine ⟨fun k => ?_, fun k x hx => ?_, fun a c ha hc => ?_⟩
  · unfold updF; split
    · exact hs.lt
    · exact h.lt k
  · unfold updF at hx; split at hx
    · rename_i hk
      exact ⟨by omega, hl x ((hs.mem x).1 hx)⟩
    · exact h.bd k x hx
  · unfold updF waitV
    by_cases hai : a = i
    · subst hai
      rw [if_pos (by omega), if_pos rfl]
      have e : a * 12 + c - a * 12 = c := by omega
      rw [e, List.contains_iff_mem]
      exact ((hs.mem c).symm)
    · rw [if_neg (by omega), if_neg (by omega)]
      exact h.rel a c ha hc

theorem okf_free {f : Int → List Int} {m : Nat → Bool} (h : OKF f m) (i : Nat) (hi : i < 12) : OKF (freeF f i) (freeM m i) := by
  refine ⟨fun k => ?_, fun k x hx => ?_, fun a c ha hc => ?_⟩
  · unfold freeF; split
    · exact .nil
    · exact (h.lt k).filter _
  · unfold freeF at hx; split at hx
    · cases hx
    · exact h.bd k x ((List.mem_filter.1 hx).1)
  · unfold freeF freeM
    have e1 : (a * 12 + c) / 12 = a := by omega
    have e2 : (a * 12 + c) % 12 = c := by omega
    rw [e1, e2]
    by_cases hai : a = i
    · subst hai; simp
    · rw [if_neg (show ¬ (a : Int) = i by omega)]
      by_cases hci : c = i
      · subst hci; simp
      · rw [if_neg (by simp [hai, hci])]
        rw [h.rel a c ha hc, List.mem_filter]
        simp [show ¬ (c : Int) = i by omega]

/-- A row of the matrix as a sorted list. -/
def rowTo (m : Nat → Bool) (i : Nat) : Nat → List Int
  | 0 => []
  | n + 1 => rowTo m i n ++ (if m (i * 12 + n) then [(n : Int)] else [])
theorem rowTo_mem (m : Nat → Bool) (i : Nat) : ∀ n (x : Int), x ∈ rowTo m i n ↔ ∃ k : Nat, k < n ∧ x = k ∧ m (i * 12 + k) = true
  | 0, x => by simp [rowTo]
  | n + 1, x => by
    rw [rowTo, List.mem_append, rowTo_mem m i n x]
    constructor
    · rintro (⟨k, h1, h2, h3⟩ | h)
      · exact ⟨k, by omega, h2, h3⟩
      · split at h
        · rename_i hm
          exact ⟨n, by omega, by simpa using h, hm⟩
        · cases h
    · rintro ⟨k, h1, rfl, h3⟩
      by_cases hk : k = n
      · subst hk; right; rw [if_pos h3]; simp
      · left; exact ⟨k, by omega, rfl, h3⟩
theorem rowTo_lt (m : Nat → Bool) (i : Nat) : ∀ n, (rowTo m i n).Pairwise (· < ·)
  | 0 => .nil
  | n + 1 => by
    rw [rowTo]
    refine List.pairwise_append.2 ⟨rowTo_lt m i n, by split <;> simp, fun a ha b hb => ?_⟩
    obtain ⟨k, hk, rfl, _⟩ := (rowTo_mem m i n a).1 ha
    split at hb
    · simp only [List.mem_singleton] at hb; subst hb; omega
    · cases hb
theorem rowTo_len (m : Nat → Bool) (i : Nat) : ∀ n, (rowTo m i n).length ≤ n
  | 0 => by simp [rowTo]
  | n + 1 => by
    rw [rowTo, List.length_append]
    have := rowTo_len m i n
    split <;> simp <;> omega
theorem sorted_eq {l l' : List Int} (h : l.Pairwise (· < ·)) (h' : l'.Pairwise (· < ·)) (hm : ∀ x, x ∈ l ↔ x ∈ l') : l = l' := by
  have hp : l.Perm l' := (List.perm_ext_iff_of_nodup (h.imp fun h => by omega) (h'.imp fun h => by omega)).2 hm
  exact List.Perm.eq_of_pairwise (le := fun a b => a < b) (fun a b _ _ h1 h2 => by omega) h h' hp
theorem okf_row {f : Int → List Int} {m : Nat → Bool} (h : OKF f m) (i : Nat) (hi : i < 12) : f i = rowTo m i 12 := by
  refine sorted_eq (h.lt i) (rowTo_lt m i 12) (fun x => ?_)
  rw [rowTo_mem]
  constructor
  · intro hx
    have hb := (h.bd _ _ hx).2
    exact ⟨x.toNat, by omega, by omega, (h.rel i x.toNat hi (by omega)).2 (by rw [show ((x.toNat : Nat) : Int) = x by omega]; exact hx)⟩
  · rintro ⟨k, hk, rfl, hm⟩
    exact (h.rel i k hi hk).1 hm
theorem okf_chain {f : Int → List Int} {m : Nat → Bool} (h : OKF f m) (i : Nat) (hi : i < 12) {ss : List Int} (hs : SetOf ss (Reach f i)) : ss = rowTo (chain m) i 12 := by
  refine sorted_eq hs.lt (rowTo_lt _ i 12) (fun x => ?_)
  rw [rowTo_mem, hs.mem]
  constructor
  · intro hx
    have hb := reach_bd h.toBd hx
    exact ⟨x.toNat, by omega, by omega, (chain_reach h i x.toNat hi (by omega)).2 (by rw [show ((x.toNat : Nat) : Int) = x by omega]; exact hx)⟩
  · rintro ⟨k, hk, rfl, hm⟩
    exact (chain_reach h i k hi hk).1 hm
/-- Who waits at all. -/
def waitTo (m : Nat → Bool) : Nat → List Int
  | 0 => []
  | n + 1 => waitTo m n ++ (if rowTo m n 12 = [] then [] else [(n : Int)])
theorem waitTo_mem (m : Nat → Bool) : ∀ n (x : Int), x ∈ waitTo m n ↔ ∃ k : Nat, k < n ∧ x = k ∧ rowTo m k 12 ≠ []
  | 0, x => by simp [waitTo]
  | n + 1, x => by
    rw [waitTo, List.mem_append, waitTo_mem m n x]
    constructor
    · rintro (⟨k, h1, h2, h3⟩ | h)
      · exact ⟨k, by omega, h2, h3⟩
      · split at h
        · cases h
        · rename_i hm
          exact ⟨n, by omega, by simpa using h, hm⟩
    · rintro ⟨k, h1, rfl, h3⟩
      by_cases hk : k = n
      · subst hk; right; rw [if_neg h3]; simp
      · left; exact ⟨k, by omega, rfl, h3⟩
theorem waitTo_lt (m : Nat → Bool) : ∀ n, (waitTo m n).Pairwise (· < ·)
  | 0 => .nil
  | n + 1 => by
    rw [waitTo]
    refine List.pairwise_append.2 ⟨waitTo_lt m n, by split <;> simp, fun a ha b hb => ?_⟩
    obtain ⟨k, hk, rfl, _⟩ := (waitTo_mem m n a).1 ha
    split at hb
    · cases hb
    · simp only [List.mem_singleton] at hb; subst hb; omega
theorem waitTo_len (m : Nat → Bool) : ∀ n, (waitTo m n).length ≤ n
  | 0 => by simp [waitTo]
  | n + 1 => by
    rw [waitTo, List.length_append]
    have := waitTo_len m n
    split <;> simp <;> omega
theorem okf_waiting {f : Int → List Int} {m : Nat → Bool} (h : OKF f m) {ss : List Int} (hs : Keyed1 ss (fun k => f k ≠ [])) : ss = waitTo m 12 := by
  refine sorted_eq hs.lt (waitTo_lt m 12) (fun x => ?_)
  rw [waitTo_mem, hs.mem]
  constructor
  · rintro ⟨_, hx⟩
    obtain ⟨y, hy⟩ := List.exists_mem_of_ne_nil _ hx
    have hb := (h.bd _ _ hy).1
    refine ⟨x.toNat, by omega, by omega, ?_⟩
    rw [← okf_row h x.toNat (by omega), show ((x.toNat : Nat) : Int) = x by omega]
    exact hx
  · rintro ⟨k, hk, rfl, hm⟩
    exact ⟨by constructor <;> omega, by rw [okf_row h k hk]; exact hm⟩
end Go.Proofs.Ytenaklgkbchbdaa
