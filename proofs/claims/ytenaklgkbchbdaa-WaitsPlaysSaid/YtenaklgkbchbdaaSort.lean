/- slices.Sort and slices.Compact of a slice of the call's own. Conditions: as each theorem says. -/
import Derived.Test.YtenaklgkbchbdaaKeys
import Derived.Sort.Grow
import Derived.Lib.RowBridge
set_option linter.unusedVariables false
set_option linter.unusedSimpArgs false
namespace Go.Proofs.Ytenaklgkbchbdaa
open Go.RowKit Go.Sort

theorem mem_grow {w0 w : World} {L : List Res} (h : Mem w0 w L) (os : Array Obj) : Mem w0 (grow w os) L :=
  h.step ⟨rfl, rfl, rfl, by simp, fun k hk => heap_grow_old w os hk⟩

theorem vec_take {w0 w : World} {L : List Res} {e sz n cap k : Nat} {A : Option Addr} {xs : List Value} (hM : Mem w0 w (vec e sz A n cap xs :: L)) (hk : k ≤ n) (hA : A.isSome = true) : Mem w0 w (vec e sz A k cap (xs.take (k * sz)) :: L) := by
  refine hM.weaken (fun hok => ⟨?_, ?_⟩) (fun i h => h)
  · rw [List.length_take, hok.1]; exact Nat.min_eq_left (Nat.mul_le_mul_right _ hk)
  · rcases hok.2 with ⟨rfl, rfl, rfl⟩ | ⟨g, of, cur, rfl, hg, hn', hc, hsz', htk⟩
    · cases hA
    · refine .inr ⟨g, of, cur, rfl, hg, by omega, hc, hsz', ?_⟩
      rw [← htk, List.take_take, Nat.min_eq_left (Nat.mul_le_mul_right _ hk)]

theorem mem_putRow {α : Type} [Inhabited α] {w0 w : World} {L : List Res} {e n cap g of : Nat} {xs : List Value} (enc : α → Value) (d : List α) (k : Nat) (hM : Mem w0 w (vec e 1 (some ⟨g, of, none⟩) n cap xs :: L)) (hd : d.length = n) :
    Mem w0 (putRow enc (Sort.ahead w k) g of d.toArray) (vec e 1 (some ⟨g, of, none⟩) n cap (d.map enc) :: L) := by
  obtain ⟨h1, h⟩ := hM.head
  rcases h with ⟨h0, _⟩ | ⟨g', of', cur, hA, hg, hn, hc, hs, ht⟩
  · cases h0
  cases hA
  refine hM.turn rfl rfl rfl (by simp [putRow, mapBlock, Sort.ahead]) (fun j hj hne => ?_) ?_ (fun i hi => .inl hi)
  · have hne' : g ≠ j := fun e => hne ⟨_, rfl, e.symm⟩
    simp [putRow, mapBlock, Sort.ahead, Array.getElem?_modify, hne']
  · refine ⟨by simp [hd], .inr ⟨g, of, putCells enc of d.toArray cur, rfl, ?_, hn, hc, by simpa [putCells] using hs, ?_⟩⟩
    · simp [putRow, mapBlock, Sort.ahead, Array.getElem?_modify, hg, onCells]
    · apply List.ext_getElem?
      intro j
      rw [List.getElem?_take, List.getElem?_drop]
      by_cases hj : j < n * 1
      · have hjn : j < d.length := by omega
        have hcur : of + j < cur.size := by omega
        rw [if_pos hj, Array.getElem?_toList]
        have hjn' : j < n := by omega
        simp [putCells, Array.getElem?_mapIdx, Array.getElem?_eq_getElem hcur, hjn', hd, List.getElem?_eq_getElem hjn]
      · rw [if_neg hj, List.getElem?_eq_none (by simp; omega)]

theorem holds_vec {w0 w : World} {L : List Res} {e cap g of : Nat} {xs : List Int} (hM : Mem w0 w (vec e 1 (some ⟨g, of, none⟩) xs.length cap (ints xs) :: L)) : Holds (Value.int .i64) w g of xs.toArray ∧ g < w.heap.size ∧ xs.length ≤ cap := by
  obtain ⟨h1, h⟩ := hM.head
  rcases h with ⟨h0, _⟩ | ⟨g', of', cur, hA, hg, hn, hc, hs, ht⟩
  · cases h0
  cases hA
  refine ⟨fun j hj => ⟨?_, by simp [World.frozen?, hg]⟩, (Array.getElem?_eq_some_iff.1 hg).1, hn⟩
  have hj' : j < xs.length := by simpa using hj
  rw [cell_blk hg, ← Array.getElem?_toList]
  have h2 : ((cur.toList.drop of).take (xs.length * 1))[j]? = (ints xs)[j]? := by rw [ht]
  rw [List.getElem?_take, if_pos (by omega), List.getElem?_drop] at h2
  rw [h2]; simp [ints, hj']

theorem vec_cases {w : World} {e sz n cap : Nat} {A : Option Addr} {xs : List Value} (h : (vec e sz A n cap xs).ok w) : (A = none ∧ n = 0 ∧ cap = 0) ∨ ∃ g o, A = some ⟨g, o, none⟩ := by
  rcases h.2 with h | ⟨g, o, cur, hA, _⟩
  · exact .inl h
  · exact .inr ⟨g, o, hA⟩

/-- slices.Sort of a slice of the call's own. -/
theorem sort_ok {w0 w : World} {L : List Res} {A : Option Addr} {c : Nat} {xs : List Int} (hM : Mem w0 w (vec 3 1 A xs.length c (ints xs) :: L)) (hlen : xs.length ≤ 1000000000000) :
    Calls Try.prog 25 #[.slice A xs.length c] w (Ret fun v w' => v = .tuple #[] ∧ Mem w0 w' (vec 3 1 A xs.length c (ints (xs.mergeSort (fun x y => decide (x ≤ y)))) :: L)) := by
  rcases vec_cases hM.head with ⟨rfl, h0, rfl⟩ | ⟨g, o, rfl⟩
  · have hx : xs = [] := List.eq_nil_of_length_eq_zero h0
    subst hx
    refine (Try.slices_Sort_int_none none 0 w).mono ?_
    rintro e w' ⟨rfl, rfl⟩
    exact ret_mk ⟨rfl, by simpa using hM⟩
  · obtain ⟨hH, hlt, hcap⟩ := holds_vec hM
    refine (Try.slices_Sort_int g o c xs w hH hlt (by omega)).mono ?_
    rintro e w' ⟨rfl, n, os, rfl⟩
    exact ret_mk ⟨rfl, mem_grow (mem_putRow (Value.int .i64) _ n hM (List.mergeSort_perm _ _).length_eq) os⟩

/-- slices.Compact of a slice of the call's own. -/
theorem compact_ok {w0 w : World} {L : List Res} {A : Option Addr} {c : Nat} {xs : List Int} (hM : Mem w0 w (vec 3 1 A xs.length c (ints xs) :: L)) (hlen : xs.length ≤ 1000000000000) :
    Calls Try.prog 18 #[.slice A xs.length c] w (Ret fun v w' => v = .slice A (Lib.compact xs).length c ∧ Mem w0 w' (vec 3 1 A (Lib.compact xs).length c (ints (Lib.compact xs)) :: L)) := by
  rcases vec_cases hM.head with ⟨rfl, h0, rfl⟩ | ⟨g, o, rfl⟩
  · have hx : xs = [] := List.eq_nil_of_length_eq_zero h0
    subst hx
    refine (Try.slices_Compact_int_empty none 0 w).mono ?_
    rintro e w' ⟨rfl, rfl⟩
    exact ret_mk ⟨rfl, hM⟩
  · obtain ⟨hH, hlt, hcap⟩ := holds_vec hM
    have hcl : (Lib.compact xs).length ≤ xs.length := Lib.compact_length_le xs
    refine (Try.slices_Compact_int g o c xs w hH (by omega) hcap).mono ?_
    rintro e w' ⟨rfl, n, rfl⟩
    have h2 := mem_putRow (Value.int .i64) (Lib.compact xs ++ List.replicate (xs.length - (Lib.compact xs).length) 0) n hM (by simp; omega)
    have h3 := vec_take h2 hcl rfl
    refine ret_mk ⟨rfl, ?_⟩
    simpa [ints] using h3

theorem compact_sorted (xs : List Int) (hs : xs.Pairwise (· ≤ ·)) : (Lib.compact xs).Pairwise (· < ·) ∧ ∀ k, k ∈ Lib.compact xs ↔ k ∈ xs := by
  have hle : ∀ i j, i ≤ j → j < xs.length → xs.toArray[i]! ≤ xs.toArray[j]! := fun i j hij hj => by
    have hi : i < xs.length := by omega
    rw [getElem!_pos _ i (by simpa using hi), getElem!_pos _ j (by simpa using hj)]
    rcases Nat.eq_or_lt_of_le hij with rfl | hlt
    · exact Int.le_refl _
    · simpa using List.pairwise_iff_getElem.1 hs i j hi hj hlt
  have key : ∀ m, m ≤ xs.length → (Lib.compactUpTo xs.toArray m).Pairwise (· < ·) ∧ ∀ k, k ∈ Lib.compactUpTo xs.toArray m ↔ ∃ j, j < m ∧ xs.toArray[j]! = k := by
    intro m
    induction m with
    | zero => intro _; simp [Lib.compactUpTo]
    | succ m ih =>
      intro hm
      obtain ⟨h1, h2⟩ := ih (by omega)
      rw [Lib.compactUpTo_succ]
      by_cases hk : m = 0 ∨ xs.toArray[m]! ≠ xs.toArray[m - 1]!
      · have hkeep : Lib.keeps xs.toArray m = true := by
          rcases hk with rfl | hk
          · exact Lib.keeps_lt_one _ 0 (by omega)
          · exact Lib.keeps_pos hk
        rw [hkeep, if_pos rfl]
        refine ⟨List.pairwise_append.2 ⟨h1, by simp, fun a ha b hb => ?_⟩, fun k => ?_⟩
        · simp only [List.mem_singleton] at hb
          subst hb
          obtain ⟨j, hj, rfl⟩ := (h2 a).1 ha
          have e1 := hle j (m - 1) (by omega) (by omega)
          have e2 := hle (m - 1) m (by omega) (by omega)
          rcases hk with h0 | hk
          · omega
          · omega
        · rw [List.mem_append, h2 k]
          simp only [List.mem_singleton]
          constructor
          · rintro (⟨j, hj, h⟩ | h)
            · exact ⟨j, by omega, h⟩
            · exact ⟨m, by omega, h.symm⟩
          · rintro ⟨j, hj, h⟩
            rcases Nat.lt_or_ge j m with hlt | hge
            · exact .inl ⟨j, hlt, h⟩
            · have : j = m := by omega
              subst this; exact .inr h.symm
      · have hm0 : 0 < m := by omega
        have he : xs.toArray[m]! = xs.toArray[m - 1]! := by
          by_cases h : xs.toArray[m]! = xs.toArray[m - 1]!
          · exact h
          · exact absurd (.inr h) hk
        rw [Lib.keeps_neg hm0 he]
        simp only [Bool.false_eq_true, if_false, List.append_nil]
        refine ⟨h1, fun k => ?_⟩
        rw [h2 k]
        constructor
        · rintro ⟨j, hj, h⟩; exact ⟨j, by omega, h⟩
        · rintro ⟨j, hj, h⟩
          rcases Nat.lt_or_ge j m with hlt | hge
          · exact ⟨j, hlt, h⟩
          · have : j = m := by omega
            subst this; exact ⟨j - 1, by omega, by rw [← he]; exact h⟩
  obtain ⟨h1, h2⟩ := key xs.length (Nat.le_refl _)
  refine ⟨h1, fun k => (h2 k).trans ?_⟩
  rw [List.mem_iff_getElem]
  constructor
  · rintro ⟨j, hj, h⟩
    exact ⟨j, hj, by rw [getElem!_pos _ j (by simpa using hj)] at h; simpa using h⟩
  · rintro ⟨j, hj, h⟩
    exact ⟨j, hj, by rw [getElem!_pos _ j (by simpa using hj)]; simpa using h⟩

/-- Sorted and without twins: what stands for a set. -/
structure SetOf (ss : List Int) (p : Int → Prop) : Prop where
  lt : ss.Pairwise (· < ·)
  mem : ∀ k, k ∈ ss ↔ p k

theorem setOf_compact (xs : List Int) : SetOf (Lib.compact (xs.mergeSort (fun x y => decide (x ≤ y)))) (· ∈ xs) := by
  have tr : ∀ a b c : Int, leI a b = true → leI b c = true → leI a c = true := fun a b c h1 h2 => by simp only [leI, decide_eq_true_eq] at *; exact Int.le_trans h1 h2
  have to : ∀ a b : Int, (leI a b || leI b a) = true := fun a b => by simp only [leI, Bool.or_eq_true, decide_eq_true_eq]; exact Int.le_total a b
  obtain ⟨h1, h2⟩ := compact_sorted _ ((List.pairwise_mergeSort tr to xs).imp fun h => by simpa [leI] using h)
  exact ⟨h1, fun k => (h2 k).trans (List.mergeSort_perm xs leI).mem_iff⟩
end Go.Proofs.Ytenaklgkbchbdaa
