/- maps.Keys and slices.Sorted(maps.Keys(m)) of maps with int keys: what they return. Conditions: as each theorem says. -/
import Derived.Test.YtenaklgkbchbdaaMap
import Derived.Test.YtenaklgkbchbdaaVec
import Derived.Test.YtenaklgkbchbdaaShelf
import Derived.Test.YtenaklgkbchbdaaKeysShelf
set_option linter.unusedVariables false
set_option linter.unusedSimpArgs false
namespace Go.Proofs.Ytenaklgkbchbdaa
open Go.RowKit Go.Maps Go.Sort Go.Shelf

def ints (xs : List Int) : List Value := xs.map (Value.int .i64)
/-- In an int's range. -/
abbrev I64 (k : Int) : Prop := -9223372036854775808 ≤ k ∧ k ≤ 9223372036854775807

theorem keys_of {P : Program} {kt e T b n : Nat} {f : Int → Option Value} {w : World} (hI : (imap P kt b n f).ok w) (hT : P.underlying T = some (.map kt e)) (hkt : P.underlying kt = some (.int .i64)) {z : Value} (hz : (zeroValue e).run P w = .ok z w) :
    ∃ D, w.ownsMap P kt rawE b n D ∧ (intKeys D).Nodup ∧ (∀ k, k ∈ intKeys D ↔ I64 k ∧ (f k).isSome = true) ∧ Maps.size D ≤ n := by
  obtain ⟨D, hown, hf⟩ := hI
  have hh : ∀ k, I64 k → Maps.has D (KI k) = (f k).isSome := fun k hk => by
    obtain ⟨v, ps, hrun, hv⟩ := hown.look_ok (Maps.int_keyed hkt) hT hz (zd := .held z) (zp := []) rfl (keyK hkt hk)
    have hv' : D.atKey (KI k) (.held z) = .held v := by
      simp only [rawE, Option.some.injEq, Prod.mk.injEq] at hv; exact hv.1.symm
    rw [← hf k]
    refine has_some hown.isMap (fun z' hh => ⟨v, ?_⟩)
    rw [has_at hown.isMap hh z' (.held z), hv']
  have hwf := intKeys_wf hown hkt
  obtain ⟨es, hD, hpw, _⟩ := hown.entries (Maps.int_keyed hkt)
  obtain ⟨es', hD', hko⟩ := hown.keysOf
  obtain rfl : es = es' := by rw [hD] at hD'; simpa using hD'
  subst hD
  have hk : ∀ p ∈ es, ∃ x, p.1 = .int .i64 x := fun p hp => by obtain ⟨v, hv⟩ := hko p hp; obtain ⟨x, _, hx, _⟩ := Maps.keyOf_i64 hkt hv; exact ⟨x, hx⟩
  have hmem : ∀ x, x ∈ intKeys (.map es) ↔ Maps.has (.map es) (KI x) = true := fun x => by
    rw [has_eq, List.any_eq_true]
    show x ∈ es.map (fun p => Go.intOf p.1) ↔ _
    rw [List.mem_map]
    constructor
    · rintro ⟨p, hp', rfl⟩
      obtain ⟨a, ha⟩ := hk p hp'
      exact ⟨p, hp', by rw [ha]; simp [Lit.sameKey, Go.intOf]⟩
    · rintro ⟨p, hp', hs⟩
      obtain ⟨a, ha⟩ := hk p hp'
      rw [ha] at hs
      exact ⟨p, hp', by rw [ha]; simpa [Lit.sameKey, Go.intOf] using hs⟩
  refine ⟨_, hown, ?_, fun k => ?_, ?_⟩
  · show (es.map fun p => Go.intOf p.1).Nodup
    refine List.pairwise_map.2 (hpw.imp_of_mem fun {p q} hp' hq' hne e => hne ?_)
    obtain ⟨a, ha⟩ := hk p hp'
    obtain ⟨b, hb⟩ := hk q hq'
    rw [ha, hb] at e ⊢
    exact congrArg _ e
  · constructor
    · intro h
      have hr : I64 k := by have := hwf k h; simp [Lit.wf, IntKind.min, IntKind.max, IntKind.signed, IntKind.bits] at this; omega
      exact ⟨hr, by rw [← hh k hr]; exact (hmem k).1 h⟩
    · rintro ⟨hr, h⟩
      exact (hmem k).2 (by rw [hh k hr]; exact h)
  · exact hown.size_le

/-- Sorted, each once, all that p holds of, in an int's range. -/
structure Keyed1 (ss : List Int) (p : Int → Prop) : Prop where
  lt : ss.Pairwise (· < ·)
  mem : ∀ k, k ∈ ss ↔ I64 k ∧ p k

theorem keyed1_sort {D ss : List Int} {p : Int → Prop} (hn : D.Nodup) (hm : ∀ k, k ∈ D ↔ I64 k ∧ p k) (hs : ss.Perm D) : Keyed1 (ss.mergeSort (fun x y => decide (x ≤ y))) p := by
  have tr : ∀ a b c : Int, leI a b = true → leI b c = true → leI a c = true := fun a b c h1 h2 => by simp only [leI, decide_eq_true_eq] at *; exact Int.le_trans h1 h2
  have to : ∀ a b : Int, (leI a b || leI b a) = true := fun a b => by simp only [leI, Bool.or_eq_true, decide_eq_true_eq]; exact Int.le_total a b
  have hp := (List.mergeSort_perm ss leI)
  refine ⟨?_, fun k => ?_⟩
  · have h1 := List.pairwise_mergeSort tr to ss
    have h2 : (ss.mergeSort leI).Pairwise (· ≠ ·) := (hp.trans hs).nodup_iff.2 hn
    refine (h1.and h2).imp fun {a b} ⟨h, h'⟩ => ?_
    simp only [leI, decide_eq_true_eq] at h
    omega
  · rw [← hm k]; exact (hp.trans hs).mem_iff

/-- slices.Sort's two contracts. -/
theorem sorts_in {m : Nat} : AnyZI.SortsIn Try.prog Try.sorted_ren Fence.wide m :=
  ⟨fun blk off cap ss W hH hblk hsz => callsIn_wide.2 (Try.slices_Sort_int blk off cap ss W hH hblk hsz),
   fun p cap W => callsIn_wide.2 (Try.slices_Sort_int_none p cap W)⟩

theorem keysB_ok (mb : Option Nat) (w : World) : Calls Try.prog 28 #[.map mb] w (Ret fun v w' => ∃ g, v = .func (.func 33) #[] #[.pointer (some ⟨g, 0, none⟩)] ∧ Mem w w' [blk g 59 #[.map mb]]) := by
  have h : CallsIn Fence.wide 5 Try.prog 28 #[.map mb] w fun e w' => e = .returned (.func (.func 33) #[] #[.pointer (some ⟨w.heap.size, 0, none⟩)]) ∧ w' = w.alloc (.cells #[.map mb] 59) := AnyZI.keys_in Try.keysB Fence.wide 5 trivial rfl mb w
  refine (callsIn_wide.1 h).mono ?_
  rintro e w' ⟨rfl, rfl⟩
  exact ret_mk ⟨_, rfl, mem_alloc (Mem.refl w) _ _⟩

theorem sortedB_ok (w : World) (g b n : Nat) (f : Int → Option Value) (hb : (blk g 59 #[.map (some b)]).ok w) (hI : (imap Try.prog 3 b n f).ok w) (hn : n ≤ 1000000000000) :
    Calls Try.prog 16 #[.func (.func 33) #[] #[.pointer (some ⟨g, 0, none⟩)]] w (Ret fun v w' => ∃ A c ss, v = .slice A ss.length c ∧ Keyed1 ss (fun k => (f k).isSome = true) ∧ ss.length ≤ n ∧ Mem w w' [vec 3 1 A ss.length c (ints ss)]) := by
  obtain ⟨D, hown, hnd, hmem, hsz⟩ := keys_of hI Try.underlying59 Try.underlying3 (Try.zeroValue4 w)
  have hgl : g < w.heap.size := (Array.getElem?_eq_some_iff.1 hb).1
  have hseq : SeqGives Fence.wide 2 Try.prog 33 #[.pointer (some ⟨g, 0, none⟩)] encZ (fun ss => ss.Perm (intKeys D)) (Maps.size D) w :=
    AnyZI.keys_gives (ρ := Try.keysB_ren) { Try.keysB with } Fence.wide _ trivial rfl (by omega) g b n D _ hgl (cell_blk hb) hown
  have cS := AnyZI.sorted_in Try.sorted Fence.wide 5 trivial trivial trivial trivial rfl (by omega) sorts_in (enters_of Try.func25 (by kernel_rfl) rfl) 33 #[.pointer (some ⟨g, 0, none⟩)] trivial (enters_of Try.func33 (by kernel_rfl) rfl) _ _ (by simp only [maxLen]; omega) (by omega) _ hseq
  refine (callsIn_wide.1 cS).mono ?_
  rintro e w' ⟨v, ss, rfl, hS, hrow, hnil, hB⟩
  have hl : (ss.mergeSort (fun x y => decide (x ≤ y))).length = ss.length := (List.mergeSort_perm ss _).length_eq
  have hss : ss.length ≤ n := by
    rw [hS.length_eq]
    refine Nat.le_trans ?_ hsz
    obtain ⟨es, rfl⟩ := hown.isMap
    simp [intKeys, Maps.size]
  obtain ⟨A, c, rfl⟩ : ∃ A c, v = .slice A ss.length c := by
    rcases hrow.2 with ⟨rfl, hz⟩ | ⟨gb, cap, cur, rfl, _⟩
    · exact ⟨none, 0, by rw [hz]⟩
    · exact ⟨_, _, rfl⟩
  have hM := (row_of_owns hrow hB).toVec
  exact ret_mk ⟨A, c, ss.mergeSort (fun x y => decide (x ≤ y)), by rw [hl], keyed1_sort hnd hmem hS, by rw [hl]; exact hss, by rw [hl]; exact hM⟩

theorem sortedB_nil (w : World) (g : Nat) (hb : (blk g 59 #[.map none]).ok w) :
    Calls Try.prog 16 #[.func (.func 33) #[] #[.pointer (some ⟨g, 0, none⟩)]] w (Ret fun v w' => ∃ A c, v = .slice A 0 c ∧ Mem w w' [vec 3 1 A 0 c []]) := by
  have hgl : g < w.heap.size := (Array.getElem?_eq_some_iff.1 hb).1
  have hseq : SeqGives Fence.wide 2 Try.prog 33 #[.pointer (some ⟨g, 0, none⟩)] encZ (fun ss : List Int => ss = []) 0 w :=
    AnyZI.keys_gives_nil (ρ := Try.keysB_ren) { Try.keysB with } Fence.wide _ trivial rfl g w hgl (cell_blk hb)
  have cS := AnyZI.sorted_in Try.sorted Fence.wide 5 trivial trivial trivial trivial rfl (by omega) sorts_in (enters_of Try.func25 (by kernel_rfl) rfl) 33 #[.pointer (some ⟨g, 0, none⟩)] trivial (enters_of Try.func33 (by kernel_rfl) rfl) _ _ (by simp only [maxLen]; omega) (by omega) _ hseq
  refine (callsIn_wide.1 cS).mono ?_
  rintro e w' ⟨v, ss, rfl, rfl, hrow, hnil, hB⟩
  have hv : v = .slice none 0 0 := hnil.2 rfl
  subst hv
  have hM := (row_of_owns hrow hB).toVec
  simp only [List.mergeSort_nil, List.map_nil, List.length_nil] at hM
  exact ret_mk ⟨none, 0, rfl, hM⟩

theorem keysS_ok (mb : Option Nat) (w : World) : Calls Try.prog 29 #[.map mb] w (Ret fun v w' => ∃ g, v = .func (.func 34) #[] #[.pointer (some ⟨g, 0, none⟩)] ∧ Mem w w' [blk g 24 #[.map mb]]) := by
  have h : CallsIn Fence.wide 5 Try.prog 29 #[.map mb] w fun e w' => e = .returned (.func (.func 34) #[] #[.pointer (some ⟨w.heap.size, 0, none⟩)]) ∧ w' = w.alloc (.cells #[.map mb] 24) := AnyZI.keys_in Try.keysS Fence.wide 5 trivial rfl mb w
  refine (callsIn_wide.1 h).mono ?_
  rintro e w' ⟨rfl, rfl⟩
  exact ret_mk ⟨_, rfl, mem_alloc (Mem.refl w) _ _⟩

theorem sortedS_ok (w : World) (g b n : Nat) (f : Int → Option Value) (hb : (blk g 24 #[.map (some b)]).ok w) (hI : (imap Try.prog 3 b n f).ok w) (hn : n ≤ 1000000000000) :
    Calls Try.prog 16 #[.func (.func 34) #[] #[.pointer (some ⟨g, 0, none⟩)]] w (Ret fun v w' => ∃ A c ss, v = .slice A ss.length c ∧ Keyed1 ss (fun k => (f k).isSome = true) ∧ ss.length ≤ n ∧ Mem w w' [vec 3 1 A ss.length c (ints ss)]) := by
  obtain ⟨D, hown, hnd, hmem, hsz⟩ := keys_of hI Try.underlying24 Try.underlying3 (Try.zeroValue35 w)
  have hgl : g < w.heap.size := (Array.getElem?_eq_some_iff.1 hb).1
  have hseq : SeqGives Fence.wide 2 Try.prog 34 #[.pointer (some ⟨g, 0, none⟩)] encZ (fun ss => ss.Perm (intKeys D)) (Maps.size D) w :=
    AnyZI.keys_gives (ρ := Try.keysS_ren) { Try.keysS with } Fence.wide _ trivial rfl (by omega) g b n D _ hgl (cell_blk hb) hown
  have cS := AnyZI.sorted_in Try.sorted Fence.wide 5 trivial trivial trivial trivial rfl (by omega) sorts_in (enters_of Try.func25 (by kernel_rfl) rfl) 34 #[.pointer (some ⟨g, 0, none⟩)] trivial (enters_of Try.func34 (by kernel_rfl) rfl) _ _ (by simp only [maxLen]; omega) (by omega) _ hseq
  refine (callsIn_wide.1 cS).mono ?_
  rintro e w' ⟨v, ss, rfl, hS, hrow, hnil, hB⟩
  have hl : (ss.mergeSort (fun x y => decide (x ≤ y))).length = ss.length := (List.mergeSort_perm ss _).length_eq
  have hss : ss.length ≤ n := by
    rw [hS.length_eq]
    refine Nat.le_trans ?_ hsz
    obtain ⟨es, rfl⟩ := hown.isMap
    simp [intKeys, Maps.size]
  obtain ⟨A, c, rfl⟩ : ∃ A c, v = .slice A ss.length c := by
    rcases hrow.2 with ⟨rfl, hz⟩ | ⟨gb, cap, cur, rfl, _⟩
    · exact ⟨none, 0, by rw [hz]⟩
    · exact ⟨_, _, rfl⟩
  have hM := (row_of_owns hrow hB).toVec
  exact ret_mk ⟨A, c, ss.mergeSort (fun x y => decide (x ≤ y)), by rw [hl], keyed1_sort hnd hmem hS, by rw [hl]; exact hss, by rw [hl]; exact hM⟩

theorem sortedS_nil (w : World) (g : Nat) (hb : (blk g 24 #[.map none]).ok w) :
    Calls Try.prog 16 #[.func (.func 34) #[] #[.pointer (some ⟨g, 0, none⟩)]] w (Ret fun v w' => ∃ A c, v = .slice A 0 c ∧ Mem w w' [vec 3 1 A 0 c []]) := by
  have hgl : g < w.heap.size := (Array.getElem?_eq_some_iff.1 hb).1
  have hseq : SeqGives Fence.wide 2 Try.prog 34 #[.pointer (some ⟨g, 0, none⟩)] encZ (fun ss : List Int => ss = []) 0 w :=
    AnyZI.keys_gives_nil (ρ := Try.keysS_ren) { Try.keysS with } Fence.wide _ trivial rfl g w hgl (cell_blk hb)
  have cS := AnyZI.sorted_in Try.sorted Fence.wide 5 trivial trivial trivial trivial rfl (by omega) sorts_in (enters_of Try.func25 (by kernel_rfl) rfl) 34 #[.pointer (some ⟨g, 0, none⟩)] trivial (enters_of Try.func34 (by kernel_rfl) rfl) _ _ (by simp only [maxLen]; omega) (by omega) _ hseq
  refine (callsIn_wide.1 cS).mono ?_
  rintro e w' ⟨v, ss, rfl, rfl, hrow, hnil, hB⟩
  have hv : v = .slice none 0 0 := hnil.2 rfl
  subst hv
  have hM := (row_of_owns hrow hB).toVec
  simp only [List.mergeSort_nil, List.map_nil, List.length_nil] at hM
  exact ret_mk ⟨none, 0, rfl, hM⟩
end Go.Proofs.Ytenaklgkbchbdaa
