/- slices.DeleteFunc of the library, laid at this program, and at a slice of the call's own with Free's closure. Conditions: as each theorem says. -/
import Derived.Shelf.SlicesE.DeleteFunc
import Derived.Test.YtenaklgkbchbdaaState
set_option linter.unusedVariables false
set_option linter.unusedSimpArgs false
namespace Go.Proofs
open Go.Shelf
def Try.del_ren : Go.Shelf.Ren := ⟨fun | 6 => 23 | 10 => 11 | n => n, fun | 0 => 0 | 3 => 3 | 4 => 4 | 22 => 35 | 23 => 3 | 25 => 45 | n => n, fun | n => n⟩
theorem Try.del : Go.Proofs.SlLaysH.n10 Try.prog Try.del_ren := {
  mixed := by kernel_rfl
  f6 := ⟨Try.f23.name, by decide, Try.func23.trans (congrArg some (by kernel_rfl))⟩
  f10 := ⟨Try.f11.name, by decide, Try.func11.trans (congrArg some (by kernel_rfl))⟩
  t0 := Try.underlying0
  a0 := Try.isAgg0
  z0 := Try.sizeOf0
  v0 := Try.zeroValue0
  t3 := Try.underlying3
  a3 := Try.isAgg3
  z3 := Try.sizeOf3
  v3 := Try.zeroValue3
  t4 := Try.underlying4
  a4 := Try.isAgg4
  z4 := Try.sizeOf4
  v4 := Try.zeroValue4
  t22 := Try.underlying35
  a22 := Try.isAgg35
  z22 := Try.sizeOf35
  v22 := Try.zeroValue35
  a23 := Try.isAgg3
  z23 := Try.sizeOf3
  t25 := Try.underlying45
  a25 := Try.isAgg45
  z25 := Try.sizeOf45
  v25 := Try.zeroValue45 }
end Go.Proofs

namespace Go.Proofs.Ytenaklgkbchbdaa
open Go.RowKit Go.Lib Go.Sort Go.Shelf

theorem free1_gives (i x : Int) (g : Nat) (W : World) (hc : W.cell? ⟨g, 0, none⟩ = some (.int .i64 i)) :
    FnGives Try.prog 13 #[.pointer (some ⟨g, 0, none⟩)] #[.int .i64 x] (.bool (decide (x = i))) W := by
  show Calls Try.prog 13 #[.int .i64 x, .pointer (some ⟨g, 0, none⟩)] W _
  go_enter Try.func13, Try.ntmps13
  go_wp2_with fail
  all_goals (go_ret; exact ⟨by congr 2 <;> simp_all, 0, rfl⟩)

/-- slices.DeleteFunc(s, func(n int) bool { return n == i }), s the call's own. -/
theorem delete_ok {w0 w : World} {L : List Res} {A : Option Addr} {c g : Nat} {xs : List Int} (i : Int) (hM : Mem w0 w (vec 3 1 A xs.length c (ints xs) :: blk g 3 #[.int .i64 i] :: L)) (hne : xs ≠ []) (hlen : xs.length ≤ 1000000000000) :
    Calls Try.prog 11 #[.slice A xs.length c, .func (.func 13) #[] #[.pointer (some ⟨g, 0, none⟩)]] w
      (Ret fun v w' => v = .slice A (xs.filter fun x => !decide (x = i)).length c ∧ Mem w0 w' (vec 3 1 A (xs.filter fun x => !decide (x = i)).length c (ints (xs.filter fun x => !decide (x = i))) :: blk g 3 #[.int .i64 i] :: L)) := by
  rcases vec_cases hM.head with ⟨rfl, h0, rfl⟩ | ⟨b, o, rfl⟩
  · exact absurd (List.eq_nil_of_length_eq_zero h0) hne
  · obtain ⟨hH, hlt, hcap⟩ := holds_vec hM
    have hcg : w.cell? ⟨g, 0, none⟩ = some (.int .i64 i) := cell_blk hM.p1.head
    have hgl : g < w.heap.size := World.block_lt_of_cell? w _ hcg
    have hgb : g ≠ b := fun e => hM.apart (i := b) (j := g) ⟨_, rfl, rfl⟩ rfl e.symm
    have hcon := AnyE.slices_DeleteFunc Try.del (Value.int .i64) (fun _ => rfl) (fun x => decide (x = i)) 13 #[.pointer (some ⟨g, 0, none⟩)] (enters_of Try.func13 (by kernel_rfl) rfl) 0 Try.zeroValue3 b o c xs.toArray w
      (fun W x hb => free1_gives i x g W ((hb.cell (p := ⟨g, 0, none⟩) hgl).trans hcg))
      (fun n os dk x _ => free1_gives i x g _ (by
        unfold sortWorld
        rw [cell?_grow _ _ _ (by show g < (putRow _ _ _ _ _).heap.size; rw [size_putRow]; exact hgl), cell?_putRow_other _ _ b o _ _ (Or.inl hgb)]
        exact hcg)) hH (by simp; omega) (by simpa using hcap)
    change Calls Try.prog 11 #[.slice (some ⟨b, o, none⟩) xs.length c, _] w _ at hcon
    refine hcon.mono ?_
    rintro e w' ⟨rfl, q, rfl⟩
    simp only [List.size_toArray]
    obtain ⟨ys, hys⟩ : ∃ ys, xs.filter (fun x => !decide (x = i)) = ys := ⟨_, rfl⟩
    have hyl : ys.length ≤ xs.length := by rw [← hys]; exact List.length_filter_le _ _
    rw [hys]
    refine ret_mk ⟨rfl, ?_⟩
    have h2 := mem_putRow (Value.int .i64) (ys ++ List.replicate (xs.length - ys.length) 0) q hM (by simp; omega)
    have h3 := vec_take h2 hyl rfl
    simpa [ints] using h3
end Go.Proofs.Ytenaklgkbchbdaa
