/- Rows of bits, as arrays of cells. Conditions: none; plain facts. -/
import Derived.Test.YtenaklgkbchbdaaOps
set_option linter.unusedVariables false
set_option linter.unusedSimpArgs false
namespace Go.Proofs.Ytenaklgkbchbdaa
def bits (n : Nat) (m : Nat → Bool) : Array Value := Array.ofFn (n := n) fun i => .bool (m i)
theorem bits_size (n m) : (bits n m).size = n := by simp [bits]
theorem bits_get (n m i) (h : i < n) : (bits n m)[i]? = some (.bool (m i)) := by simp [bits, h]
theorem bits_one (n m) : (bits n m).all (·.oneCell') = true := by
  rw [Array.all_eq_true]; intro i hi; simp [bits, Value.oneCell']

theorem bits_get? (n m j) : (bits n m)[j]? = if j < n then some (.bool (m j)) else none := by
  split
  · rename_i h; exact bits_get n m j h
  · rename_i h; simp [bits]; omega
theorem bits_lay (n : Nat) (m : Nat → Bool) (o k : Nat) (m' : Nat → Bool) (h : o + k ≤ n) : lay (bits n m) o (bits k m').toList = bits n (fun j => if o ≤ j ∧ j < o + k then m' (j - o) else m j) := by
  apply Array.ext_getElem?
  intro j
  have hl : (bits k m').toList.length = k := by simp [bits]
  rw [lay_get _ _ _ (by rw [hl, bits_size]; exact h), hl, Array.getElem?_toList, bits_get?, bits_get?, bits_get?]
  by_cases h1 : o ≤ j ∧ j < o + k
  · rw [if_pos h1, if_pos (by omega), if_pos (by omega), if_pos h1]
  · rw [if_neg h1, if_neg h1]
theorem bits_set (n : Nat) (m : Nat → Bool) (o : Nat) (v : Bool) (h : o < n) : (bits n m).setIfInBounds o (.bool v) = bits n (fun j => if j = o then v else m j) := by
  apply Array.ext_getElem?
  intro j
  rw [Array.getElem?_setIfInBounds, bits_get?, bits_get?, bits_size]
  by_cases h1 : o = j
  · subst h1; simp [h]
  · rw [if_neg h1]; simp [Ne.symm h1]
theorem bits_congr {n : Nat} {m m' : Nat → Bool} (h : ∀ i, i < n → m i = m' i) : bits n m = bits n m' := by
  unfold bits; congr; funext i; rw [h i i.2]

theorem bits_extract (n : Nat) (m : Nat → Bool) (o k : Nat) (h : o + k ≤ n) : (bits n m).extract o (o + k) = bits k (fun j => m (o + j)) := by
  apply Array.ext_getElem?
  intro j
  rw [Array.getElem?_extract, bits_get?, bits_get?, bits_size]
  by_cases hj : j < k
  · rw [if_pos (by omega), if_pos (by omega), if_pos hj]
  · rw [if_neg (by omega), if_neg hj]
attribute [irreducible] bits
end Go.Proofs.Ytenaklgkbchbdaa
