/- Part 24 of the proof: what functions of the program come to. Conditions: none; definitions and theorems that the statement's proof uses. -/
import Derived.Test.YtleaeoncofgkjaaDoorPart23
import Derived.KernelRfl
/- How many symbols there are. Conditions: none; theorems. -/
namespace Go.Pv
theorem len0 : (allFrom 0 atomsT prefsT 0).length = 828 := by kernel_rfl
theorem len1 : (allFrom 1 atomsT prefsT 0).length = 828 := by kernel_rfl
theorem len2 : (allFrom 2 atomsT prefsT 0).length = 826 := by kernel_rfl
theorem len3 : (allFrom 3 atomsT prefsT 0).length = 632 := by kernel_rfl
theorem len4 : (allFrom 4 atomsT prefsT 0).length = 784 := by kernel_rfl
theorem syms_len {x : Int} (hx : 1 ≤ x ∧ x ≤ 5) : 300 ≤ (symsT x).length := by
  have h : x = 1 ∨ x = 2 ∨ x = 3 ∨ x = 4 ∨ x = 5 := by omega
  have e : (symsT x).length = (allFrom (x - 1).toNat atomsT prefsT 0).length := by
    show ((rowL progB x).map (symTxt (x - 1).toNat atomsT prefsT)).length = _
    rw [List.length_map]
    simp only [rowL, if_pos hx]
    rfl
  have hn : (x - 1).toNat = 0 ∨ (x - 1).toNat = 1 ∨ (x - 1).toNat = 2 ∨ (x - 1).toNat = 3 ∨ (x - 1).toNat = 4 := by omega
  rw [e]
  have h0 := len0
  have h1 := len1
  have h2 := len2
  have h3 := len3
  have h4 := len4
  rcases hn with hn | hn | hn | hn | hn <;> rw [hn] <;> omega
end Go.Pv
