/- Part 20 of the proof: what functions of the program come to. Conditions: none; definitions and theorems that the statement's proof uses. -/
import Derived.Test.YtleaeoncofgkjaaDoorPart7
import Derived.KernelRfl
import Derived.Test.YtleaeoncofgkjaaDoorPart19
/- The program's table, and the reference's, run. Conditions: the functions' codes; theorems. -/
namespace Go.Pv
variable {E : Env}
/-! ### The tables -/
def progB : Tb := ⟨atomsT, prefsT, .shared, .shared, .shared⟩
def refB : Tb := ⟨atomsT, prefsT, .shared, .full, .full⟩
theorem progB_ok : progB.Ok := ⟨by decide, by decide, .inr rfl, .inr rfl, .inr rfl⟩
theorem refB_ok : refB.Ok := ⟨by decide, by decide, .inr rfl, .inl rfl, .inl rfl⟩
theorem table_run (E : Env) : evClosed (extE E [(38, f38), (56, f56), (57, f57), (58, f58)] [(0, g0)] []) 200 (.fn (.func 38) [] []) [] = some progB.V := by kernel_rfl
theorem refTable_run (E : Env) : evClosed (extE E [(51, f51), (71, f71), (72, f72), (73, f73), (85, f85)] [] []) 200 (.fn (.func 51) [] []) [] = some refB.V := by kernel_rfl
theorem table_eq (H : Has 38 E) : EvClosed E (.fn (.func 38) [] []) [] = some progB.V := by
  have he : extE E [(38, f38), (56, f56), (57, f57), (58, f58)] [(0, g0)] [] = E :=
    ext_eq (by simp [H.c38, H.c56, H.c57, H.c58]) (by simp [H.v0, globAll]) (by simp)
  have := table_run E
  rw [he] at this
  exact EvClosed_some.2 ⟨_, this⟩
theorem refTable_eq (H : Has 51 E) : EvClosed E (.fn (.func 51) [] []) [] = some refB.V := by
  have he : extE E [(51, f51), (71, f71), (72, f72), (73, f73), (85, f85)] [] [] = E :=
    ext_eq (by simp [H.c51, H.c71, H.c72, H.c73, H.c85]) (by simp) (by simp)
  have := refTable_run E
  rw [he] at this
  exact EvClosed_some.2 ⟨_, this⟩
end Go.Pv
