/- A part of the proof: functions of the program in the evaluator's code, and what they come to. Conditions: none; definitions and theorems that the statement's proof uses. -/
import Derived.Test.YteiaohbhlapklaaGreatDoorSetPcBack4
/- ParseNotes is true. Conditions: the functions' codes; theorems. -/
namespace Go.Pv
variable {E:Env} {x sz:Int}
theorem stepsV_pos {t:List StepA} (h:0 < t.length):∃ own,stepsV t = .vs own t.length (t.flatMap StepA.cs):=by
 cases t with
 | nil=>simp at h
 | cons a t=>exact ⟨_,rfl⟩
def words:List (List UInt8):=[[],[97,32,98],[120],[40,109]]
end Go.Pv
