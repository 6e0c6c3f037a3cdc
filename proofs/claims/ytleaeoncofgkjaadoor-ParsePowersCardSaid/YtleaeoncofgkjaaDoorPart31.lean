/- Part 31 of the proof: what functions of the program come to. Conditions: none; definitions and theorems that the statement's proof uses. -/
import Derived.Test.YtleaeoncofgkjaaDoorPart4
import Derived.KernelRfl
import Derived.Test.YtleaeoncofgkjaaDoorChecked
import Derived.Test.YtleaeoncofgkjaaDoorPart2
import Derived.Test.YtleaeoncofgkjaaDoorPart30
/- The seat's functions are those. Conditions: none; theorems. -/
namespace Go.Proofs.YtleaeoncofgkjaaDoor
open Go Go.Pv
def fnums : List Nat := [0, 1, 2, 3, 4, 5, 6, 7, 8, 9, 10, 11, 12, 13, 14, 15, 16, 17, 18, 19, 20, 21, 22, 23, 24, 25, 26, 27, 28, 29, 30, 31, 32, 33, 34, 35, 36, 37, 38, 39, 40, 41, 42, 43, 44, 45, 46, 47, 48, 49, 50, 51, 52, 53, 54, 55, 56, 57, 58, 59, 60, 61, 62, 63, 64, 65, 66, 67, 68, 69, 70, 71, 72, 73, 74, 75, 76, 77, 78, 79, 80, 81, 82, 83, 84, 85, 86, 87, 88, 89, 90, 91, 92, 93, 94, 95, 96, 97, 98, 99, 100, 101, 102, 103, 104, 105, 106, 107, 108, 109, 110, 111, 112, 113, 114, 115, 116, 117, 118, 119, 120, 121, 122, 123, 124, 125, 126, 127, 128, 129, 130, 131, 132, 133, 134, 135, 136, 137, 138, 139, 140, 141, 142, 143, 144, 145, 146, 147, 148, 0, 0, 0, 0, 0, 0, 0, 0, 0, 0, 0, 0, 0, 0, 0, 0, 0, 0, 0, 0, 0, 0, 0, 0, 0, 0, 0, 0, 0, 0, 0, 0, 0, 0, 0, 0, 0, 0, 0, 0, 0, 0, 0, 0, 0, 0, 0, 0, 0, 0, 0, 0, 0, 0, 0, 0, 0, 0, 0, 0, 0, 0, 0, 0, 0, 0, 0, 0, 0, 0]
def ffinds : List Nat := [0, 1, 2, 3, 4, 5, 6, 7, 8, 9, 10, 11, 12, 13, 14, 15, 16, 17, 18, 19, 20, 21, 22, 23, 24, 25, 26, 27, 28, 29, 30, 31, 32, 33, 34, 35, 36, 37, 38, 39, 40, 41, 42, 43, 44, 45, 46, 47, 48, 49, 50, 51, 52, 53, 54, 55, 56, 57, 58, 59, 60, 61, 62, 63, 64, 65, 66, 67, 68, 69, 70, 71, 72, 73, 74, 75, 76, 77, 78, 79, 80, 81, 82, 83, 84, 85, 86, 87, 88, 89, 90, 91, 92, 93, 94, 95, 96, 97, 98, 99, 100, 101, 102, 103, 104, 105, 106, 107, 108, 109, 110, 111, 112, 113, 114, 115, 116, 117, 118, 119, 120, 121, 122, 123, 124, 125, 126, 127, 128, 129, 130, 131, 132, 133, 134, 135, 136, 137, 138, 139, 140, 141, 142, 143, 144, 145, 146, 147, 148]
def gnums : List Nat := [0, 1, 2, 3, 4, 5, 6, 7]
def gfinds : List Nat := [0, 1, 2, 3, 4, 5, 6, 7]
def tnums : List Nat := [115, 159, 164, 175, 9, 1000000]
def tfinds : List (Nat × Nat) := [(9, 4), (115, 0), (159, 1), (164, 2), (175, 3)]
noncomputable def tT : Tie := { P := Tryd.prog, fnum := fun j => fnums.getD j 0, ffind := fun i => ffinds[i]?, gnum := fun j => gnums.getD j 0, gfind := fun i => gfinds[i]?, tnum := fun j => tnums.getD j 1000000, tfind := fun i => tfinds.lookup i }
def k3 : Keeps := ⟨fun i => (([] : List (Nat × List Bool)).lookup i).getD [], fun i => (([] : List (Nat × List Bool)).lookup i).getD [], [Z,Z,Z,Z,Z,Z,X,Z,Z,Z,Z,Z,Z,Z,Z,Z,Z,Z,Z,Z,Z,Z,Z,Z,Z,Z,Z,Z,Z,Z,Z,Z,Z,Z,Z,Z,Z,Z]⟩
def k4 : Keeps := ⟨fun i => (([] : List (Nat × List Bool)).lookup i).getD [], fun i => (([] : List (Nat × List Bool)).lookup i).getD [], [Z,Z,Z,Z,Z,Z,X,Z,Z,Z,Z,Z,Z,Z,Z,Z,Z,Z,Z,Z,Z,Z,Z,Z,Z,Z,Z,Z,Z,Z,Z,Z,Z,Z,Z,Z,Z,Z,Z,Z,Z,Z,Z,Z,Z,Z,Z,Z,Z,Z,Z,Z,Z,Z,Z,Z,Z,Z,Z,Z,Z,Z,Z,Z,Z,Z,Z,Z,Z,Z,Z,Z,Z,Z,Z,Z,Z,Z,Z,Z,Z,Z,Z,Z,Z,Z,Z,Z,Z,Z,Z,Z,Z,Z,Z,Z,Z,Z,Z,Z,Z,Z,Z,Z,Z,Z,Z,Z,Z,Z]⟩
def k5 : Keeps := ⟨fun i => (([] : List (Nat × List Bool)).lookup i).getD [], fun i => (([] : List (Nat × List Bool)).lookup i).getD [], [Z,Z,Z,Z,Z,Z,X,Z,Z,Z,Z,Z,Z,Z,Z,Z,Z,Z,Z,Z,Z,Z,Z,Z,Z,Z,Z,Z,Z,Z,Z,Z,Z,Z,Z,Z,Z,Z,Z,Z,Z,Z,Z,Z,Z,Z,Z,Z,Z,Z,Z,Z,Z,Z,Z,Z,Z,Z,Z,Z,Z,Z,Z,Z,Z,Z,Z,Z,Z,Z,Z,Z,Z,Z,Z,Z,Z,Z,Z,Z,Z,Z,Z,Z,Z,Z,Z,Z,Z,Z,Z,Z,Z,Z,Z,Z,Z,Z,Z,Z,Z,Z,Z,Z,Z,Z,Z,Z,Z,Z,Z,Z,Z]⟩
def k6 : Keeps := ⟨fun i => (([] : List (Nat × List Bool)).lookup i).getD [], fun i => (([] : List (Nat × List Bool)).lookup i).getD [], [Z,Z,Z,Z,Z,Z,X,Z,Z,Z,Z,Z,Z,Z,Z,Z,Z,Z,Z,Z,Z,Z,Z,Z,Z,Z,Z,Z,Z,Z,Z,Z,Z,Z,Z,Z,Z,Z,Z,Z,Z,Z,Z,Z,Z,Z,Z,Z,Z,Z,Z,Z,Z,Z,Z,Z,Z,Z,Z,Z,Z,Z,Z,Z,Z,Z,Z,Z,Z,Z,Z,Z,Z,Z,Z,Z,Z,Z,Z,Z,Z,Z,Z,Z,Z,Z,Z,Z,Z,Z,Z,Z,Z,Z,Z,Z,Z,Z,Z,Z,Z,Z,Z,Z,Z,Z,Z,Z,Z,Z,Z,Z,Z,Z,Z,Z,Z,Z,Z,Z,Z,Z,Z,Z,Z,Z,Z,Z]⟩
def k7 : Keeps := ⟨fun i => (([] : List (Nat × List Bool)).lookup i).getD [], fun i => (([] : List (Nat × List Bool)).lookup i).getD [], [Z,Z,Z,Z,X,Z,Z,Z,Z,Z,Z,Z,Z,Z,Z,Z,Z,Z,Z,Z,Z,Z,Z,Z,Z,Z,Z,Z,Z,Z,Z,Z,Z,Z,Z,Z,Z,Z,Z,Z,Z,Z,Z,Z,Z,Z,Z,Z,Z,Z,Z,Z,Z,Z,Z,Z,Z,Z,Z,Z,Z,Z,Z,Z,Z,Z,Z,Z,Z,Z,Z,Z,Z,Z,Z,Z,Z,Z,Z,Z,Z,Z,Z,Z,Z,Z,Z,Z,Z,Z,Z,Z,Z]⟩
def k8 : Keeps := ⟨fun i => (([] : List (Nat × List Bool)).lookup i).getD [], fun i => (([] : List (Nat × List Bool)).lookup i).getD [], [X,Z,Z,Z,Z,Z,Z,Z,Z,Z,Z,Z,Z,Z,Z,Z,Z,Z,Z,Z,Z,Z,Z,Z,Z,Z,Z,Z,Z,Z]⟩
def k9 : Keeps := ⟨fun i => (([(1, [X,X,X,Z,Z,Z,Z,X,X,X,Z,Z,Z,Z,Z,Z,Z,Z,Z,Z,Z,Z,Z,Z,Z,Z,Z,Z,Z,Z,Z,Z,Z,Z,Z,Z,Z,Z,Z,Z,Z,Z,Z,Z,Z,Z,Z,Z,Z,Z,Z,Z,Z,Z,Z,Z,Z,Z,Z,Z,Z,Z,Z,Z,Z,Z,Z,Z,Z,Z,Z,Z,Z,Z,Z,Z,Z,Z,Z,Z,Z,Z,Z,Z,Z,Z,Z,Z,Z,Z,Z,Z,Z,Z,Z,Z,Z,Z,Z,Z,Z,Z,Z]), (0, [X,X,X,Z,Z,Z,Z,Z,X,Z,Z,Z,Z,Z,Z,Z,Z,Z,Z,Z,Z,Z,Z,Z,Z,Z,Z,Z,Z,Z,Z,Z,Z,Z,Z,Z,Z,Z,Z,Z,Z,Z,Z,Z,Z,Z,Z,Z,Z,Z,Z,Z,Z,Z,Z,Z,Z,Z,Z,Z,Z,Z,Z,Z,Z,Z,Z,Z,Z,Z,Z,Z,Z,Z,Z,Z,Z,Z,Z,Z,Z,Z,Z,Z,Z,Z,Z,Z,Z,Z,Z,Z,Z,Z,Z,Z,Z,Z,Z,Z,Z,Z,Z])] : List (Nat × List Bool)).lookup i).getD [], fun i => (([(6, [X,X,X,Z,Z,Z,Z,X,X,X,Z,Z,Z,Z,Z,Z,Z,Z,Z,Z,Z,Z,Z,Z,Z,Z,Z,Z,Z,Z,Z,Z,Z,Z,Z,Z,Z,Z,Z,Z,Z,Z,Z,Z,Z,Z,Z,Z,Z,Z,Z,Z,Z,Z,Z,Z,Z,Z,Z,Z,Z,Z,Z,Z,Z,Z,Z,Z,Z,Z,Z,Z,Z,Z,Z,Z,Z,Z,Z,Z,Z,Z,Z,Z,Z,Z,Z,Z,Z,Z,Z,Z,Z,Z,Z,Z,Z,Z,Z,Z,Z,Z,Z])] : List (Nat × List Bool)).lookup i).getD [], [Z,Z,Z,Z,Z,Z,X,Z,Z,Z,Z,Z,Z,Z,Z,Z,Z,Z,Z,Z,Z,Z,Z,Z,Z,Z,Z,Z,Z,Z,Z,Z,Z,Z,Z,Z,Z,Z,Z,Z,Z,Z,Z,Z,Z,Z,Z,Z,Z,Z,Z,Z,Z,Z,Z,Z,Z,Z,Z,Z,Z,Z,Z,Z,Z,Z,Z,Z,Z,Z,Z,Z,Z,Z,Z,Z,Z,Z,Z,Z,Z,Z,Z,Z,Z,Z,Z,Z,Z,Z,Z,Z,Z,Z,Z,Z,Z,Z,Z,Z,Z,Z,Z]⟩
def k10 : Keeps := ⟨fun i => (([] : List (Nat × List Bool)).lookup i).getD [], fun i => (([] : List (Nat × List Bool)).lookup i).getD [], [Z,Z,Z,Z,X,Z,Z,Z,Z,Z,Z,Z]⟩
def k11 : Keeps := ⟨fun i => (([(1, [Z,Z,Z,X,Z,Z,Z,Z,Z,Z,Z,Z,Z,Z]), (0, [Z,Z,Z,X,Z,Z,Z,Z,Z,Z,Z,Z,Z,Z])] : List (Nat × List Bool)).lookup i).getD [], fun i => (([] : List (Nat × List Bool)).lookup i).getD [], [Z,Z,X,Z,Z,Z,Z,Z,Z,Z,Z,Z,Z,Z]⟩
def k12 : Keeps := ⟨fun i => (([] : List (Nat × List Bool)).lookup i).getD [], fun i => (([] : List (Nat × List Bool)).lookup i).getD [], [Z,Z,Z,Z,X,X,Z,Z,Z,Z,Z,Z,Z,Z,Z,Z,Z]⟩
def k13 : Keeps := ⟨fun i => (([] : List (Nat × List Bool)).lookup i).getD [], fun i => (([] : List (Nat × List Bool)).lookup i).getD [], [Z,Z,Z,Z,X,X,X,Z,Z,Z,Z,Z,Z,Z,Z,Z,Z,Z,Z,Z,Z,Z]⟩
def k14 : Keeps := ⟨fun i => (([] : List (Nat × List Bool)).lookup i).getD [], fun i => (([] : List (Nat × List Bool)).lookup i).getD [], [Z,Z,Z,Z,X,X,Z,Z,Z,Z,Z,Z,Z,Z,Z,Z,Z,Z,Z,Z,Z]⟩
def k15 : Keeps := ⟨fun i => (([] : List (Nat × List Bool)).lookup i).getD [], fun i => (([] : List (Nat × List Bool)).lookup i).getD [], [Z,Z,X,Z,Z,Z,Z,Z,Z,Z,Z]⟩
def k16 : Keeps := ⟨fun i => (([(1, [X,Z,Z,Z,Z,Z,X,Z,Z,Z,Z,Z,X,X,X,Z,Z,Z,Z,Z,Z,Z,Z,Z,Z,Z,Z,Z,Z,Z,Z,Z,Z,Z]), (0, [X,Z,Z,Z,Z,Z,X,Z,Z,Z,Z,Z,Z,Z,Z,Z,Z,Z,Z,Z,Z,Z,Z,Z,Z,Z,Z,Z,Z,Z,Z,Z,Z,Z])] : List (Nat × List Bool)).lookup i).getD [], fun i => (([(3, [X,Z,Z,Z,Z,Z,X,Z,Z,Z,Z,Z,X,X,X,Z,Z,Z,Z,Z,Z,Z,Z,Z,Z,Z,Z,Z,Z,Z,Z,Z,Z,Z])] : List (Nat × List Bool)).lookup i).getD [], [Z,Z,Z,Z,X,X,Z,Z,Z,Z,Z,Z,Z,Z,Z,Z,Z,Z,Z,Z,Z,Z,Z,Z,Z,Z,Z,Z,Z,Z,Z,Z,Z,Z]⟩
def k17 : Keeps := ⟨fun i => (([] : List (Nat × List Bool)).lookup i).getD [], fun i => (([] : List (Nat × List Bool)).lookup i).getD [], [X,Z,Z,Z,Z,Z,Z,Z,Z,Z,Z,Z,Z,Z,Z,Z,Z,Z,Z,Z,Z,Z,Z,Z,Z,Z,Z,Z,Z,Z,Z,Z,Z,Z,Z,Z,Z,Z,Z,Z,Z,Z,Z,Z,Z,Z,Z,Z,Z,Z,Z,Z,Z,Z,Z,Z,Z]⟩
def k18 : Keeps := ⟨fun i => (([] : List (Nat × List Bool)).lookup i).getD [], fun i => (([] : List (Nat × List Bool)).lookup i).getD [], [Z,Z,Z,Z,X,Z,Z,Z,Z,Z,Z,Z]⟩
def k19 : Keeps := ⟨fun i => (([(0, [Z,Z,X,Z,Z,Z,Z,Z,Z,Z,Z,Z,Z,Z,Z,Z,Z,Z,Z,Z])] : List (Nat × List Bool)).lookup i).getD [], fun i => (([] : List (Nat × List Bool)).lookup i).getD [], [Z,Z,X,Z,Z,Z,Z,Z,Z,Z,Z,Z,Z,Z,Z,Z,Z,Z,Z,Z]⟩
def k20 : Keeps := ⟨fun i => (([] : List (Nat × List Bool)).lookup i).getD [], fun i => (([] : List (Nat × List Bool)).lookup i).getD [], [Z,Z,Z,Z,X,Z,Z,Z,Z,Z,Z,Z,Z,Z,Z,Z,Z,Z,Z,Z,Z,Z,Z,Z,Z,Z,Z,Z,Z,Z,Z,Z,Z,Z,Z,Z,Z]⟩
def k21 : Keeps := ⟨fun i => (([(1, [Z,Z,Z,X,X,X,Z,Z,Z,Z,Z,Z,Z,Z,Z,Z,Z,Z,Z,Z,Z,Z,Z]), (0, [Z,Z,Z,Z,X,Z,Z,Z,Z,Z,Z,Z,Z,Z,Z,Z,Z,Z,Z,Z,Z,Z,Z])] : List (Nat × List Bool)).lookup i).getD [], fun i => (([(4, [Z,Z,Z,X,X,X,Z,Z,Z,Z,Z,Z,Z,Z,Z,Z,Z,Z,Z,Z,Z,Z,Z])] : List (Nat × List Bool)).lookup i).getD [], [Z,Z,X,Z,Z,Z,Z,Z,Z,Z,Z,Z,Z,Z,Z,Z,Z,Z,Z,Z,Z,Z,Z]⟩
def k22 : Keeps := ⟨fun i => (([(1, [X,X,Z,Z,Z,X,Z,Z,Z,Z,Z,Z,Z,Z,Z,Z,Z,Z,Z]), (0, [Z,Z,Z,Z,Z,Z,Z,Z,Z,Z,Z,Z,Z,Z,Z,Z,Z,Z,Z])] : List (Nat × List Bool)).lookup i).getD [], fun i => (([(2, [X,X,Z,Z,Z,X,Z,Z,Z,Z,Z,Z,Z,Z,Z,Z,Z,Z,Z])] : List (Nat × List Bool)).lookup i).getD [], [Z,Z,Z,Z,X,Z,Z,Z,Z,Z,Z,Z,Z,Z,Z,Z,Z,Z,Z]⟩
def k23 : Keeps := ⟨fun i => (([] : List (Nat × List Bool)).lookup i).getD [], fun i => (([] : List (Nat × List Bool)).lookup i).getD [], [Z,Z,X,Z]⟩
def k24 : Keeps := ⟨fun i => (([(1, [Z,Z,Z,X,Z,Z,Z,Z,Z,Z,Z,Z,Z,Z,Z]), (0, [Z,Z,Z,X,Z,Z,Z,Z,Z,Z,Z,Z,Z,Z,Z])] : List (Nat × List Bool)).lookup i).getD [], fun i => (([] : List (Nat × List Bool)).lookup i).getD [], [Z,Z,X,Z,Z,Z,Z,Z,Z,Z,Z,Z,Z,Z,Z]⟩
def k25 : Keeps := ⟨fun i => (([] : List (Nat × List Bool)).lookup i).getD [], fun i => (([] : List (Nat × List Bool)).lookup i).getD [], [Z,Z,X,X,Z,Z,Z,Z,Z,Z,Z,Z,Z]⟩
def k26 : Keeps := ⟨fun i => (([(1, [Z,Z,Z,Z,X,X,X,Z,X,Z,Z,Z,Z,Z,Z,Z,Z,Z,Z,Z,Z,Z,X,X,X,Z,Z,Z,Z,Z,Z,Z,Z,Z,Z,Z,Z,Z,Z,Z,Z,Z]), (0, [Z,Z,Z,Z,X,X,X,Z,Z,Z,Z,Z,Z,Z,Z,Z,Z,Z,Z,Z,Z,Z,Z,Z,Z,Z,Z,Z,Z,Z,Z,Z,Z,Z,Z,Z,Z,Z,Z,Z,Z,Z])] : List (Nat × List Bool)).lookup i).getD [], fun i => (([(7, [Z,Z,Z,Z,X,X,X,Z,X,Z,Z,Z,Z,Z,Z,Z,Z,Z,Z,Z,Z,Z,X,X,X,Z,Z,Z,Z,Z,Z,Z,Z,Z,Z,Z,Z,Z,Z,Z,Z,Z])] : List (Nat × List Bool)).lookup i).getD [], [Z,Z,Z,Z,X,X,X,Z,Z,Z,Z,Z,Z,Z,Z,Z,Z,Z,Z,Z,Z,Z,Z,Z,Z,Z,Z,Z,Z,Z,Z,Z,Z,Z,Z,Z,Z,Z,Z,Z,Z,Z]⟩
def k27 : Keeps := ⟨fun i => (([(3, [Z,Z,Z,X,X,Z,X,Z,Z,Z,Z,Z,Z,Z,Z,X,X,X,Z,Z,Z,Z,Z,X,X,X,Z,Z,Z,Z,Z,Z,Z,Z,Z,Z,Z,Z,Z,Z,Z,Z,Z,Z,Z,Z,Z,Z,Z,Z,Z,Z,Z,Z,Z,Z,Z,Z,Z,Z,Z,Z,Z,Z,Z,Z,Z,Z,Z,Z,Z]), (2, [Z,Z,Z,X,X,Z,X,Z,Z,Z,Z,Z,Z,Z,Z,X,X,X,Z,Z,Z,Z,Z,Z,Z,Z,Z,Z,Z,Z,Z,Z,Z,Z,Z,Z,Z,Z,Z,Z,Z,Z,Z,Z,Z,Z,Z,Z,Z,Z,Z,Z,Z,Z,Z,Z,Z,Z,Z,Z,Z,Z,Z,Z,Z,Z,Z,Z,Z,Z,Z]), (1, [Z,Z,Z,X,Z,Z,Z,Z,Z,Z,Z,Z,Z,Z,Z,X,X,X,Z,Z,Z,Z,Z,Z,Z,Z,Z,Z,Z,Z,Z,Z,Z,Z,Z,Z,Z,Z,Z,Z,Z,Z,Z,Z,Z,Z,Z,Z,Z,Z,Z,Z,Z,Z,Z,Z,Z,Z,Z,Z,Z,Z,Z,Z,Z,Z,Z,Z,Z,Z,Z]), (0, [Z,Z,Z,X,Z,Z,Z,Z,Z,Z,Z,Z,Z,Z,Z,Z,Z,Z,Z,Z,Z,Z,Z,Z,Z,Z,Z,Z,Z,Z,Z,Z,Z,Z,Z,Z,Z,Z,Z,Z,Z,Z,Z,Z,Z,Z,Z,Z,Z,Z,Z,Z,Z,Z,Z,Z,Z,Z,Z,Z,Z,Z,Z,Z,Z,Z,Z,Z,Z,Z,Z])] : List (Nat × List Bool)).lookup i).getD [], fun i => (([(4, [Z,Z,Z,X,Z,Z,Z,Z,Z,Z,Z,Z,Z,Z,Z,X,X,X,Z,Z,Z,Z,Z,Z,Z,Z,Z,Z,Z,Z,Z,Z,Z,Z,Z,Z,Z,Z,Z,Z,Z,Z,Z,Z,Z,Z,Z,Z,Z,Z,Z,Z,Z,Z,Z,Z,Z,Z,Z,Z,Z,Z,Z,Z,Z,Z,Z,Z,Z,Z,Z]), (8, [Z,Z,Z,X,X,Z,X,Z,Z,Z,Z,Z,Z,Z,Z,X,X,X,Z,Z,Z,Z,Z,X,X,X,Z,Z,Z,Z,Z,Z,Z,Z,Z,Z,Z,Z,Z,Z,Z,Z,Z,Z,Z,Z,Z,Z,Z,Z,Z,Z,Z,Z,Z,Z,Z,Z,Z,Z,Z,Z,Z,Z,Z,Z,Z,Z,Z,Z,Z])] : List (Nat × List Bool)).lookup i).getD [], [Z,Z,X,Z,Z,Z,Z,Z,Z,Z,Z,Z,Z,Z,Z,Z,Z,Z,Z,Z,Z,Z,Z,Z,Z,Z,Z,Z,Z,Z,Z,Z,Z,Z,Z,Z,Z,Z,Z,Z,Z,Z,Z,Z,Z,Z,Z,Z,Z,Z,Z,Z,Z,Z,Z,Z,Z,Z,Z,Z,Z,Z,Z,Z,Z,Z,Z,Z,Z,Z,Z]⟩
def k28 : Keeps := ⟨fun i => (([] : List (Nat × List Bool)).lookup i).getD [], fun i => (([] : List (Nat × List Bool)).lookup i).getD [], [Z,Z,Z,Z,Z,Z,X,X,Z,Z,Z,Z,Z,Z,Z,Z,Z,Z,Z,Z,Z,Z,Z,Z,Z,Z,Z,Z,Z]⟩
def k29 : Keeps := ⟨fun i => (([] : List (Nat × List Bool)).lookup i).getD [], fun i => (([] : List (Nat × List Bool)).lookup i).getD [], [Z,Z,Z,Z,X,X,Z,Z,Z,Z,Z,Z,Z,Z,Z,Z,Z,Z,Z,Z,Z,Z,Z,Z,Z,Z,Z,Z,Z]⟩
def k30 : Keeps := ⟨fun i => (([(0, [X,X,Z,Z,Z,Z,Z,Z,Z,Z,Z,X,Z,Z,Z,Z,Z,Z,Z,Z,Z,Z,Z,Z,Z,Z,Z,Z,Z,Z,Z,Z,Z,Z,Z,Z,Z,Z,Z,Z,Z,Z,Z]), (2, [Z,X,Z,Z,Z,Z,Z,Z,Z,X,X,Z,Z,Z,Z,Z,Z,Z,Z,Z,Z,Z,Z,Z,Z,Z,Z,Z,Z,Z,Z,Z,Z,Z,Z,Z,Z,Z,Z,Z,Z,Z,Z]), (1, [Z,X,Z,Z,Z,Z,Z,Z,Z,X,X,Z,Z,Z,Z,Z,Z,Z,Z,Z,Z,Z,Z,Z,Z,Z,Z,Z,Z,Z,Z,Z,Z,Z,Z,Z,Z,Z,Z,Z,Z,Z,Z])] : List (Nat × List Bool)).lookup i).getD [], fun i => (([] : List (Nat × List Bool)).lookup i).getD [], [Z,Z,Z,Z,X,X,X,Z,Z,Z,Z,Z,Z,Z,Z,Z,Z,Z,Z,Z,Z,Z,Z,Z,Z,Z,Z,Z,Z,Z,Z,Z,Z,Z,Z,Z,Z,Z,Z,Z,Z,Z,Z]⟩
def k31 : Keeps := ⟨fun i => (([(1, [Z,Z,X,Z,Z,Z,Z,Z,Z,Z,Z,Z,Z]), (0, [Z,Z,X,Z,Z,Z,Z,Z,Z,Z,Z,Z,Z])] : List (Nat × List Bool)).lookup i).getD [], fun i => (([] : List (Nat × List Bool)).lookup i).getD [], [Z,Z,Z,Z,X,Z,Z,Z,Z,Z,Z,Z,Z]⟩
def k32 : Keeps := ⟨fun i => (([] : List (Nat × List Bool)).lookup i).getD [], fun i => (([] : List (Nat × List Bool)).lookup i).getD [], [Z,Z,Z,Z,X,Z]⟩
def k33 : Keeps := ⟨fun i => (([] : List (Nat × List Bool)).lookup i).getD [], fun i => (([] : List (Nat × List Bool)).lookup i).getD [], [Z,Z,Z,Z,Z,Z,X,Z,Z,Z,Z,Z,Z,Z,Z,Z,Z,Z,Z,Z,Z,Z,Z,Z,Z,Z,Z,Z,Z,Z,Z,Z,Z,Z,Z,Z,Z,Z,Z,Z,Z,Z,Z,Z,Z,Z,Z,Z,Z,Z,Z,Z,Z,Z,Z,Z,Z,Z,Z,Z]⟩
def k34 : Keeps := ⟨fun i => (([(3, [X,Z,Z,X,X,X,X,Z,Z,Z,Z,Z,Z,Z,Z,Z,Z,Z,Z,Z,Z,Z,Z,Z,Z,Z,Z,Z,Z,Z,Z,Z,Z,Z,Z,Z,Z,Z,Z,Z,Z,Z,Z,Z,Z,Z,Z,Z,Z]), (2, [X,Z,Z,X,X,X,Z,Z,Z,Z,Z,Z,Z,Z,Z,Z,Z,Z,Z,Z,Z,Z,Z,Z,Z,Z,Z,Z,Z,Z,Z,Z,Z,Z,Z,Z,Z,Z,Z,Z,Z,Z,Z,Z,Z,Z,Z,Z,Z]), (1, [X,Z,Z,X,X,X,Z,Z,Z,Z,Z,Z,Z,Z,Z,Z,Z,Z,Z,Z,Z,Z,Z,Z,Z,Z,Z,Z,Z,Z,Z,Z,Z,Z,Z,Z,Z,Z,Z,Z,Z,Z,Z,Z,Z,Z,Z,Z,Z]), (0, [Z,Z,Z,X,Z,Z,Z,Z,Z,Z,Z,Z,Z,Z,Z,Z,Z,Z,Z,Z,Z,Z,Z,Z,Z,Z,Z,Z,Z,Z,Z,Z,Z,Z,Z,Z,Z,Z,Z,Z,Z,Z,Z,Z,Z,Z,Z,Z,Z])] : List (Nat × List Bool)).lookup i).getD [], fun i => (([(4, [X,Z,Z,X,X,X,Z,Z,Z,Z,Z,Z,Z,Z,Z,Z,Z,Z,Z,Z,Z,Z,Z,Z,Z,Z,Z,Z,Z,Z,Z,Z,Z,Z,Z,Z,Z,Z,Z,Z,Z,Z,Z,Z,Z,Z,Z,Z,Z]), (7, [X,Z,Z,X,X,X,X,Z,Z,Z,Z,Z,Z,Z,Z,Z,Z,Z,Z,Z,Z,Z,Z,Z,Z,Z,Z,Z,Z,Z,Z,Z,Z,Z,Z,Z,Z,Z,Z,Z,Z,Z,Z,Z,Z,Z,Z,Z,Z])] : List (Nat × List Bool)).lookup i).getD [], [Z,Z,X,Z,Z,Z,Z,Z,Z,Z,Z,Z,Z,Z,Z,Z,Z,Z,Z,Z,Z,Z,Z,Z,Z,Z,Z,Z,Z,Z,Z,Z,Z,Z,Z,Z,Z,Z,Z,Z,Z,Z,Z,Z,Z,Z,Z,Z,Z]⟩
def k35 : Keeps := ⟨fun i => (([(3, [Z,Z,X,X,X,X,X,Z,Z,Z,Z,Z,Z,Z,Z,Z,Z,Z,Z,Z,Z,Z,Z,Z,Z,Z,Z,Z,Z,Z,Z,Z,Z,Z,Z,Z,Z,Z,Z,Z,Z,Z,Z,Z,Z,Z,Z,Z]), (2, [Z,Z,X,X,X,X,X,Z,Z,Z,Z,Z,Z,Z,Z,Z,Z,Z,Z,Z,Z,Z,Z,Z,Z,Z,Z,Z,Z,Z,Z,Z,Z,Z,Z,Z,Z,Z,Z,Z,Z,Z,Z,Z,Z,Z,Z,Z]), (1, [Z,Z,X,X,X,X,X,Z,Z,Z,Z,Z,Z,Z,Z,Z,Z,Z,Z,Z,Z,Z,Z,Z,Z,Z,Z,Z,Z,Z,Z,Z,Z,Z,Z,Z,Z,Z,Z,Z,Z,Z,Z,Z,Z,Z,Z,Z]), (0, [Z,Z,Z,Z,Z,Z,Z,Z,Z,Z,Z,Z,Z,Z,Z,Z,Z,Z,Z,Z,Z,Z,Z,Z,Z,Z,Z,Z,Z,Z,Z,Z,Z,Z,Z,Z,Z,Z,Z,Z,Z,Z,Z,Z,Z,Z,Z,Z])] : List (Nat × List Bool)).lookup i).getD [], fun i => (([(3, [Z,Z,X,X,X,X,X,Z,Z,Z,Z,Z,Z,Z,Z,Z,Z,Z,Z,Z,Z,Z,Z,Z,Z,Z,Z,Z,Z,Z,Z,Z,Z,Z,Z,Z,Z,Z,Z,Z,Z,Z,Z,Z,Z,Z,Z,Z])] : List (Nat × List Bool)).lookup i).getD [], [Z,Z,Z,Z,Z,Z,Z,Z,Z,Z,Z,Z,Z,Z,Z,Z,Z,Z,Z,Z,Z,Z,Z,Z,Z,Z,Z,Z,Z,Z,Z,Z,Z,Z,Z,Z,Z,Z,Z,Z,Z,Z,Z,Z,Z,Z,Z,Z]⟩
def k36 : Keeps := ⟨fun i => (([] : List (Nat × List Bool)).lookup i).getD [], fun i => (([] : List (Nat × List Bool)).lookup i).getD [], [Z,Z,X,Z]⟩
def k37 : Keeps := ⟨fun i => (([] : List (Nat × List Bool)).lookup i).getD [], fun i => (([] : List (Nat × List Bool)).lookup i).getD [], [Z,Z,Z,Z,Z,Z,X,X,Z,Z,Z,Z,Z,Z,Z,Z,Z,Z,Z,Z,Z,Z,Z,Z,Z,Z,Z,Z,Z,Z,Z,Z,Z,Z,Z,Z,Z,Z,Z]⟩
def k38 : Keeps := ⟨fun i => (([(1, [X,X,Z,Z,Z,Z,Z,Z,X,X,Z,Z,Z,Z,Z,Z,Z,Z,Z,Z,Z,Z,Z,Z,Z,Z,Z,Z,Z,Z,Z,Z,Z,Z,Z,Z,Z,Z,Z,Z,Z]), (0, [X,X,Z,Z,Z,Z,Z,Z,Z,Z,Z,Z,Z,Z,Z,Z,Z,Z,Z,Z,Z,Z,Z,Z,Z,Z,Z,Z,Z,Z,Z,Z,Z,Z,Z,Z,Z,Z,Z,Z,Z])] : List (Nat × List Bool)).lookup i).getD [], fun i => (([(3, [X,X,Z,Z,Z,Z,Z,Z,X,X,Z,Z,Z,Z,Z,Z,Z,Z,Z,Z,Z,Z,Z,Z,Z,Z,Z,Z,Z,Z,Z,Z,Z,Z,Z,Z,Z,Z,Z,Z,Z])] : List (Nat × List Bool)).lookup i).getD [], [X,Z,Z,Z,Z,Z,Z,Z,Z,Z,Z,Z,Z,Z,Z,Z,Z,Z,Z,Z,Z,Z,Z,Z,Z,Z,Z,Z,Z,Z,Z,Z,Z,Z,Z,Z,Z,Z,Z,Z,Z]⟩
def k39 : Keeps := ⟨fun i => (([] : List (Nat × List Bool)).lookup i).getD [], fun i => (([] : List (Nat × List Bool)).lookup i).getD [], [Z,Z,Z,Z,X,Z,Z,Z,Z,Z,Z,Z]⟩
def k40 : Keeps := ⟨fun i => (([] : List (Nat × List Bool)).lookup i).getD [], fun i => (([] : List (Nat × List Bool)).lookup i).getD [], [Z,Z,Z,Z,X,X,Z,Z,Z,Z,Z,Z,Z,Z,Z,Z,Z,Z,Z,Z,Z,Z,Z,Z,Z,Z,Z,Z,Z,Z,Z,Z,Z,Z,Z,Z,Z,Z,Z,Z,Z,Z]⟩
def k41 : Keeps := ⟨fun i => (([] : List (Nat × List Bool)).lookup i).getD [], fun i => (([] : List (Nat × List Bool)).lookup i).getD [], [Z,Z,Z,Z,X,X,Z,Z,Z,Z,Z]⟩
def k42 : Keeps := ⟨fun i => (([] : List (Nat × List Bool)).lookup i).getD [], fun i => (([] : List (Nat × List Bool)).lookup i).getD [], [Z,Z,X,Z,Z,Z,Z,Z,Z,Z,Z,Z,Z,Z,Z,Z,Z,Z,Z,Z]⟩
def k43 : Keeps := ⟨fun i => (([] : List (Nat × List Bool)).lookup i).getD [], fun i => (([] : List (Nat × List Bool)).lookup i).getD [], [Z,Z,Z,Z,X,Z,Z,Z,Z,Z,Z,Z,Z,Z,Z,Z,Z,Z,Z,Z]⟩
def k44 : Keeps := ⟨fun i => (([] : List (Nat × List Bool)).lookup i).getD [], fun i => (([] : List (Nat × List Bool)).lookup i).getD [], [Z,Z,X,X,Z,Z,Z,Z,Z,Z,Z,Z,Z,Z,Z]⟩
def k45 : Keeps := ⟨fun i => (([] : List (Nat × List Bool)).lookup i).getD [], fun i => (([] : List (Nat × List Bool)).lookup i).getD [], [Z,Z,X,Z,Z,Z,Z,Z,Z,Z,Z,Z,Z]⟩
def k46 : Keeps := ⟨fun i => (([(1, [X,X,X,Z,X,Z,Z,Z,Z,Z,Z,Z,Z,Z,Z,Z,Z,Z,Z,Z,Z,Z,Z,Z,Z,Z,Z,Z,Z,Z,Z,Z]), (0, [Z,Z,Z,Z,Z,Z,Z,Z,Z,Z,Z,Z,Z,Z,Z,Z,Z,Z,Z,Z,Z,Z,Z,Z,Z,Z,Z,Z,Z,Z,Z,Z])] : List (Nat × List Bool)).lookup i).getD [], fun i => (([(1, [X,X,X,Z,X,Z,Z,Z,Z,Z,Z,Z,Z,Z,Z,Z,Z,Z,Z,Z,Z,Z,Z,Z,Z,Z,Z,Z,Z,Z,Z,Z])] : List (Nat × List Bool)).lookup i).getD [], [Z,Z,Z,Z,Z,Z,Z,Z,Z,Z,Z,Z,Z,Z,Z,Z,Z,Z,Z,Z,Z,Z,Z,Z,Z,Z,Z,Z,Z,Z,Z,Z]⟩
def k47 : Keeps := ⟨fun i => (([(0, [Z,X,Z,Z,X,Z,X,Z,Z,Z,Z,Z,Z,Z,Z,Z,Z,Z,Z,Z,Z,Z,Z,Z,Z,Z,Z,Z,Z,Z,Z,Z,Z,Z,Z,Z,Z,Z,Z,Z,Z,Z,Z,Z,Z,Z,Z,Z,Z,Z,Z,Z,Z,Z,Z,Z,Z,Z,Z,Z,Z,Z,Z,Z,Z,Z,Z,Z,Z,Z,Z,Z,Z,Z,Z,Z,Z,Z,Z,Z,Z,Z,Z,Z,Z,Z,Z,Z,Z,Z])] : List (Nat × List Bool)).lookup i).getD [], fun i => (([] : List (Nat × List Bool)).lookup i).getD [], [Z,Z,Z,Z,X,X,Z,Z,Z,Z,Z,Z,Z,Z,Z,Z,Z,Z,Z,Z,Z,Z,Z,Z,Z,Z,Z,Z,Z,Z,Z,Z,Z,Z,Z,Z,Z,Z,Z,Z,Z,Z,Z,Z,Z,Z,Z,Z,Z,Z,Z,Z,Z,Z,Z,Z,Z,Z,Z,Z,Z,Z,Z,Z,Z,Z,Z,Z,Z,Z,Z,Z,Z,Z,Z,Z,Z,Z,Z,Z,Z,Z,Z,Z,Z,Z,Z,Z,Z,Z]⟩
def k48 : Keeps := ⟨fun i => (([] : List (Nat × List Bool)).lookup i).getD [], fun i => (([] : List (Nat × List Bool)).lookup i).getD [], [Z,Z,Z,Z,Z,Z,Z,Z,Z,Z,Z,Z,Z,Z]⟩
def k49 : Keeps := ⟨fun i => (([(2, [X,Z,Z,Z,X,X,Z,Z,Z,Z,Z,Z,Z,Z,Z,Z,Z,Z,Z,Z,Z,Z,Z,Z,Z,Z,Z,Z,Z,Z]), (1, [X,Z,Z,Z,X,Z,Z,Z,Z,Z,Z,Z,Z,Z,Z,Z,Z,Z,Z,Z,Z,Z,Z,Z,Z,Z,Z,Z,Z,Z]), (0, [Z,Z,Z,Z,X,Z,Z,Z,Z,Z,Z,Z,Z,Z,Z,Z,Z,Z,Z,Z,Z,Z,Z,Z,Z,Z,Z,Z,Z,Z])] : List (Nat × List Bool)).lookup i).getD [], fun i => (([(5, [X,Z,Z,Z,X,Z,Z,Z,Z,Z,Z,Z,Z,Z,Z,Z,Z,Z,Z,Z,Z,Z,Z,Z,Z,Z,Z,Z,Z,Z])] : List (Nat × List Bool)).lookup i).getD [], [Z,Z,X,Z,Z,Z,Z,Z,Z,Z,Z,Z,Z,Z,Z,Z,Z,Z,Z,Z,Z,Z,Z,Z,Z,Z,Z,Z,Z,Z]⟩
def k50 : Keeps := ⟨fun i => (([] : List (Nat × List Bool)).lookup i).getD [], fun i => (([] : List (Nat × List Bool)).lookup i).getD [], [Z,Z,Z,Z,Z,Z,Z,Z,Z,Z]⟩
def k51 : Keeps := ⟨fun i => (([] : List (Nat × List Bool)).lookup i).getD [], fun i => (([] : List (Nat × List Bool)).lookup i).getD [], [X,Z,Z,Z,Z,Z]⟩
def k52 : Keeps := ⟨fun i => (([] : List (Nat × List Bool)).lookup i).getD [], fun i => (([] : List (Nat × List Bool)).lookup i).getD [], [Z,Z,Z,Z,Z,Z,Z,Z,X,Z,Z,Z,Z,Z,Z,Z,Z,Z,Z,Z,Z,Z,Z,Z,Z,Z,Z,Z,Z,Z,Z,Z,Z,Z,Z,Z,Z,Z]⟩
def k53 : Keeps := ⟨fun i => (([] : List (Nat × List Bool)).lookup i).getD [], fun i => (([] : List (Nat × List Bool)).lookup i).getD [], [Z,Z,Z,Z,Z,Z,Z,Z,X,Z,Z,Z,Z,Z,Z,Z,Z,Z,Z,Z,Z,Z,Z,Z,Z,Z,Z,Z,Z,Z,Z,Z,Z,Z,Z,Z,Z,Z,Z,Z,Z,Z,Z,Z,Z,Z,Z,Z,Z,Z,Z,Z,Z,Z,Z,Z,Z,Z,Z,Z,Z,Z,Z,Z,Z,Z,Z,Z,Z,Z]⟩
def k54 : Keeps := ⟨fun i => (([(1, [X,Z,Z,Z,Z,Z,X,X,X,Z,Z,Z,Z,Z,Z,Z,Z,Z,Z]), (0, [Z,Z,Z,Z,Z,Z,Z,Z,Z,Z,Z,Z,Z,Z,Z,Z,Z,Z,Z])] : List (Nat × List Bool)).lookup i).getD [], fun i => (([(1, [X,Z,Z,Z,Z,Z,X,X,X,Z,Z,Z,Z,Z,Z,Z,Z,Z,Z])] : List (Nat × List Bool)).lookup i).getD [], [Z,Z,Z,Z,Z,Z,Z,Z,Z,Z,Z,Z,Z,Z,Z,Z,Z,Z,Z]⟩
def k55 : Keeps := ⟨fun i => (([] : List (Nat × List Bool)).lookup i).getD [], fun i => (([] : List (Nat × List Bool)).lookup i).getD [], [Z,Z,Z,Z,Z,Z,X,Z,Z,Z,Z,Z,Z,Z,Z,Z,Z,Z,Z,Z,Z,Z,Z,Z,Z,Z,Z,Z,Z,Z,Z,Z,Z,Z,Z,Z,Z,Z,Z,Z,Z,Z,Z,Z,Z,Z,Z,Z,Z,Z,Z,Z,Z,Z,Z,Z,Z,Z,Z,Z,Z,Z,Z,Z,Z,Z,Z,Z,Z,Z,Z,Z]⟩
def k56 : Keeps := ⟨fun i => (([] : List (Nat × List Bool)).lookup i).getD [], fun i => (([] : List (Nat × List Bool)).lookup i).getD [], [Z,Z,X,Z,Z,Z,Z,Z]⟩
def k57 : Keeps := ⟨fun i => (([] : List (Nat × List Bool)).lookup i).getD [], fun i => (([] : List (Nat × List Bool)).lookup i).getD [], [X,Z,Z,Z,Z,Z,Z,Z,Z,Z,Z,Z,Z,Z,Z,Z,Z,Z,Z,Z,Z,Z,Z,Z,Z,Z,Z,Z,Z,Z,Z,Z,Z,Z,Z,Z,Z,Z,Z,Z,Z,Z,Z,Z,Z,Z,Z,Z,Z,Z,Z,Z,Z,Z,Z,Z,Z,Z,Z,Z,Z,Z,Z,Z,Z,Z,Z,Z,Z,Z,Z,Z,Z,Z,Z,Z,Z,Z,Z,Z,Z,Z,Z,Z,Z,Z,Z,Z,Z,Z,Z,Z,Z,Z,Z,Z,Z,Z,Z,Z,Z,Z,Z,Z,Z,Z,Z,Z,Z,Z,Z,Z,Z,Z,Z,Z,Z,Z,Z,Z,Z,Z,Z,Z,Z,Z,Z,Z,Z,Z,Z,Z,Z,Z,Z,Z,Z,Z,Z,Z,Z,Z,Z,Z,Z,Z,Z,Z,Z,Z,Z,Z,Z,Z,Z,Z,Z,Z,Z,Z,Z,Z,Z,Z,Z,Z,Z,Z,Z,Z,Z,Z,Z,Z,Z,Z,Z,Z,Z,Z,Z,Z,Z,Z,Z,Z,Z,Z,Z,Z]⟩
def k58 : Keeps := ⟨fun i => (([] : List (Nat × List Bool)).lookup i).getD [], fun i => (([] : List (Nat × List Bool)).lookup i).getD [], [Z,Z,X,Z,Z,Z,Z,Z]⟩
def k59 : Keeps := ⟨fun i => (([(1, [X,X,Z,Z,Z,Z,Z,X,X,Z,Z,Z,Z,Z,Z,Z,Z,Z,Z]), (0, [Z,Z,Z,Z,Z,Z,Z,Z,Z,Z,Z,Z,Z,Z,Z,Z,Z,Z,Z])] : List (Nat × List Bool)).lookup i).getD [], fun i => (([(2, [X,X,Z,Z,Z,Z,Z,X,X,Z,Z,Z,Z,Z,Z,Z,Z,Z,Z])] : List (Nat × List Bool)).lookup i).getD [], [Z,Z,Z,Z,X,Z,Z,Z,Z,Z,Z,Z,Z,Z,Z,Z,Z,Z,Z]⟩
def k60 : Keeps := ⟨fun i => (([] : List (Nat × List Bool)).lookup i).getD [], fun i => (([] : List (Nat × List Bool)).lookup i).getD [], [Z,Z,Z,Z,X,Z,Z,Z,Z,Z,Z,Z,Z]⟩
def k61 : Keeps := ⟨fun i => (([] : List (Nat × List Bool)).lookup i).getD [], fun i => (([] : List (Nat × List Bool)).lookup i).getD [], [Z,Z,Z,Z,X,X,Z,Z,Z,Z,Z,Z,Z,Z,Z]⟩
def k62 : Keeps := ⟨fun i => (([(1, [Z,Z,Z,Z,Z,Z,Z,Z,Z,Z,Z,Z,Z,Z,Z,Z,Z,Z,Z,Z,Z,Z,Z,Z,Z,Z,Z,Z,Z,Z,Z,Z,Z,Z,Z,Z,Z,Z,Z,Z,Z,Z,Z,Z,Z,Z,Z,Z,Z,Z,Z,Z,Z,Z,Z,Z,Z,Z,Z,Z,Z,Z,Z,Z,Z,Z,Z,Z,Z,Z]), (2, [Z,Z,Z,Z,Z,Z,Z,Z,Z,Z,Z,Z,Z,Z,Z,Z,Z,Z,Z,Z,Z,Z,Z,Z,Z,Z,Z,Z,Z,Z,Z,Z,Z,Z,Z,Z,Z,Z,Z,Z,Z,Z,Z,Z,Z,Z,Z,Z,Z,Z,Z,Z,Z,Z,Z,Z,Z,Z,Z,Z,Z,Z,Z,Z,Z,Z,Z,Z,Z,Z]), (3, [Z,Z,Z,Z,Z,Z,Z,Z,Z,Z,Z,Z,Z,Z,Z,Z,Z,Z,Z,Z,Z,Z,Z,Z,Z,Z,Z,Z,Z,Z,Z,Z,Z,Z,Z,Z,Z,Z,Z,Z,Z,Z,Z,Z,Z,Z,Z,Z,Z,Z,Z,Z,Z,Z,Z,Z,Z,Z,Z,Z,Z,Z,Z,Z,Z,Z,Z,Z,Z,Z]), (0, [Z,X,Z,Z,Z,X,Z,Z,Z,Z,Z,Z,Z,Z,Z,Z,Z,Z,Z,Z,Z,Z,Z,Z,Z,Z,Z,Z,Z,Z,Z,Z,Z,Z,Z,Z,Z,Z,Z,Z,Z,Z,Z,Z,Z,Z,Z,Z,Z,Z,Z,Z,Z,Z,Z,Z,Z,Z,Z,Z,Z,Z,Z,Z,Z,Z,Z,Z,Z,Z]), (4, [Z,Z,Z,Z,Z,Z,Z,Z,Z,Z,Z,Z,Z,Z,Z,Z,Z,Z,Z,Z,Z,Z,Z,Z,Z,Z,Z,Z,Z,Z,Z,Z,Z,Z,Z,Z,Z,Z,Z,Z,Z,Z,Z,Z,Z,Z,Z,Z,Z,Z,Z,Z,Z,Z,Z,Z,Z,Z,Z,Z,Z,Z,Z,Z,Z,Z,Z,Z,Z,Z])] : List (Nat × List Bool)).lookup i).getD [], fun i => (([] : List (Nat × List Bool)).lookup i).getD [], [Z,Z,Z,Z,X,Z,Z,Z,Z,Z,Z,Z,Z,Z,Z,Z,Z,Z,Z,Z,Z,Z,Z,Z,Z,Z,Z,Z,Z,Z,Z,Z,Z,Z,Z,Z,Z,Z,Z,Z,Z,Z,Z,Z,Z,Z,Z,Z,Z,Z,Z,Z,Z,Z,Z,Z,Z,Z,Z,Z,Z,Z,Z,Z,Z,Z,Z,Z,Z,Z]⟩
def k63 : Keeps := ⟨fun i => (([(1, [Z,X,Z,Z,Z,Z,Z,X,X,Z,Z,Z,Z,Z,Z,Z,Z,Z,Z,Z,Z,Z]), (0, [Z,Z,Z,Z,Z,Z,Z,Z,X,Z,Z,Z,Z,Z,Z,Z,Z,Z,Z,Z,Z,Z])] : List (Nat × List Bool)).lookup i).getD [], fun i => (([(3, [Z,X,Z,Z,Z,Z,Z,X,X,Z,Z,Z,Z,Z,Z,Z,Z,Z,Z,Z,Z,Z])] : List (Nat × List Bool)).lookup i).getD [], [Z,Z,Z,Z,Z,Z,X,Z,Z,Z,Z,Z,Z,Z,Z,Z,Z,Z,Z,Z,Z,Z]⟩
def k64 : Keeps := ⟨fun i => (([] : List (Nat × List Bool)).lookup i).getD [], fun i => (([] : List (Nat × List Bool)).lookup i).getD [], [Z,Z,Z,Z,X,Z,Z,Z,Z,Z,Z,Z,Z,Z,Z]⟩
def k65 : Keeps := ⟨fun i => (([] : List (Nat × List Bool)).lookup i).getD [], fun i => (([] : List (Nat × List Bool)).lookup i).getD [], [Z,Z,Z,Z,Z,Z,X,X,Z,Z,Z,Z,Z,Z,Z,Z,Z,Z,Z,Z,Z,Z,Z,Z,Z]⟩
def k66 : Keeps := ⟨fun i => (([] : List (Nat × List Bool)).lookup i).getD [], fun i => (([] : List (Nat × List Bool)).lookup i).getD [], [Z,Z,Z,Z,X,Z,Z,Z]⟩
def k67 : Keeps := ⟨fun i => (([(1, [Z,Z,Z,Z,Z,X,Z,Z,Z,Z,Z,Z,Z,Z,Z,X,X,X,Z,Z,Z,Z,Z,Z,Z,Z,Z,Z,Z,Z,Z,Z,Z,Z,Z,Z,Z,Z,Z,Z,Z,Z,Z]), (0, [Z,Z,Z,Z,Z,X,Z,Z,Z,Z,Z,Z,Z,Z,Z,Z,Z,Z,Z,Z,Z,Z,Z,Z,Z,Z,Z,Z,Z,Z,Z,Z,Z,Z,Z,Z,Z,Z,Z,Z,Z,Z,Z])] : List (Nat × List Bool)).lookup i).getD [], fun i => (([(3, [Z,Z,Z,Z,Z,X,Z,Z,Z,Z,Z,Z,Z,Z,Z,X,X,X,Z,Z,Z,Z,Z,Z,Z,Z,Z,Z,Z,Z,Z,Z,Z,Z,Z,Z,Z,Z,Z,Z,Z,Z,Z])] : List (Nat × List Bool)).lookup i).getD [], [Z,Z,Z,Z,X,Z,Z,Z,Z,Z,Z,Z,Z,Z,Z,Z,Z,Z,Z,Z,Z,Z,Z,Z,Z,Z,Z,Z,Z,Z,Z,Z,Z,Z,Z,Z,Z,Z,Z,Z,Z,Z,Z]⟩
def k68 : Keeps := ⟨fun i => (([] : List (Nat × List Bool)).lookup i).getD [], fun i => (([] : List (Nat × List Bool)).lookup i).getD [], [Z,Z,Z,Z,X,Z,Z,Z,Z,Z,Z]⟩
def k69 : Keeps := ⟨fun i => (([] : List (Nat × List Bool)).lookup i).getD [], fun i => (([] : List (Nat × List Bool)).lookup i).getD [], [Z,Z,X,Z,Z,Z,Z,Z,Z,Z,Z,Z,Z,Z,Z,Z,Z,Z,Z,Z,Z,Z,Z]⟩
def k70 : Keeps := ⟨fun i => (([] : List (Nat × List Bool)).lookup i).getD [], fun i => (([] : List (Nat × List Bool)).lookup i).getD [], [Z,Z,X,Z,Z,Z,Z,Z,Z,Z,Z,Z,Z,Z,Z,Z,Z,Z,Z,Z]⟩
def k71 : Keeps := ⟨fun i => (([] : List (Nat × List Bool)).lookup i).getD [], fun i => (([] : List (Nat × List Bool)).lookup i).getD [], [X,Z,Z,Z,Z,Z,Z,Z,Z,Z,Z,Z,Z,Z,Z,Z,Z,Z,Z,Z,Z,Z,Z,Z,Z,Z,Z,Z,Z,Z,Z,Z,Z,Z,Z,Z,Z,Z,Z,Z,Z,Z,Z,Z,Z,Z,Z,Z,Z,Z,Z,Z,Z,Z,Z,Z,Z,Z,Z,Z,Z,Z,Z,Z,Z,Z,Z,Z,Z,Z,Z,Z,Z,Z,Z,Z,Z,Z,Z,Z,Z,Z,Z,Z,Z,Z,Z,Z,Z,Z,Z,Z]⟩
def k72 : Keeps := ⟨fun i => (([] : List (Nat × List Bool)).lookup i).getD [], fun i => (([] : List (Nat × List Bool)).lookup i).getD [], [X,Z,Z,Z,Z,Z,Z,Z,Z,Z,Z,Z,Z,Z,Z,Z,Z,Z,Z,Z,Z,Z,Z,Z,Z,Z,Z,Z,Z,Z,Z,Z,Z,Z,Z,Z,Z,Z,Z,Z,Z,Z,Z,Z,Z,Z,Z,Z,Z,Z,Z,Z,Z,Z,Z,Z,Z,Z,Z,Z,Z,Z,Z,Z,Z,Z,Z,Z,Z,Z,Z,Z,Z,Z,Z,Z,Z,Z,Z,Z,Z,Z,Z,Z,Z,Z,Z,Z,Z,Z,Z,Z,Z,Z,Z,Z,Z,Z,Z,Z]⟩
def k73 : Keeps := ⟨fun i => (([] : List (Nat × List Bool)).lookup i).getD [], fun i => (([] : List (Nat × List Bool)).lookup i).getD [], [X,Z,Z,Z,Z,Z,Z,Z,Z,Z,Z,Z,Z,Z,Z,Z,Z,Z,Z,Z,Z,Z,Z,Z,Z,Z,Z,Z,Z,Z,Z,Z,Z,Z,Z,Z,Z,Z,Z,Z,Z,Z]⟩
def k74 : Keeps := ⟨fun i => (([(1, [Z,X,X,X,Z,Z,X,Z,X,Z,Z,Z,Z,Z,Z,Z,Z,Z,Z,Z,Z,Z,Z,Z,Z,Z,Z,Z,Z,Z,Z,Z,Z,Z,Z,Z,Z,Z,Z,Z,Z,Z,Z,Z,Z,Z,Z,Z,Z,Z,Z,Z,Z,Z,Z,Z,Z,Z,Z,Z,Z]), (0, [Z,Z,Z,Z,Z,Z,X,Z,Z,Z,Z,Z,Z,Z,Z,Z,Z,Z,Z,Z,Z,Z,Z,Z,Z,Z,Z,Z,Z,Z,Z,Z,Z,Z,Z,Z,Z,Z,Z,Z,Z,Z,Z,Z,Z,Z,Z,Z,Z,Z,Z,Z,Z,Z,Z,Z,Z,Z,Z,Z,Z])] : List (Nat × List Bool)).lookup i).getD [], fun i => (([(5, [Z,X,X,X,Z,Z,X,Z,X,Z,Z,Z,Z,Z,Z,Z,Z,Z,Z,Z,Z,Z,Z,Z,Z,Z,Z,Z,Z,Z,Z,Z,Z,Z,Z,Z,Z,Z,Z,Z,Z,Z,Z,Z,Z,Z,Z,Z,Z,Z,Z,Z,Z,Z,Z,Z,Z,Z,Z,Z,Z])] : List (Nat × List Bool)).lookup i).getD [], [Z,Z,Z,Z,Z,Z,X,Z,Z,Z,Z,Z,Z,Z,Z,Z,Z,Z,Z,Z,Z,Z,Z,Z,Z,Z,Z,Z,Z,Z,Z,Z,Z,Z,Z,Z,Z,Z,Z,Z,Z,Z,Z,Z,Z,Z,Z,Z,Z,Z,Z,Z,Z,Z,Z,Z,Z,Z,Z,Z,Z]⟩
def k75 : Keeps := ⟨fun i => (([] : List (Nat × List Bool)).lookup i).getD [], fun i => (([] : List (Nat × List Bool)).lookup i).getD [], [Z,Z,Z,Z,X,Z,Z,Z,Z,Z,Z,Z,Z,Z,Z,Z,Z,Z]⟩
def k76 : Keeps := ⟨fun i => (([] : List (Nat × List Bool)).lookup i).getD [], fun i => (([] : List (Nat × List Bool)).lookup i).getD [], [Z,Z,Z,Z,X,Z,Z,Z,Z,Z]⟩
def k77 : Keeps := ⟨fun i => (([(1, [Z,X,Z,Z,Z,X,Z,Z,Z,Z,X,X,X,Z,Z,Z,Z,Z,Z,Z,Z,Z,Z,Z,Z,Z]), (0, [Z,Z,Z,Z,Z,X,Z,Z,Z,Z,Z,Z,Z,Z,Z,Z,Z,Z,Z,Z,Z,Z,Z,Z,Z,Z])] : List (Nat × List Bool)).lookup i).getD [], fun i => (([(3, [Z,X,Z,Z,Z,X,Z,Z,Z,Z,X,X,X,Z,Z,Z,Z,Z,Z,Z,Z,Z,Z,Z,Z,Z])] : List (Nat × List Bool)).lookup i).getD [], [Z,Z,Z,Z,X,Z,Z,Z,Z,Z,Z,Z,Z,Z,Z,Z,Z,Z,Z,Z,Z,Z,Z,Z,Z,Z]⟩
def k78 : Keeps := ⟨fun i => (([] : List (Nat × List Bool)).lookup i).getD [], fun i => (([] : List (Nat × List Bool)).lookup i).getD [], [Z,Z,Z,X,Z,Z,Z,Z,Z,Z,Z,Z,Z,Z,Z,Z,Z,Z]⟩
def k79 : Keeps := ⟨fun i => (([(0, [X,X,X,Z,Z,Z,Z,Z,X,Z,Z,Z,Z,Z,Z,Z,Z,Z,Z,Z,Z,Z,Z,Z,Z,Z,Z,Z,Z,Z,Z,Z,Z,Z,Z,Z,Z,Z,Z,Z,Z,Z,Z,Z,Z,Z,Z,Z,Z,Z,Z,Z,Z,Z,Z,Z,Z,Z,Z,Z,Z,Z,Z,Z,Z,Z,Z,Z,Z,Z,Z,Z,Z])] : List (Nat × List Bool)).lookup i).getD [], fun i => (([] : List (Nat × List Bool)).lookup i).getD [], [Z,Z,Z,Z,Z,Z,X,X,Z,Z,Z,Z,Z,Z,Z,Z,Z,Z,Z,Z,Z,Z,Z,Z,Z,Z,Z,Z,Z,Z,Z,Z,Z,Z,Z,Z,Z,Z,Z,Z,Z,Z,Z,Z,Z,Z,Z,Z,Z,Z,Z,Z,Z,Z,Z,Z,Z,Z,Z,Z,Z,Z,Z,Z,Z,Z,Z,Z,Z,Z,Z,Z,Z]⟩
def k80 : Keeps := ⟨fun i => (([(0, [Z,Z,Z,Z,X,Z,Z,Z,Z,Z,Z,Z,Z,Z,Z,Z,Z,Z,Z,Z,Z,Z,Z,Z,Z,Z,Z,Z,Z,Z,Z,Z,Z,Z,Z,Z,Z,Z,Z,Z,Z,Z,Z])] : List (Nat × List Bool)).lookup i).getD [], fun i => (([] : List (Nat × List Bool)).lookup i).getD [], [Z,Z,Z,Z,Z,Z,Z,Z,Z,Z,X,Z,Z,Z,Z,Z,Z,Z,Z,Z,Z,Z,Z,Z,Z,Z,Z,Z,Z,Z,Z,Z,Z,Z,Z,Z,Z,Z,Z,Z,Z,Z,Z]⟩
def k82 : Keeps := ⟨fun i => (([] : List (Nat × List Bool)).lookup i).getD [], fun i => (([] : List (Nat × List Bool)).lookup i).getD [], [Z,Z,Z,Z,X,Z,Z,Z,Z,Z,Z,Z,Z,Z,Z,Z,Z,Z,Z,Z,Z,Z]⟩
def k83 : Keeps := ⟨fun i => (([] : List (Nat × List Bool)).lookup i).getD [], fun i => (([] : List (Nat × List Bool)).lookup i).getD [], [Z,Z,X,Z,Z,Z,Z,Z,Z,Z,Z,Z,Z,Z,Z,Z,Z,Z,Z]⟩
def k84 : Keeps := ⟨fun i => (([(0, [X,Z,Z,Z,Z,Z,Z,Z,Z,Z,Z,Z,Z,Z,Z,Z,Z,Z,Z,Z,Z,Z,Z,Z,Z,Z,Z,Z,Z,Z,Z,Z,Z,Z,Z,Z,Z,Z,Z,Z,Z,Z,Z,Z,Z,Z,Z,Z,Z,Z,Z,Z])] : List (Nat × List Bool)).lookup i).getD [], fun i => (([] : List (Nat × List Bool)).lookup i).getD [], [Z,Z,X,Z,Z,Z,Z,Z,Z,Z,Z,Z,Z,Z,Z,Z,Z,Z,Z,Z,Z,Z,Z,Z,Z,Z,Z,Z,Z,Z,Z,Z,Z,Z,Z,Z,Z,Z,Z,Z,Z,Z,Z,Z,Z,Z,Z,Z,Z,Z,Z,Z]⟩
def k85 : Keeps := ⟨fun i => (([] : List (Nat × List Bool)).lookup i).getD [], fun i => (([] : List (Nat × List Bool)).lookup i).getD [], [Z,Z,Z,Z,Z,Z,Z,Z,Z,Z,Z,Z,Z,Z,Z,Z,X,Z,Z,Z,Z,Z,Z,Z,Z,Z]⟩
def k86 : Keeps := ⟨fun i => (([(1, [Z,X,X,X,Z,Z,Z,X,Z,Z,Z,Z,Z,Z,Z,Z,Z,Z,Z,Z,Z,Z,Z,Z,Z,Z,Z,Z,Z,Z,Z]), (0, [Z,Z,Z,Z,Z,Z,Z,Z,Z,Z,Z,Z,Z,Z,Z,Z,Z,Z,Z,Z,Z,Z,Z,Z,Z,Z,Z,Z,Z,Z,Z])] : List (Nat × List Bool)).lookup i).getD [], fun i => (([(2, [Z,X,X,X,Z,Z,Z,X,Z,Z,Z,Z,Z,Z,Z,Z,Z,Z,Z,Z,Z,Z,Z,Z,Z,Z,Z,Z,Z,Z,Z])] : List (Nat × List Bool)).lookup i).getD [], [Z,Z,Z,Z,Z,Z,X,Z,Z,Z,Z,Z,Z,Z,Z,Z,Z,Z,Z,Z,Z,Z,Z,Z,Z,Z,Z,Z,Z,Z,Z]⟩
def k87 : Keeps := ⟨fun i => (([] : List (Nat × List Bool)).lookup i).getD [], fun i => (([] : List (Nat × List Bool)).lookup i).getD [], [Z,Z,Z,Z,X,Z,Z,Z,Z,Z,Z,Z,Z,Z,Z,Z,Z,Z,Z,Z,Z,Z]⟩
def k88 : Keeps := ⟨fun i => (([(1, [X,X,X,Z,Z,Z,Z,Z,X,X,Z,Z,Z,Z,Z,Z,Z,Z,Z,Z,Z,Z,Z,Z,Z,Z,Z,Z,Z,Z,Z,Z,Z,Z,Z,Z,Z,Z,Z,Z,Z,Z,Z,Z,Z,Z,Z,Z,Z,Z,Z,Z,Z,Z,Z,Z,Z,Z,Z,Z,Z,Z,Z,Z,Z,Z,Z,Z,Z,Z,Z,Z,Z,Z,Z,Z,Z,Z,Z,Z,Z,Z,Z,Z,Z,Z,Z,Z,Z,Z,Z,Z,Z,Z,Z,Z,Z,Z,Z,Z,Z,Z,Z,Z,Z,Z,Z,Z,Z,Z,Z,Z,Z,Z,Z,Z,Z,Z,Z,Z,Z,Z,Z,Z,Z,Z,Z,Z,Z,Z,Z,Z,Z,Z,Z,Z,Z,Z,Z,Z,Z,Z,Z,Z,Z,Z,Z,Z,Z,Z,Z,Z,Z,Z,Z,Z,Z,Z,Z,Z,Z,Z,Z,Z,Z,Z,Z,Z,Z,Z,Z,Z]), (0, [X,X,X,Z,Z,Z,Z,Z,X,X,Z,Z,Z,Z,Z,Z,Z,Z,Z,Z,Z,Z,Z,Z,Z,Z,Z,Z,Z,Z,Z,Z,Z,Z,Z,Z,Z,Z,Z,Z,Z,Z,Z,Z,Z,Z,Z,Z,Z,Z,Z,Z,Z,Z,Z,Z,Z,Z,Z,Z,Z,Z,Z,Z,Z,Z,Z,Z,Z,Z,Z,Z,Z,Z,Z,Z,Z,Z,Z,Z,Z,Z,Z,Z,Z,Z,Z,Z,Z,Z,Z,Z,Z,Z,Z,Z,Z,Z,Z,Z,Z,Z,Z,Z,Z,Z,Z,Z,Z,Z,Z,Z,Z,Z,Z,Z,Z,Z,Z,Z,Z,Z,Z,Z,Z,Z,Z,Z,Z,Z,Z,Z,Z,Z,Z,Z,Z,Z,Z,Z,Z,Z,Z,Z,Z,Z,Z,Z,Z,Z,Z,Z,Z,Z,Z,Z,Z,Z,Z,Z,Z,Z,Z,Z,Z,Z,Z,Z,Z,Z,Z,Z]), (2, [X,X,X,Z,Z,Z,Z,Z,X,X,X,Z,Z,Z,Z,Z,Z,Z,Z,Z,Z,Z,Z,Z,Z,Z,Z,Z,Z,Z,Z,Z,Z,Z,Z,Z,Z,Z,Z,Z,Z,Z,Z,Z,Z,Z,Z,Z,Z,Z,Z,Z,Z,Z,Z,Z,Z,Z,Z,Z,Z,Z,Z,Z,Z,Z,Z,Z,Z,Z,Z,Z,Z,Z,Z,Z,Z,Z,Z,Z,Z,Z,Z,Z,Z,Z,Z,Z,Z,Z,Z,Z,Z,Z,Z,Z,Z,Z,Z,Z,Z,Z,Z,Z,Z,Z,Z,Z,Z,Z,Z,Z,Z,Z,Z,Z,Z,Z,Z,Z,Z,Z,Z,Z,Z,Z,Z,Z,Z,Z,Z,Z,Z,Z,Z,Z,Z,Z,Z,Z,Z,Z,Z,Z,Z,Z,Z,Z,Z,Z,Z,Z,Z,Z,Z,Z,Z,Z,Z,Z,Z,Z,Z,Z,Z,Z,Z,Z,Z,Z,Z,Z]), (5, [Z,X,Z,Z,Z,Z,Z,Z,X,X,X,X,X,X,Z,Z,X,Z,Z,Z,Z,Z,Z,Z,Z,Z,Z,Z,Z,Z,Z,Z,Z,Z,Z,Z,Z,Z,Z,Z,Z,Z,Z,Z,Z,Z,Z,Z,Z,Z,Z,Z,Z,Z,Z,Z,Z,Z,Z,Z,Z,Z,Z,Z,Z,Z,Z,Z,Z,Z,Z,Z,Z,Z,Z,Z,Z,Z,Z,Z,Z,Z,Z,Z,Z,Z,Z,Z,Z,Z,Z,Z,Z,Z,Z,Z,Z,Z,Z,X,X,X,Z,Z,Z,Z,Z,Z,Z,Z,Z,Z,Z,Z,Z,Z,Z,Z,Z,Z,Z,Z,Z,Z,Z,Z,Z,Z,Z,Z,Z,Z,Z,Z,Z,Z,Z,Z,Z,Z,Z,Z,Z,Z,Z,Z,Z,Z,Z,Z,Z,Z,Z,Z,Z,Z,Z,Z,Z,Z,Z,Z,Z,Z,Z,Z,Z,Z,Z,Z,Z,Z]), (4, [Z,X,Z,Z,Z,Z,Z,Z,X,X,X,X,X,X,Z,Z,Z,Z,Z,Z,Z,Z,Z,Z,Z,Z,Z,Z,Z,Z,Z,Z,Z,Z,Z,Z,Z,Z,Z,Z,Z,Z,Z,Z,Z,Z,Z,Z,Z,Z,Z,Z,Z,Z,Z,Z,Z,Z,Z,Z,Z,Z,Z,Z,Z,Z,Z,Z,Z,Z,Z,Z,Z,Z,Z,Z,Z,Z,Z,Z,Z,Z,Z,Z,Z,Z,Z,Z,Z,Z,Z,Z,Z,Z,Z,Z,Z,Z,Z,X,X,X,Z,Z,Z,Z,Z,Z,Z,Z,Z,Z,Z,Z,Z,Z,Z,Z,Z,Z,Z,Z,Z,Z,Z,Z,Z,Z,Z,Z,Z,Z,Z,Z,Z,Z,Z,Z,Z,Z,Z,Z,Z,Z,Z,Z,Z,Z,Z,Z,Z,Z,Z,Z,Z,Z,Z,Z,Z,Z,Z,Z,Z,Z,Z,Z,Z,Z,Z,Z,Z,Z]), (3, [Z,Z,Z,Z,Z,Z,Z,Z,Z,X,Z,Z,X,X,Z,Z,Z,Z,Z,Z,Z,Z,Z,Z,Z,Z,Z,Z,Z,Z,Z,Z,Z,Z,Z,Z,Z,Z,Z,Z,Z,Z,Z,Z,Z,Z,Z,Z,Z,Z,Z,Z,Z,Z,Z,Z,Z,Z,Z,Z,Z,Z,Z,Z,Z,Z,Z,Z,Z,Z,Z,Z,Z,Z,Z,Z,Z,Z,Z,Z,Z,Z,Z,Z,Z,Z,Z,Z,Z,Z,Z,Z,Z,Z,Z,Z,Z,Z,Z,Z,Z,Z,Z,Z,Z,Z,Z,Z,Z,Z,Z,Z,Z,Z,Z,Z,Z,Z,Z,Z,Z,Z,Z,Z,Z,Z,Z,Z,Z,Z,Z,Z,Z,Z,Z,Z,Z,Z,Z,Z,Z,Z,Z,Z,Z,Z,Z,Z,Z,Z,Z,Z,Z,Z,Z,Z,Z,Z,Z,Z,Z,Z,Z,Z,Z,Z,Z,Z,Z,Z,Z,Z])] : List (Nat × List Bool)).lookup i).getD [], fun i => (([(36, [Z,X,Z,Z,Z,Z,Z,Z,X,X,X,X,X,X,Z,Z,Z,Z,Z,Z,Z,Z,Z,Z,Z,Z,Z,Z,Z,Z,Z,Z,Z,Z,Z,Z,Z,Z,Z,Z,Z,Z,Z,Z,Z,Z,Z,Z,Z,Z,Z,Z,Z,Z,Z,Z,Z,Z,Z,Z,Z,Z,Z,Z,Z,Z,Z,Z,Z,Z,Z,Z,Z,Z,Z,Z,Z,Z,Z,Z,Z,Z,Z,Z,Z,Z,Z,Z,Z,Z,Z,Z,Z,Z,Z,Z,Z,Z,Z,X,X,X,Z,Z,Z,Z,Z,Z,Z,Z,Z,Z,Z,Z,Z,Z,Z,Z,Z,Z,Z,Z,Z,Z,Z,Z,Z,Z,Z,Z,Z,Z,Z,Z,Z,Z,Z,Z,Z,Z,Z,Z,Z,Z,Z,Z,Z,Z,Z,Z,Z,Z,Z,Z,Z,Z,Z,Z,Z,Z,Z,Z,Z,Z,Z,Z,Z,Z,Z,Z,Z,Z])] : List (Nat × List Bool)).lookup i).getD [], [Z,Z,Z,Z,Z,Z,X,X,Z,Z,Z,Z,Z,Z,Z,Z,Z,Z,Z,Z,Z,Z,Z,Z,Z,Z,Z,Z,Z,Z,Z,Z,Z,Z,Z,Z,Z,Z,Z,Z,Z,Z,Z,Z,Z,Z,Z,Z,Z,Z,Z,Z,Z,Z,Z,Z,Z,Z,Z,Z,Z,Z,Z,Z,Z,Z,Z,Z,Z,Z,Z,Z,Z,Z,Z,Z,Z,Z,Z,Z,Z,Z,Z,Z,Z,Z,Z,Z,Z,Z,Z,Z,Z,Z,Z,Z,Z,Z,Z,Z,Z,Z,Z,Z,Z,Z,Z,Z,Z,Z,Z,Z,Z,Z,Z,Z,Z,Z,Z,Z,Z,Z,Z,Z,Z,Z,Z,Z,Z,Z,Z,Z,Z,Z,Z,Z,Z,Z,Z,Z,Z,Z,Z,Z,Z,Z,Z,Z,Z,Z,Z,Z,Z,Z,Z,Z,Z,Z,Z,Z,Z,Z,Z,Z,Z,Z,Z,Z,Z,Z,Z,Z]⟩
def k89 : Keeps := ⟨fun i => (([] : List (Nat × List Bool)).lookup i).getD [], fun i => (([] : List (Nat × List Bool)).lookup i).getD [], [Z,Z,Z,Z,X,Z,Z,Z,Z,Z,Z]⟩
def k90 : Keeps := ⟨fun i => (([] : List (Nat × List Bool)).lookup i).getD [], fun i => (([] : List (Nat × List Bool)).lookup i).getD [], [Z,Z,Z,Z,X,Z,Z,Z,Z,Z,Z]⟩
def k91 : Keeps := ⟨fun i => (([] : List (Nat × List Bool)).lookup i).getD [], fun i => (([] : List (Nat × List Bool)).lookup i).getD [], [Z,Z,Z,Z,Z,Z,X,Z,Z,Z,Z,Z,Z,Z,Z,Z]⟩
def k92 : Keeps := ⟨fun i => (([] : List (Nat × List Bool)).lookup i).getD [], fun i => (([] : List (Nat × List Bool)).lookup i).getD [], [Z,Z,Z,Z,Z,Z,X,Z,Z,Z,Z,Z,Z,Z,Z,Z]⟩
def k94 : Keeps := ⟨fun i => (([] : List (Nat × List Bool)).lookup i).getD [], fun i => (([] : List (Nat × List Bool)).lookup i).getD [], [Z,Z,X,Z,Z,Z,Z,Z,Z,Z,Z,Z,Z,Z,Z,Z,Z,Z,Z,Z,Z,Z,Z,Z,Z,Z,Z,Z,Z,Z,Z,Z,Z,Z,Z,Z,Z,Z]⟩
def k95 : Keeps := ⟨fun i => (([] : List (Nat × List Bool)).lookup i).getD [], fun i => (([] : List (Nat × List Bool)).lookup i).getD [], [Z,Z,Z,Z,Z,Z,X,Z,Z,Z,Z,Z,Z,Z,Z,Z,Z,Z,Z,Z,Z,Z,Z,Z,Z,Z,Z,Z,Z,Z,Z,Z,Z,Z,Z,Z]⟩
def k96 : Keeps := ⟨fun i => (([] : List (Nat × List Bool)).lookup i).getD [], fun i => (([] : List (Nat × List Bool)).lookup i).getD [], [Z,Z,X,Z,Z]⟩
def k97 : Keeps := ⟨fun i => (([(1, [X,Z,Z,X,X,X,Z,Z,Z,Z,Z,Z,Z,Z,Z,Z,Z,Z,Z,Z,Z,Z,Z,Z,Z,Z,Z,Z,Z,Z,Z,Z,Z,Z,Z,Z,Z,Z,Z,Z,Z,Z,Z,Z,Z,Z,Z,Z,Z,Z,Z,Z,Z,Z,Z,Z,Z,Z,Z,Z,Z,Z,Z,Z,Z,Z,Z,Z,Z,Z,Z,Z,Z,Z,Z,Z,Z,Z,Z,Z,Z,Z,Z,Z,Z,Z,Z,Z,Z,Z,Z,Z,Z,Z]), (0, [Z,Z,Z,X,Z,Z,Z,Z,Z,Z,Z,Z,Z,Z,Z,Z,Z,Z,Z,Z,Z,Z,Z,Z,Z,Z,Z,Z,Z,Z,Z,Z,Z,Z,Z,Z,Z,Z,Z,Z,Z,Z,Z,Z,Z,Z,Z,Z,Z,Z,Z,Z,Z,Z,Z,Z,Z,Z,Z,Z,Z,Z,Z,Z,Z,Z,Z,Z,Z,Z,Z,Z,Z,Z,Z,Z,Z,Z,Z,Z,Z,Z,Z,Z,Z,Z,Z,Z,Z,Z,Z,Z,Z,Z])] : List (Nat × List Bool)).lookup i).getD [], fun i => (([(10, [X,Z,Z,X,X,X,Z,Z,Z,Z,Z,Z,Z,Z,Z,Z,Z,Z,Z,Z,Z,Z,Z,Z,Z,Z,Z,Z,Z,Z,Z,Z,Z,Z,Z,Z,Z,Z,Z,Z,Z,Z,Z,Z,Z,Z,Z,Z,Z,Z,Z,Z,Z,Z,Z,Z,Z,Z,Z,Z,Z,Z,Z,Z,Z,Z,Z,Z,Z,Z,Z,Z,Z,Z,Z,Z,Z,Z,Z,Z,Z,Z,Z,Z,Z,Z,Z,Z,Z,Z,Z,Z,Z,Z])] : List (Nat × List Bool)).lookup i).getD [], [Z,Z,X,Z,Z,Z,Z,Z,Z,Z,Z,Z,Z,Z,Z,Z,Z,Z,Z,Z,Z,Z,Z,Z,Z,Z,Z,Z,Z,Z,Z,Z,Z,Z,Z,Z,Z,Z,Z,Z,Z,Z,Z,Z,Z,Z,Z,Z,Z,Z,Z,Z,Z,Z,Z,Z,Z,Z,Z,Z,Z,Z,Z,Z,Z,Z,Z,Z,Z,Z,Z,Z,Z,Z,Z,Z,Z,Z,Z,Z,Z,Z,Z,Z,Z,Z,Z,Z,Z,Z,Z,Z,Z,Z]⟩
def k99 : Keeps := ⟨fun i => (([] : List (Nat × List Bool)).lookup i).getD [], fun i => (([] : List (Nat × List Bool)).lookup i).getD [], [Z,Z,X,Z,Z,Z,Z]⟩
def k100 : Keeps := ⟨fun i => (([] : List (Nat × List Bool)).lookup i).getD [], fun i => (([] : List (Nat × List Bool)).lookup i).getD [], [Z,Z,X,Z,Z]⟩
def k101 : Keeps := ⟨fun i => (([] : List (Nat × List Bool)).lookup i).getD [], fun i => (([] : List (Nat × List Bool)).lookup i).getD [], [Z,Z,X,Z,Z,Z,Z,Z,Z,Z,Z,Z,Z,Z,Z,Z,Z,Z,Z,Z,Z,Z,Z,Z,Z,Z,Z,Z,Z,Z,Z,Z]⟩
def k102 : Keeps := ⟨fun i => (([] : List (Nat × List Bool)).lookup i).getD [], fun i => (([] : List (Nat × List Bool)).lookup i).getD [], [Z,Z,X,Z,Z]⟩
def k103 : Keeps := ⟨fun i => (([] : List (Nat × List Bool)).lookup i).getD [], fun i => (([] : List (Nat × List Bool)).lookup i).getD [], [Z,Z,Z,Z,X,Z,Z,Z,Z]⟩
def k104 : Keeps := ⟨fun i => (([] : List (Nat × List Bool)).lookup i).getD [], fun i => (([] : List (Nat × List Bool)).lookup i).getD [], [Z,Z,Z,Z,X,Z,Z,Z,Z,Z,Z,Z,Z,Z,Z,Z,Z,Z,Z,Z,Z,Z,Z,Z,Z,Z,Z,Z,Z,Z,Z,Z,Z,Z,Z,Z,Z,Z,Z,Z,Z,Z,Z,Z,Z,Z,Z,Z,Z,Z,Z,Z,Z,Z]⟩
def k105 : Keeps := ⟨fun i => (([(1, [X,X,Z,Z,Z,Z,Z,X,X,Z,Z,Z,Z,Z,Z,Z,Z,Z,Z]), (0, [Z,Z,Z,Z,Z,Z,Z,Z,Z,Z,Z,Z,Z,Z,Z,Z,Z,Z,Z])] : List (Nat × List Bool)).lookup i).getD [], fun i => (([(2, [X,X,Z,Z,Z,Z,Z,X,X,Z,Z,Z,Z,Z,Z,Z,Z,Z,Z])] : List (Nat × List Bool)).lookup i).getD [], [Z,Z,Z,Z,X,Z,Z,Z,Z,Z,Z,Z,Z,Z,Z,Z,Z,Z,Z]⟩
def k106 : Keeps := ⟨fun i => (([] : List (Nat × List Bool)).lookup i).getD [], fun i => (([] : List (Nat × List Bool)).lookup i).getD [], [Z,Z,X,Z,Z,Z,Z,Z,Z,Z,Z,Z,Z,Z,Z]⟩
def k107 : Keeps := ⟨fun i => (([] : List (Nat × List Bool)).lookup i).getD [], fun i => (([] : List (Nat × List Bool)).lookup i).getD [], [Z,Z,X,Z,Z,Z,Z,Z,Z,Z,Z,Z,Z,Z,Z]⟩
def k108 : Keeps := ⟨fun i => (([(1, [X,X,Z,Z,X,Z,Z,Z,Z,Z,Z,Z,Z,Z,Z,Z,Z,Z,Z,Z,Z,Z,Z,Z,Z,Z,Z,Z,Z,Z,Z,Z,Z,Z,Z,Z,Z,Z,Z,Z,Z,Z,Z,Z,Z,Z,Z,Z,Z,Z,Z,Z,Z,Z,Z,Z,Z,Z,Z,Z,Z,Z,Z,Z,Z,Z,Z,Z,Z,Z,Z,Z,Z,Z,Z,Z,Z,Z,Z,Z,Z,Z,Z,Z,Z,Z,Z,Z,Z,Z,Z,Z,Z,Z,Z,Z,Z,Z,Z,Z,Z,Z,Z,Z,Z,Z,Z,Z,Z,Z,Z,Z,Z,Z,Z,Z,Z,Z,Z,Z,Z,Z,Z,Z,Z,Z,Z,Z,Z,Z,Z,Z,Z,Z,Z,Z,Z,Z,Z,Z,Z,Z,Z,Z,Z,Z,Z,Z,Z,Z,Z,Z,Z,Z,Z,Z,Z,Z,Z,Z,Z,Z,Z,Z,Z,Z,Z]), (0, [X,X,Z,Z,X,Z,Z,Z,Z,Z,Z,Z,Z,Z,Z,Z,Z,Z,Z,Z,Z,Z,Z,Z,Z,Z,Z,Z,Z,Z,Z,Z,Z,Z,Z,Z,Z,Z,Z,Z,Z,Z,Z,Z,Z,Z,Z,Z,Z,Z,Z,Z,Z,Z,Z,Z,Z,Z,Z,Z,Z,Z,Z,Z,Z,Z,Z,Z,Z,Z,Z,Z,Z,Z,Z,Z,Z,Z,Z,Z,Z,Z,Z,Z,Z,Z,Z,Z,Z,Z,Z,Z,Z,Z,Z,Z,Z,Z,Z,Z,Z,Z,Z,Z,Z,Z,Z,Z,Z,Z,Z,Z,Z,Z,Z,Z,Z,Z,Z,Z,Z,Z,Z,Z,Z,Z,Z,Z,Z,Z,Z,Z,Z,Z,Z,Z,Z,Z,Z,Z,Z,Z,Z,Z,Z,Z,Z,Z,Z,Z,Z,Z,Z,Z,Z,Z,Z,Z,Z,Z,Z,Z,Z,Z,Z,Z,Z])] : List (Nat × List Bool)).lookup i).getD [], fun i => (([(1, [X,X,Z,Z,X,Z,Z,Z,Z,Z,Z,Z,Z,Z,Z,Z,Z,Z,Z,Z,Z,Z,Z,Z,Z,Z,Z,Z,Z,Z,Z,Z,Z,Z,Z,Z,Z,Z,Z,Z,Z,Z,Z,Z,Z,Z,Z,Z,Z,Z,Z,Z,Z,Z,Z,Z,Z,Z,Z,Z,Z,Z,Z,Z,Z,Z,Z,Z,Z,Z,Z,Z,Z,Z,Z,Z,Z,Z,Z,Z,Z,Z,Z,Z,Z,Z,Z,Z,Z,Z,Z,Z,Z,Z,Z,Z,Z,Z,Z,Z,Z,Z,Z,Z,Z,Z,Z,Z,Z,Z,Z,Z,Z,Z,Z,Z,Z,Z,Z,Z,Z,Z,Z,Z,Z,Z,Z,Z,Z,Z,Z,Z,Z,Z,Z,Z,Z,Z,Z,Z,Z,Z,Z,Z,Z,Z,Z,Z,Z,Z,Z,Z,Z,Z,Z,Z,Z,Z,Z,Z,Z,Z,Z,Z,Z,Z,Z])] : List (Nat × List Bool)).lookup i).getD [], [Z,Z,Z,Z,Z,Z,Z,Z,Z,Z,Z,Z,Z,Z,Z,Z,Z,Z,Z,Z,Z,Z,Z,Z,Z,Z,Z,Z,Z,Z,Z,Z,Z,Z,Z,Z,Z,Z,Z,Z,Z,Z,Z,Z,Z,Z,Z,Z,Z,Z,Z,Z,Z,Z,Z,Z,Z,Z,Z,Z,Z,Z,Z,Z,Z,Z,Z,Z,Z,Z,Z,Z,Z,Z,Z,Z,Z,Z,Z,Z,Z,Z,Z,Z,Z,Z,Z,Z,Z,Z,Z,Z,Z,Z,Z,Z,Z,Z,Z,Z,Z,Z,Z,Z,Z,Z,Z,Z,Z,Z,Z,Z,Z,Z,Z,Z,Z,Z,Z,Z,Z,Z,Z,Z,Z,Z,Z,Z,Z,Z,Z,Z,Z,Z,Z,Z,Z,Z,Z,Z,Z,Z,Z,Z,Z,Z,Z,Z,Z,Z,Z,Z,Z,Z,Z,Z,Z,Z,Z,Z,Z,Z,Z,Z,Z,Z,Z]⟩
def k109 : Keeps := ⟨fun i => (([(3, [X,X,Z,X,X,Z,Z,Z,Z,Z,X,X,X,X,Z,Z,Z,X,Z,Z,Z,Z,Z,Z,Z,Z,Z,Z,Z,Z,Z,Z,Z,Z,Z,Z,Z,Z,Z,Z,Z,Z,Z,Z,Z,Z,Z,Z,Z,Z,Z,Z,Z,Z,Z,Z,Z,Z,Z,Z,Z,Z,Z,Z,Z,Z,Z,Z,Z,Z,Z,Z,Z,Z,Z,Z,Z,Z,Z,Z,Z,Z,Z,Z,Z,Z,Z,Z,Z,Z,Z,Z,Z,Z,Z,Z,Z,Z,Z,Z,Z,Z]), (2, [X,X,Z,X,X,Z,Z,Z,Z,Z,X,X,X,X,Z,Z,Z,Z,Z,Z,Z,Z,Z,Z,Z,Z,Z,Z,Z,Z,Z,Z,Z,Z,Z,Z,Z,Z,Z,Z,Z,Z,Z,Z,Z,Z,Z,Z,Z,Z,Z,Z,Z,Z,Z,Z,Z,Z,Z,Z,Z,Z,Z,Z,Z,Z,Z,Z,Z,Z,Z,Z,Z,Z,Z,Z,Z,Z,Z,Z,Z,Z,Z,Z,Z,Z,Z,Z,Z,Z,Z,Z,Z,Z,Z,Z,Z,Z,Z,Z,Z,Z]), (1, [X,X,Z,X,X,Z,Z,Z,Z,Z,X,X,X,X,X,X,X,Z,Z,Z,Z,Z,Z,Z,Z,Z,Z,Z,Z,Z,Z,Z,Z,Z,Z,Z,Z,Z,Z,Z,Z,Z,Z,Z,Z,Z,Z,Z,Z,Z,Z,Z,Z,Z,Z,Z,Z,Z,Z,Z,Z,Z,Z,Z,Z,Z,Z,Z,Z,Z,Z,Z,Z,Z,Z,Z,Z,Z,Z,Z,Z,Z,Z,Z,Z,Z,Z,Z,Z,Z,Z,Z,Z,Z,Z,Z,Z,Z,Z,Z,Z,Z]), (0, [X,X,Z,X,X,Z,Z,Z,Z,Z,X,X,X,X,Z,Z,Z,Z,Z,Z,Z,Z,Z,Z,Z,Z,Z,Z,Z,Z,Z,Z,Z,Z,Z,Z,Z,Z,Z,Z,Z,Z,Z,Z,Z,Z,Z,Z,Z,Z,Z,Z,Z,Z,Z,Z,Z,Z,Z,Z,Z,Z,Z,Z,Z,Z,Z,Z,Z,Z,Z,Z,Z,Z,Z,Z,Z,Z,Z,Z,Z,Z,Z,Z,Z,Z,Z,Z,Z,Z,Z,Z,Z,Z,Z,Z,Z,Z,Z,Z,Z,Z])] : List (Nat × List Bool)).lookup i).getD [], fun i => (([(18, [X,X,Z,X,X,Z,Z,Z,Z,Z,X,X,X,X,Z,Z,Z,X,Z,Z,Z,Z,Z,Z,Z,Z,Z,Z,Z,Z,Z,Z,Z,Z,Z,Z,Z,Z,Z,Z,Z,Z,Z,Z,Z,Z,Z,Z,Z,Z,Z,Z,Z,Z,Z,Z,Z,Z,Z,Z,Z,Z,Z,Z,Z,Z,Z,Z,Z,Z,Z,Z,Z,Z,Z,Z,Z,Z,Z,Z,Z,Z,Z,Z,Z,Z,Z,Z,Z,Z,Z,Z,Z,Z,Z,Z,Z,Z,Z,Z,Z,Z]), (11, [X,X,Z,X,X,Z,Z,Z,Z,Z,X,X,X,X,X,X,X,Z,Z,Z,Z,Z,Z,Z,Z,Z,Z,Z,Z,Z,Z,Z,Z,Z,Z,Z,Z,Z,Z,Z,Z,Z,Z,Z,Z,Z,Z,Z,Z,Z,Z,Z,Z,Z,Z,Z,Z,Z,Z,Z,Z,Z,Z,Z,Z,Z,Z,Z,Z,Z,Z,Z,Z,Z,Z,Z,Z,Z,Z,Z,Z,Z,Z,Z,Z,Z,Z,Z,Z,Z,Z,Z,Z,Z,Z,Z,Z,Z,Z,Z,Z,Z])] : List (Nat × List Bool)).lookup i).getD [], [Z,Z,Z,Z,Z,Z,Z,Z,Z,Z,X,X,Z,Z,Z,Z,Z,Z,Z,Z,Z,Z,Z,Z,Z,Z,Z,Z,Z,Z,Z,Z,Z,Z,Z,Z,Z,Z,Z,Z,Z,Z,Z,Z,Z,Z,Z,Z,Z,Z,Z,Z,Z,Z,Z,Z,Z,Z,Z,Z,Z,Z,Z,Z,Z,Z,Z,Z,Z,Z,Z,Z,Z,Z,Z,Z,Z,Z,Z,Z,Z,Z,Z,Z,Z,Z,Z,Z,Z,Z,Z,Z,Z,Z,Z,Z,Z,Z,Z,Z,Z,Z]⟩
def k110 : Keeps := ⟨fun i => (([] : List (Nat × List Bool)).lookup i).getD [], fun i => (([] : List (Nat × List Bool)).lookup i).getD [], [Z,Z,X,Z,Z,Z]⟩
def k111 : Keeps := ⟨fun i => (([] : List (Nat × List Bool)).lookup i).getD [], fun i => (([] : List (Nat × List Bool)).lookup i).getD [], [Z,Z,X,Z,Z,Z,Z,Z,Z,Z,Z,Z,Z,Z,Z,Z,Z,Z,Z,Z,Z,Z,Z,Z,Z]⟩
def k112 : Keeps := ⟨fun i => (([] : List (Nat × List Bool)).lookup i).getD [], fun i => (([] : List (Nat × List Bool)).lookup i).getD [], [Z,Z,X,Z]⟩
def k113 : Keeps := ⟨fun i => (([] : List (Nat × List Bool)).lookup i).getD [], fun i => (([] : List (Nat × List Bool)).lookup i).getD [], [Z,Z,X,Z,Z,Z,Z,Z]⟩
def k114 : Keeps := ⟨fun i => (([] : List (Nat × List Bool)).lookup i).getD [], fun i => (([] : List (Nat × List Bool)).lookup i).getD [], [Z,Z,X,Z,Z,Z,Z,Z]⟩
def k115 : Keeps := ⟨fun i => (([] : List (Nat × List Bool)).lookup i).getD [], fun i => (([] : List (Nat × List Bool)).lookup i).getD [], [Z,Z,X,Z,Z,Z,Z,Z,Z,Z,Z,Z,Z,Z]⟩
def k116 : Keeps := ⟨fun i => (([] : List (Nat × List Bool)).lookup i).getD [], fun i => (([] : List (Nat × List Bool)).lookup i).getD [], [Z,Z,X,Z,Z,Z,Z,Z,Z,Z,Z,Z,Z,Z]⟩
theorem c3 : cFunc tT k3 f3.mode Tryd.f3 = some f3 := by kernel_rfl
theorem c4 : cFunc tT k4 f4.mode Tryd.f4 = some f4 := by kernel_rfl
theorem c5 : cFunc tT k5 f5.mode Tryd.f5 = some f5 := by kernel_rfl
theorem c6 : cFunc tT k6 f6.mode Tryd.f6 = some f6 := by kernel_rfl
theorem c7 : cFunc tT k7 f7.mode Tryd.f7 = some f7 := by kernel_rfl
theorem c8 : cFunc tT k8 f8.mode Tryd.f8 = some f8 := by kernel_rfl
theorem c9 : cFunc tT k9 f9.mode Tryd.f9 = some f9 := by kernel_rfl
theorem c10 : cFunc tT k10 f10.mode Tryd.f10 = some f10 := by kernel_rfl
theorem c11 : cFunc tT k11 f11.mode Tryd.f11 = some f11 := by kernel_rfl
theorem c12 : cFunc tT k12 f12.mode Tryd.f12 = some f12 := by kernel_rfl
theorem c13 : cFunc tT k13 f13.mode Tryd.f13 = some f13 := by kernel_rfl
theorem c14 : cFunc tT k14 f14.mode Tryd.f14 = some f14 := by kernel_rfl
theorem c15 : cFunc tT k15 f15.mode Tryd.f15 = some f15 := by kernel_rfl
theorem c16 : cFunc tT k16 f16.mode Tryd.f16 = some f16 := by kernel_rfl
theorem c17 : cFunc tT k17 f17.mode Tryd.f17 = some f17 := by kernel_rfl
theorem c18 : cFunc tT k18 f18.mode Tryd.f18 = some f18 := by kernel_rfl
theorem c19 : cFunc tT k19 f19.mode Tryd.f19 = some f19 := by kernel_rfl
theorem c20 : cFunc tT k20 f20.mode Tryd.f20 = some f20 := by kernel_rfl
theorem c21 : cFunc tT k21 f21.mode Tryd.f21 = some f21 := by kernel_rfl
theorem c22 : cFunc tT k22 f22.mode Tryd.f22 = some f22 := by kernel_rfl
theorem c23 : cFunc tT k23 f23.mode Tryd.f23 = some f23 := by kernel_rfl
theorem c24 : cFunc tT k24 f24.mode Tryd.f24 = some f24 := by kernel_rfl
theorem c25 : cFunc tT k25 f25.mode Tryd.f25 = some f25 := by kernel_rfl
theorem c26 : cFunc tT k26 f26.mode Tryd.f26 = some f26 := by kernel_rfl
theorem c27 : cFunc tT k27 f27.mode Tryd.f27 = some f27 := by kernel_rfl
theorem c28 : cFunc tT k28 f28.mode Tryd.f28 = some f28 := by kernel_rfl
theorem c29 : cFunc tT k29 f29.mode Tryd.f29 = some f29 := by kernel_rfl
theorem c30 : cFunc tT k30 f30.mode Tryd.f30 = some f30 := by kernel_rfl
theorem c31 : cFunc tT k31 f31.mode Tryd.f31 = some f31 := by kernel_rfl
theorem c32 : cFunc tT k32 f32.mode Tryd.f32 = some f32 := by kernel_rfl
theorem c33 : cFunc tT k33 f33.mode Tryd.f33 = some f33 := by kernel_rfl
theorem c34 : cFunc tT k34 f34.mode Tryd.f34 = some f34 := by kernel_rfl
theorem c35 : cFunc tT k35 f35.mode Tryd.f35 = some f35 := by kernel_rfl
theorem c36 : cFunc tT k36 f36.mode Tryd.f36 = some f36 := by kernel_rfl
theorem c37 : cFunc tT k37 f37.mode Tryd.f37 = some f37 := by kernel_rfl
theorem c38 : cFunc tT k38 f38.mode Tryd.f38 = some f38 := by kernel_rfl
theorem c39 : cFunc tT k39 f39.mode Tryd.f39 = some f39 := by kernel_rfl
theorem c40 : cFunc tT k40 f40.mode Tryd.f40 = some f40 := by kernel_rfl
theorem c41 : cFunc tT k41 f41.mode Tryd.f41 = some f41 := by kernel_rfl
theorem c42 : cFunc tT k42 f42.mode Tryd.f42 = some f42 := by kernel_rfl
theorem c43 : cFunc tT k43 f43.mode Tryd.f43 = some f43 := by kernel_rfl
theorem c44 : cFunc tT k44 f44.mode Tryd.f44 = some f44 := by kernel_rfl
theorem c45 : cFunc tT k45 f45.mode Tryd.f45 = some f45 := by kernel_rfl
theorem c46 : cFunc tT k46 f46.mode Tryd.f46 = some f46 := by kernel_rfl
theorem c47 : cFunc tT k47 f47.mode Tryd.f47 = some f47 := by kernel_rfl
theorem c48 : cFunc tT k48 f48.mode Tryd.f48 = some f48 := by kernel_rfl
theorem c49 : cFunc tT k49 f49.mode Tryd.f49 = some f49 := by kernel_rfl
theorem c50 : cFunc tT k50 f50.mode Tryd.f50 = some f50 := by kernel_rfl
theorem c51 : cFunc tT k51 f51.mode Tryd.f51 = some f51 := by kernel_rfl
theorem c52 : cFunc tT k52 f52.mode Tryd.f52 = some f52 := by kernel_rfl
theorem c53 : cFunc tT k53 f53.mode Tryd.f53 = some f53 := by kernel_rfl
theorem c54 : cFunc tT k54 f54.mode Tryd.f54 = some f54 := by kernel_rfl
theorem c55 : cFunc tT k55 f55.mode Tryd.f55 = some f55 := by kernel_rfl
theorem c56 : cFunc tT k56 f56.mode Tryd.f56 = some f56 := by kernel_rfl
theorem c57 : cFunc tT k57 f57.mode Tryd.f57 = some f57 := by kernel_rfl
theorem c58 : cFunc tT k58 f58.mode Tryd.f58 = some f58 := by kernel_rfl
theorem c59 : cFunc tT k59 f59.mode Tryd.f59 = some f59 := by kernel_rfl
theorem c60 : cFunc tT k60 f60.mode Tryd.f60 = some f60 := by kernel_rfl
theorem c61 : cFunc tT k61 f61.mode Tryd.f61 = some f61 := by kernel_rfl
theorem c62 : cFunc tT k62 f62.mode Tryd.f62 = some f62 := by kernel_rfl
theorem c63 : cFunc tT k63 f63.mode Tryd.f63 = some f63 := by kernel_rfl
theorem c64 : cFunc tT k64 f64.mode Tryd.f64 = some f64 := by kernel_rfl
theorem c65 : cFunc tT k65 f65.mode Tryd.f65 = some f65 := by kernel_rfl
theorem c66 : cFunc tT k66 f66.mode Tryd.f66 = some f66 := by kernel_rfl
theorem c67 : cFunc tT k67 f67.mode Tryd.f67 = some f67 := by kernel_rfl
theorem c68 : cFunc tT k68 f68.mode Tryd.f68 = some f68 := by kernel_rfl
theorem c69 : cFunc tT k69 f69.mode Tryd.f69 = some f69 := by kernel_rfl
theorem c70 : cFunc tT k70 f70.mode Tryd.f70 = some f70 := by kernel_rfl
theorem c71 : cFunc tT k71 f71.mode Tryd.f71 = some f71 := by kernel_rfl
theorem c72 : cFunc tT k72 f72.mode Tryd.f72 = some f72 := by kernel_rfl
theorem c73 : cFunc tT k73 f73.mode Tryd.f73 = some f73 := by kernel_rfl
theorem c74 : cFunc tT k74 f74.mode Tryd.f74 = some f74 := by kernel_rfl
theorem c75 : cFunc tT k75 f75.mode Tryd.f75 = some f75 := by kernel_rfl
theorem c76 : cFunc tT k76 f76.mode Tryd.f76 = some f76 := by kernel_rfl
theorem c77 : cFunc tT k77 f77.mode Tryd.f77 = some f77 := by kernel_rfl
theorem c78 : cFunc tT k78 f78.mode Tryd.f78 = some f78 := by kernel_rfl
theorem c79 : cFunc tT k79 f79.mode Tryd.f79 = some f79 := by kernel_rfl
theorem c80 : cFunc tT k80 f80.mode Tryd.f80 = some f80 := by kernel_rfl
theorem c82 : cFunc tT k82 f82.mode Tryd.f82 = some f82 := by kernel_rfl
theorem c83 : cFunc tT k83 f83.mode Tryd.f83 = some f83 := by kernel_rfl
theorem c84 : cFunc tT k84 f84.mode Tryd.f84 = some f84 := by kernel_rfl
theorem c85 : cFunc tT k85 f85.mode Tryd.f85 = some f85 := by kernel_rfl
theorem c86 : cFunc tT k86 f86.mode Tryd.f86 = some f86 := by kernel_rfl
theorem c87 : cFunc tT k87 f87.mode Tryd.f87 = some f87 := by kernel_rfl
theorem c88 : cFunc tT k88 f88.mode Tryd.f88 = some f88 := by kernel_rfl
theorem c89 : cFunc tT k89 f89.mode Tryd.f89 = some f89 := by kernel_rfl
theorem c90 : cFunc tT k90 f90.mode Tryd.f90 = some f90 := by kernel_rfl
theorem c91 : cFunc tT k91 f91.mode Tryd.f91 = some f91 := by kernel_rfl
theorem c92 : cFunc tT k92 f92.mode Tryd.f92 = some f92 := by kernel_rfl
theorem c94 : cFunc tT k94 f94.mode Tryd.f94 = some f94 := by kernel_rfl
theorem c95 : cFunc tT k95 f95.mode Tryd.f95 = some f95 := by kernel_rfl
theorem c96 : cFunc tT k96 f96.mode Tryd.f96 = some f96 := by kernel_rfl
theorem c97 : cFunc tT k97 f97.mode Tryd.f97 = some f97 := by kernel_rfl
theorem c99 : cFunc tT k99 f99.mode Tryd.f99 = some f99 := by kernel_rfl
theorem c100 : cFunc tT k100 f100.mode Tryd.f100 = some f100 := by kernel_rfl
theorem c101 : cFunc tT k101 f101.mode Tryd.f101 = some f101 := by kernel_rfl
theorem c102 : cFunc tT k102 f102.mode Tryd.f102 = some f102 := by kernel_rfl
theorem c103 : cFunc tT k103 f103.mode Tryd.f103 = some f103 := by kernel_rfl
theorem c104 : cFunc tT k104 f104.mode Tryd.f104 = some f104 := by kernel_rfl
theorem c105 : cFunc tT k105 f105.mode Tryd.f105 = some f105 := by kernel_rfl
theorem c106 : cFunc tT k106 f106.mode Tryd.f106 = some f106 := by kernel_rfl
theorem c107 : cFunc tT k107 f107.mode Tryd.f107 = some f107 := by kernel_rfl
theorem c108 : cFunc tT k108 f108.mode Tryd.f108 = some f108 := by kernel_rfl
theorem c109 : cFunc tT k109 f109.mode Tryd.f109 = some f109 := by kernel_rfl
theorem c110 : cFunc tT k110 f110.mode Tryd.f110 = some f110 := by kernel_rfl
theorem c111 : cFunc tT k111 f111.mode Tryd.f111 = some f111 := by kernel_rfl
theorem c112 : cFunc tT k112 f112.mode Tryd.f112 = some f112 := by kernel_rfl
theorem c113 : cFunc tT k113 f113.mode Tryd.f113 = some f113 := by kernel_rfl
theorem c114 : cFunc tT k114 f114.mode Tryd.f114 = some f114 := by kernel_rfl
theorem c115 : cFunc tT k115 f115.mode Tryd.f115 = some f115 := by kernel_rfl
theorem c116 : cFunc tT k116 f116.mode Tryd.f116 = some f116 := by kernel_rfl
def fnT : Nat → Option SFunc
  | 3 => some f3
  | 4 => some f4
  | 5 => some f5
  | 6 => some f6
  | 7 => some f7
  | 8 => some f8
  | 9 => some f9
  | 10 => some f10
  | 11 => some f11
  | 12 => some f12
  | 13 => some f13
  | 14 => some f14
  | 15 => some f15
  | 16 => some f16
  | 17 => some f17
  | 18 => some f18
  | 19 => some f19
  | 20 => some f20
  | 21 => some f21
  | 22 => some f22
  | 23 => some f23
  | 24 => some f24
  | 25 => some f25
  | 26 => some f26
  | 27 => some f27
  | 28 => some f28
  | 29 => some f29
  | 30 => some f30
  | 31 => some f31
  | 32 => some f32
  | 33 => some f33
  | 34 => some f34
  | 35 => some f35
  | 36 => some f36
  | 37 => some f37
  | 38 => some f38
  | 39 => some f39
  | 40 => some f40
  | 41 => some f41
  | 42 => some f42
  | 43 => some f43
  | 44 => some f44
  | 45 => some f45
  | 46 => some f46
  | 47 => some f47
  | 48 => some f48
  | 49 => some f49
  | 50 => some f50
  | 51 => some f51
  | 52 => some f52
  | 53 => some f53
  | 54 => some f54
  | 55 => some f55
  | 56 => some f56
  | 57 => some f57
  | 58 => some f58
  | 59 => some f59
  | 60 => some f60
  | 61 => some f61
  | 62 => some f62
  | 63 => some f63
  | 64 => some f64
  | 65 => some f65
  | 66 => some f66
  | 67 => some f67
  | 68 => some f68
  | 69 => some f69
  | 70 => some f70
  | 71 => some f71
  | 72 => some f72
  | 73 => some f73
  | 74 => some f74
  | 75 => some f75
  | 76 => some f76
  | 77 => some f77
  | 78 => some f78
  | 79 => some f79
  | 80 => some f80
  | 82 => some f82
  | 83 => some f83
  | 84 => some f84
  | 85 => some f85
  | 86 => some f86
  | 87 => some f87
  | 88 => some f88
  | 89 => some f89
  | 90 => some f90
  | 91 => some f91
  | 92 => some f92
  | 94 => some f94
  | 95 => some f95
  | 96 => some f96
  | 97 => some f97
  | 99 => some f99
  | 100 => some f100
  | 101 => some f101
  | 102 => some f102
  | 103 => some f103
  | 104 => some f104
  | 105 => some f105
  | 106 => some f106
  | 107 => some f107
  | 108 => some f108
  | 109 => some f109
  | 110 => some f110
  | 111 => some f111
  | 112 => some f112
  | 113 => some f113
  | 114 => some f114
  | 115 => some f115
  | 116 => some f116
  | _ => none
end Go.Proofs.YtleaeoncofgkjaaDoor
/- A listed variable that holds an error. Conditions: what the program's types are; a lemma. -/
namespace Go.Pv
open Go.RowKit
variable {T : Tie} {W : World}

/-- A listed variable's cells, out of the condition; what is left of it. -/
theorem laid_plain {name : String} {d : DataW Unit} {r : List (String × DataW Unit)} {ps : List MemPlace} (h : DataW.LaidVars T.P W ((name, d) :: r) ps) {g : Nat} (hg : T.P.globalNamed name = some g) {t : TypeId} (ht : (T.P.globals[g]?).map (·.type) = some t) {n : Nat} {l : List AV} (hd : dCells T.P n t d = some l) :
    (∃ c e fz ls, W.heap[g]? = some (.cells c e fz) ∧ RepL T (Ghost.met W) W l ls ∧ (∀ (i : Nat) (v : Value), ls[i]? = some v → c[i]? = some v)) ∧ ∃ q, DataW.LaidVars T.P W r q ∧ ∀ x ∈ q, x ∈ ps := by
  refine ⟨(laid_cells h hg ht hd (Ghost.met W)).1, ?_⟩
  simp only [DataW.LaidVars] at h
  obtain ⟨g', t', cs, fuel, p, q, h1, h2, h3, h4, h5, hps⟩ := h
  exact ⟨q, h5, fun x hx => by rw [hps]; exact List.mem_append_right _ hx⟩
theorem laid_err {name tn : String} {d : DataW Unit} {r : List (String × DataW Unit)} {ps : List MemPlace} (h : DataW.LaidVars T.P W ((name, .iface tn (.ptr d)) :: r) ps) {g : Nat} (hg : T.P.globalNamed name = some g) {t : TypeId} (ht : (T.P.globals[g]?).map (·.type) = some t)
    {ms : Array (String × TypeId)} (hi : T.P.underlying t = some (.interface ms)) {j : Nat} (hu : ∀ u, T.P.typeName? 3 u = some tn → u = T.tnum j) {e : TypeId} (hp : T.P.underlying (T.tnum j) = some (.pointer e)) (hok : ∀ b off, MemPlace.cell b off ∈ ps → ∀ u v, W.cell? ⟨b, off, none⟩ = some (.iface u v) → Value.okWide T.P W .any 0 u v) {n : Nat} {l : List AV} (hd : dCells T.P n e d = some l) (hl : 0 < l.length) :
    (∃ c e fz ls, W.heap[g]? = some (.cells c e fz) ∧ RepL T (Ghost.met W) W [.iface j (.pin l)] ls ∧ (∀ (i : Nat) (v : Value), ls[i]? = some v → c[i]? = some v)) ∧ ∃ q, DataW.LaidVars T.P W r q ∧ ∀ x ∈ q, x ∈ ps := by
  simp only [DataW.LaidVars] at h
  obtain ⟨g', t', cs, fuel, p, q, h1, h2, h3, h4, h5, hps⟩ := h
  rw [hg] at h1
  cases h1
  rw [ht] at h2
  cases h2
  refine ⟨?_, q, h5, fun x hx => by rw [hps]; exact List.mem_append_right _ hx⟩
  simp only [World.var?, hg, Option.bind_some] at h3
  split at h3
  · rename_i c el fz hb
    cases h3
    refine ⟨_, el, fz, cs.toList, hb, ?_, fun i v hv => by simpa using hv⟩
    cases fuel with
    | zero => simp [DataW.trod] at h4
    | succ fuel =>
      unfold DataW.trod at h4
      rw [hi] at h4
      simp only at h4
      generalize hcl : cs.toList = cl at h4 ⊢
      rcases cl with _ | ⟨v0, _ | ⟨v1, vs⟩⟩
      · simp at h4
      · cases v0 <;> first | (simp at h4; done) | skip
        rename_i u v
        simp only at h4
        split at h4
        · rename_i hc
          cases hc
        · rename_i nm hnm
          simp only [Option.map_eq_some_iff, Prod.mk.injEq, DataW.iface.injEq] at h4
          obtain ⟨⟨d1, p1⟩, h6, ⟨h7, h8⟩, h9⟩ := h4
          simp only at h8
          subst h7
          obtain rfl := hu u hnm
          subst h8
          cases fuel with
          | zero => simp [DataW.trod] at h6
          | succ fuel =>
            unfold DataW.trod at h6
            rw [hp] at h6
            generalize hvl : v.cells.toList = vl at h6
            rcases vl with _ | ⟨w0, _ | ⟨w1, ws⟩⟩
            · simp at h6
            · cases w0 <;> first | (simp at h6; done) | skip
              rename_i ad
              cases ad with
              | none => simp at h6
              | some a =>
                simp only [Option.map_eq_some_iff, Option.bind_eq_some_iff, Prod.mk.injEq, DataW.ptr.injEq] at h6
                obtain ⟨⟨d2, p2⟩, ⟨cs2, hc2, ht2⟩, ⟨h10, _⟩⟩ := h6
                simp only at h10
                subst h10
                have hr := dCells_rep (T := T) (W := W) (G := Ghost.met W) n fuel _ _ _ _ l ht2 hd
                obtain ⟨hb2, hn2, hall⟩ := World.cells?_some hc2
                have hlen := hr.length
                obtain ⟨ab, ao, asp⟩ := a
                have hadd : ∀ j, W.cell? (Addr.add ⟨ab, ao, asp⟩ j) = W.cell? ⟨ab, ao + j, if j = 0 then asp else none⟩ := by
                  intro j
                  unfold Addr.add
                  by_cases hj : j = 0
                  · subst hj; simp
                  · simp [hj]
                have hall' : ∀ (j : Nat) (x : Value), cs2[j]? = some x → W.cell? ⟨ab, ao + j, if j = 0 then asp else none⟩ = some x := by
                  intro j x hj
                  have hjl : j < cs2.length := (List.getElem?_eq_some_iff.1 hj).1
                  have := hall j (by omega)
                  rw [hj, hadd] at this
                  exact this
                have h0 : 0 < cs2.length := by omega
                have hc0 := hall' 0 cs2[0] (List.getElem?_eq_getElem h0)
                have hcell : ∃ c e fz, W.heap[ab]? = some (.cells c e fz) ∧ asp = none := by
                  cases hq : W.heap[ab]? with
                  | none => simp [World.cell?, hq] at hc0
                  | some ob =>
                    cases ob <;> first | (simp [World.cell?, hq] at hc0; done) | skip
                    rename_i c e fz
                    cases asp with
                    | none => exact ⟨c, e, fz, rfl, rfl⟩
                    | some z => simp [World.cell?, hq] at hc0
                obtain ⟨c2, e2, fz2, hq, rfl⟩ := hcell
                simp only [RepL, RepV]
                have hv : v = .pointer (some ⟨ab, ao, none⟩) := by
                  have hw := hok g 0 (by rw [hps]; simp [MemPlace.row]; left; have := congrArg List.length hcl; simp at this; rw [this]; exact Nat.one_pos) (T.tnum j) v (by
                    have := congrArg (·[0]?) hcl
                    simp only [World.cell?, hb]
                    simpa using this)
                  unfold Value.okWide at hw
                  rw [hp] at hw
                  simp only [Cell.okWide, hp] at hw
                  cases v <;> first | (simp [Cell.ok, hp] at hw; done) | skip
                  all_goals first | (simpa [Value.cells] using hvl) | skip
                have hall'' : ∀ (j : Nat) (x : Value), cs2[j]? = some x → W.cell? ⟨ab, ao + j, none⟩ = some x := by
                  intro j x hj
                  have := hall' j x hj
                  simpa using this
                refine ⟨_, _, rfl, ⟨v, rfl, ab, ao, c2.size, hv, by simp [Ghost.met, hq], ?_, RepM.of_list hr hall''⟩, rfl⟩
                rcases Nat.lt_or_ge c2.size (ao + l.length) with hlt | hge
                · exfalso
                  have := hall'' (l.length - 1) cs2[l.length - 1] (List.getElem?_eq_getElem (by omega))
                  simp only [World.cell?, hq] at this
                  have hsz := (Array.getElem?_eq_some_iff.1 (by simpa using this)).1
                  omega
                · exact hge
            · simp at h6
        · cases h4
      · simp at h4
  · cases h3
end Go.Pv
