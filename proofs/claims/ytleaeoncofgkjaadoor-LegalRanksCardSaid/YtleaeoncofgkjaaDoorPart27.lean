/- Part 27 of the proof: what functions of the program come to. Conditions: none; definitions and theorems that the statement's proof uses. -/
import Derived.Test.YtleaeoncofgkjaaDoorPart3
import Derived.KernelRfl
import Derived.Test.YtleaeoncofgkjaaDoorChecked
import Derived.Test.YtleaeoncofgkjaaDoorPart26
/- The seat's functions are those. Conditions: none; theorems. -/
namespace Go.Proofs.YtleaeoncofgkjaaDoor
open Go Go.Pv
def fnums : List Nat := [0, 1, 2, 3, 4, 5, 6, 7, 8, 9, 10, 11, 12, 13, 14, 15, 16, 17, 18, 19, 20, 21, 22, 23, 24, 25, 26, 27, 28, 29, 30, 31, 32, 33, 34, 35, 36, 37, 38, 39, 40, 41, 42, 43, 44, 45, 46, 47, 48, 49, 50, 51, 52, 53, 54, 55, 56, 57, 58, 59, 60, 61, 62, 63, 64, 65, 66, 67, 68, 69, 70, 71, 72, 73, 74, 75, 76, 77, 78, 79, 80, 81, 82, 83, 84, 85, 86, 87, 88, 89, 90, 91, 92, 93, 94, 95, 96, 97, 98, 99, 100, 101, 102, 103, 104, 105, 106, 107, 108, 109, 110, 111, 112, 113, 114, 115, 116, 117, 118, 119, 120, 121, 122, 123, 124, 125, 126, 127, 128, 129, 130, 131, 132, 133, 134, 135, 136, 137, 138, 139, 140, 141, 142, 143, 144, 145, 146, 147, 148, 0, 0, 0, 0, 0, 0, 0, 0, 0, 0, 0, 0, 0, 0, 0, 0, 0, 0, 0, 0, 0, 0, 0, 0, 0, 0, 0, 0, 0, 0, 0, 0, 0, 0, 0, 0, 0, 0, 0, 0, 0, 0, 0, 0, 0, 0, 0, 0, 0, 0, 0, 0, 0, 0, 0, 0, 0, 0, 0, 0, 0, 0, 0, 0, 0, 0, 0, 0, 0, 0]
def ffinds : List Nat := [0, 1, 2, 3, 4, 5, 6, 7, 8, 9, 10, 11, 12, 13, 14, 15, 16, 17, 18, 19, 20, 21, 22, 23, 24, 25, 26, 27, 28, 29, 30, 31, 32, 33, 34, 35, 36, 37, 38, 39, 40, 41, 42, 43, 44, 45, 46, 47, 48, 49, 50, 51, 52, 53, 54, 55, 56, 57, 58, 59, 60, 61, 62, 63, 64, 65, 66, 67, 68, 69, 70, 71, 72, 73, 74, 75, 76, 77, 78, 79, 80, 81, 82, 83, 84, 85, 86, 87, 88, 89, 90, 91, 92, 93, 94, 95, 96, 97, 98, 99, 100, 101, 102, 103, 104, 105, 106, 107, 108, 109, 110, 111, 112, 113, 114, 115, 116, 117, 118, 119, 120, 121, 122, 123, 124, 125, 126, 127, 128, 129, 130, 131, 132, 133, 134, 135, 136, 137, 138, 139, 140, 141, 142, 143, 144, 145, 146, 147, 148]
def gnums : List Nat := [0, 1, 2, 3, 4, 5, 6, 7]
def gfinds : List Nat := [0, 1, 2, 3, 4, 5, 6, 7]
def tnums : List Nat := [115, 159, 164, 175, 9, 1000000]
def tfinds : List (Nat × Nat) := [(9, 4), (115, 0), (159, 1), (164, 2), (175, 3)]
noncomputable def tT : Tie := { P := Tryd.prog, fnum := fun j => fnums.getD j 0, ffind := fun i => ffinds[i]?, gnum := fun j => gnums.getD j 0, gfind := fun i => gfinds[i]?, tnum := fun j => tnums.getD j 1000000, tfind := fun i => tfinds.lookup i }
def k3 : Keeps := ⟨fun i => (([] : List (Nat × List Bool)).lookup i).getD [], fun i => (([] : List (Nat × List Bool)).lookup i).getD [], [Z,Z,Z,Z,Z,Z,X,Z,Z,Z,Z,Z,Z,Z,Z,Z,Z,Z,Z,Z,Z,Z,Z,Z,Z,Z,Z,Z,Z,Z,Z,Z,Z,Z,Z,Z,Z,Z]⟩
def k4 : Keeps := ⟨fun i => (([] : List (Nat × List Bool)).lookup i).getD [], fun i => (([] : List (Nat × List Bool)).lookup i).getD [], [Z,Z,Z,Z,Z,Z,X,Z,Z,Z,Z,Z,Z,Z,Z,Z,Z,Z,Z,Z,Z,Z,Z,Z,Z,Z,Z,Z,Z,Z,Z,Z,Z,Z,Z,Z,Z,Z,Z,Z,Z,Z,Z,Z,Z,Z,Z,Z,Z,Z,Z,Z,Z,Z,Z,Z,Z,Z,Z,Z,Z,Z,Z,Z,Z,Z,Z,Z,Z,Z,Z,Z,Z,Z,Z,Z,Z,Z,Z,Z,Z,Z,Z,Z,Z,Z,Z,Z,Z,Z,Z,Z,Z,Z,Z,Z,Z,Z,Z,Z,Z,Z,Z,Z,Z,Z,Z,Z,Z,Z]⟩
def k5 : Keeps := ⟨fun i => (([] : List (Nat × List Bool)).lookup i).getD [], fun i => (([] : List (Nat × List Bool)).lookup i).getD [], [Z,Z,Z,Z,Z,Z,X,Z,Z,Z,Z,Z,Z,Z,Z,Z,Z,Z,Z,Z,Z,Z,Z,Z,Z,Z,Z,Z,Z,Z,Z,Z,Z,Z,Z,Z,Z,Z,Z,Z,Z,Z,Z,Z,Z,Z,Z,Z,Z,Z,Z,Z,Z,Z,Z,Z,Z,Z,Z,Z,Z,Z,Z,Z,Z,Z,Z,Z,Z,Z,Z,Z,Z,Z,Z,Z,Z,Z,Z,Z,Z,Z,Z,Z,Z,Z,Z,Z,Z,Z,Z,Z,Z,Z,Z,Z,Z,Z,Z,Z,Z,Z,Z,Z,Z,Z,Z,Z,Z,Z,Z,Z,Z]⟩
def k8 : Keeps := ⟨fun i => (([] : List (Nat × List Bool)).lookup i).getD [], fun i => (([] : List (Nat × List Bool)).lookup i).getD [], [X,Z,Z,Z,Z,Z,Z,Z,Z,Z,Z,Z,Z,Z,Z,Z,Z,Z,Z,Z,Z,Z,Z,Z,Z,Z,Z,Z,Z,Z]⟩
def k9 : Keeps := ⟨fun i => (([(1, [X,X,X,Z,Z,Z,Z,X,X,X,Z,Z,Z,Z,Z,Z,Z,Z,Z,Z,Z,Z,Z,Z,Z,Z,Z,Z,Z,Z,Z,Z,Z,Z,Z,Z,Z,Z,Z,Z,Z,Z,Z,Z,Z,Z,Z,Z,Z,Z,Z,Z,Z,Z,Z,Z,Z,Z,Z,Z,Z,Z,Z,Z,Z,Z,Z,Z,Z,Z,Z,Z,Z,Z,Z,Z,Z,Z,Z,Z,Z,Z,Z,Z,Z,Z,Z,Z,Z,Z,Z,Z,Z,Z,Z,Z,Z,Z,Z,Z,Z,Z,Z]), (0, [X,X,X,Z,Z,Z,Z,Z,X,Z,Z,Z,Z,Z,Z,Z,Z,Z,Z,Z,Z,Z,Z,Z,Z,Z,Z,Z,Z,Z,Z,Z,Z,Z,Z,Z,Z,Z,Z,Z,Z,Z,Z,Z,Z,Z,Z,Z,Z,Z,Z,Z,Z,Z,Z,Z,Z,Z,Z,Z,Z,Z,Z,Z,Z,Z,Z,Z,Z,Z,Z,Z,Z,Z,Z,Z,Z,Z,Z,Z,Z,Z,Z,Z,Z,Z,Z,Z,Z,Z,Z,Z,Z,Z,Z,Z,Z,Z,Z,Z,Z,Z,Z])] : List (Nat × List Bool)).lookup i).getD [], fun i => (([(6, [X,X,X,Z,Z,Z,Z,X,X,X,Z,Z,Z,Z,Z,Z,Z,Z,Z,Z,Z,Z,Z,Z,Z,Z,Z,Z,Z,Z,Z,Z,Z,Z,Z,Z,Z,Z,Z,Z,Z,Z,Z,Z,Z,Z,Z,Z,Z,Z,Z,Z,Z,Z,Z,Z,Z,Z,Z,Z,Z,Z,Z,Z,Z,Z,Z,Z,Z,Z,Z,Z,Z,Z,Z,Z,Z,Z,Z,Z,Z,Z,Z,Z,Z,Z,Z,Z,Z,Z,Z,Z,Z,Z,Z,Z,Z,Z,Z,Z,Z,Z,Z])] : List (Nat × List Bool)).lookup i).getD [], [Z,Z,Z,Z,Z,Z,X,Z,Z,Z,Z,Z,Z,Z,Z,Z,Z,Z,Z,Z,Z,Z,Z,Z,Z,Z,Z,Z,Z,Z,Z,Z,Z,Z,Z,Z,Z,Z,Z,Z,Z,Z,Z,Z,Z,Z,Z,Z,Z,Z,Z,Z,Z,Z,Z,Z,Z,Z,Z,Z,Z,Z,Z,Z,Z,Z,Z,Z,Z,Z,Z,Z,Z,Z,Z,Z,Z,Z,Z,Z,Z,Z,Z,Z,Z,Z,Z,Z,Z,Z,Z,Z,Z,Z,Z,Z,Z,Z,Z,Z,Z,Z,Z]⟩
def k10 : Keeps := ⟨fun i => (([] : List (Nat × List Bool)).lookup i).getD [], fun i => (([] : List (Nat × List Bool)).lookup i).getD [], [Z,Z,Z,Z,X,Z,Z,Z,Z,Z,Z,Z]⟩
def k11 : Keeps := ⟨fun i => (([(1, [Z,Z,Z,X,Z,Z,Z,Z,Z,Z,Z,Z,Z,Z]), (0, [Z,Z,Z,X,Z,Z,Z,Z,Z,Z,Z,Z,Z,Z])] : List (Nat × List Bool)).lookup i).getD [], fun i => (([] : List (Nat × List Bool)).lookup i).getD [], [Z,Z,X,Z,Z,Z,Z,Z,Z,Z,Z,Z,Z,Z]⟩
def k12 : Keeps := ⟨fun i => (([] : List (Nat × List Bool)).lookup i).getD [], fun i => (([] : List (Nat × List Bool)).lookup i).getD [], [Z,Z,Z,Z,X,X,Z,Z,Z,Z,Z,Z,Z,Z,Z,Z,Z]⟩
def k13 : Keeps := ⟨fun i => (([] : List (Nat × List Bool)).lookup i).getD [], fun i => (([] : List (Nat × List Bool)).lookup i).getD [], [Z,Z,Z,Z,X,X,X,Z,Z,Z,Z,Z,Z,Z,Z,Z,Z,Z,Z,Z,Z,Z]⟩
def k14 : Keeps := ⟨fun i => (([] : List (Nat × List Bool)).lookup i).getD [], fun i => (([] : List (Nat × List Bool)).lookup i).getD [], [Z,Z,Z,Z,X,X,Z,Z,Z,Z,Z,Z,Z,Z,Z,Z,Z,Z,Z,Z,Z]⟩
def k15 : Keeps := ⟨fun i => (([] : List (Nat × List Bool)).lookup i).getD [], fun i => (([] : List (Nat × List Bool)).lookup i).getD [], [Z,Z,X,Z,Z,Z,Z,Z,Z,Z,Z]⟩
def k16 : Keeps := ⟨fun i => (([(1, [X,Z,Z,Z,Z,Z,X,Z,Z,Z,Z,Z,X,X,X,Z,Z,Z,Z,Z,Z,Z,Z,Z,Z,Z,Z,Z,Z,Z,Z,Z,Z,Z]), (0, [X,Z,Z,Z,Z,Z,X,Z,Z,Z,Z,Z,Z,Z,Z,Z,Z,Z,Z,Z,Z,Z,Z,Z,Z,Z,Z,Z,Z,Z,Z,Z,Z,Z])] : List (Nat × List Bool)).lookup i).getD [], fun i => (([(3, [X,Z,Z,Z,Z,Z,X,Z,Z,Z,Z,Z,X,X,X,Z,Z,Z,Z,Z,Z,Z,Z,Z,Z,Z,Z,Z,Z,Z,Z,Z,Z,Z])] : List (Nat × List Bool)).lookup i).getD [], [Z,Z,Z,Z,X,X,Z,Z,Z,Z,Z,Z,Z,Z,Z,Z,Z,Z,Z,Z,Z,Z,Z,Z,Z,Z,Z,Z,Z,Z,Z,Z,Z,Z]⟩
def k21 : Keeps := ⟨fun i => (([(1, [Z,Z,Z,X,X,X,Z,Z,Z,Z,Z,Z,Z,Z,Z,Z,Z,Z,Z,Z,Z,Z,Z]), (0, [Z,Z,Z,Z,X,Z,Z,Z,Z,Z,Z,Z,Z,Z,Z,Z,Z,Z,Z,Z,Z,Z,Z])] : List (Nat × List Bool)).lookup i).getD [], fun i => (([(4, [Z,Z,Z,X,X,X,Z,Z,Z,Z,Z,Z,Z,Z,Z,Z,Z,Z,Z,Z,Z,Z,Z])] : List (Nat × List Bool)).lookup i).getD [], [Z,Z,X,Z,Z,Z,Z,Z,Z,Z,Z,Z,Z,Z,Z,Z,Z,Z,Z,Z,Z,Z,Z]⟩
def k22 : Keeps := ⟨fun i => (([(1, [X,X,Z,Z,Z,X,Z,Z,Z,Z,Z,Z,Z,Z,Z,Z,Z,Z,Z]), (0, [Z,Z,Z,Z,Z,Z,Z,Z,Z,Z,Z,Z,Z,Z,Z,Z,Z,Z,Z])] : List (Nat × List Bool)).lookup i).getD [], fun i => (([(2, [X,X,Z,Z,Z,X,Z,Z,Z,Z,Z,Z,Z,Z,Z,Z,Z,Z,Z])] : List (Nat × List Bool)).lookup i).getD [], [Z,Z,Z,Z,X,Z,Z,Z,Z,Z,Z,Z,Z,Z,Z,Z,Z,Z,Z]⟩
def k23 : Keeps := ⟨fun i => (([] : List (Nat × List Bool)).lookup i).getD [], fun i => (([] : List (Nat × List Bool)).lookup i).getD [], [Z,Z,X,Z]⟩
def k24 : Keeps := ⟨fun i => (([(1, [Z,Z,Z,X,Z,Z,Z,Z,Z,Z,Z,Z,Z,Z,Z]), (0, [Z,Z,Z,X,Z,Z,Z,Z,Z,Z,Z,Z,Z,Z,Z])] : List (Nat × List Bool)).lookup i).getD [], fun i => (([] : List (Nat × List Bool)).lookup i).getD [], [Z,Z,X,Z,Z,Z,Z,Z,Z,Z,Z,Z,Z,Z,Z]⟩
def k25 : Keeps := ⟨fun i => (([] : List (Nat × List Bool)).lookup i).getD [], fun i => (([] : List (Nat × List Bool)).lookup i).getD [], [Z,Z,X,X,Z,Z,Z,Z,Z,Z,Z,Z,Z]⟩
def k26 : Keeps := ⟨fun i => (([(1, [Z,Z,Z,Z,X,X,X,Z,X,Z,Z,Z,Z,Z,Z,Z,Z,Z,Z,Z,Z,Z,X,X,X,Z,Z,Z,Z,Z,Z,Z,Z,Z,Z,Z,Z,Z,Z,Z,Z,Z]), (0, [Z,Z,Z,Z,X,X,X,Z,Z,Z,Z,Z,Z,Z,Z,Z,Z,Z,Z,Z,Z,Z,Z,Z,Z,Z,Z,Z,Z,Z,Z,Z,Z,Z,Z,Z,Z,Z,Z,Z,Z,Z])] : List (Nat × List Bool)).lookup i).getD [], fun i => (([(7, [Z,Z,Z,Z,X,X,X,Z,X,Z,Z,Z,Z,Z,Z,Z,Z,Z,Z,Z,Z,Z,X,X,X,Z,Z,Z,Z,Z,Z,Z,Z,Z,Z,Z,Z,Z,Z,Z,Z,Z])] : List (Nat × List Bool)).lookup i).getD [], [Z,Z,Z,Z,X,X,X,Z,Z,Z,Z,Z,Z,Z,Z,Z,Z,Z,Z,Z,Z,Z,Z,Z,Z,Z,Z,Z,Z,Z,Z,Z,Z,Z,Z,Z,Z,Z,Z,Z,Z,Z]⟩
def k27 : Keeps := ⟨fun i => (([(3, [Z,Z,Z,X,X,Z,X,Z,Z,Z,Z,Z,Z,Z,Z,X,X,X,Z,Z,Z,Z,Z,X,X,X,Z,Z,Z,Z,Z,Z,Z,Z,Z,Z,Z,Z,Z,Z,Z,Z,Z,Z,Z,Z,Z,Z,Z,Z,Z,Z,Z,Z,Z,Z,Z,Z,Z,Z,Z,Z,Z,Z,Z,Z,Z,Z,Z,Z,Z]), (2, [Z,Z,Z,X,X,Z,X,Z,Z,Z,Z,Z,Z,Z,Z,X,X,X,Z,Z,Z,Z,Z,Z,Z,Z,Z,Z,Z,Z,Z,Z,Z,Z,Z,Z,Z,Z,Z,Z,Z,Z,Z,Z,Z,Z,Z,Z,Z,Z,Z,Z,Z,Z,Z,Z,Z,Z,Z,Z,Z,Z,Z,Z,Z,Z,Z,Z,Z,Z,Z]), (1, [Z,Z,Z,X,Z,Z,Z,Z,Z,Z,Z,Z,Z,Z,Z,X,X,X,Z,Z,Z,Z,Z,Z,Z,Z,Z,Z,Z,Z,Z,Z,Z,Z,Z,Z,Z,Z,Z,Z,Z,Z,Z,Z,Z,Z,Z,Z,Z,Z,Z,Z,Z,Z,Z,Z,Z,Z,Z,Z,Z,Z,Z,Z,Z,Z,Z,Z,Z,Z,Z]), (0, [Z,Z,Z,X,Z,Z,Z,Z,Z,Z,Z,Z,Z,Z,Z,Z,Z,Z,Z,Z,Z,Z,Z,Z,Z,Z,Z,Z,Z,Z,Z,Z,Z,Z,Z,Z,Z,Z,Z,Z,Z,Z,Z,Z,Z,Z,Z,Z,Z,Z,Z,Z,Z,Z,Z,Z,Z,Z,Z,Z,Z,Z,Z,Z,Z,Z,Z,Z,Z,Z,Z])] : List (Nat × List Bool)).lookup i).getD [], fun i => (([(4, [Z,Z,Z,X,Z,Z,Z,Z,Z,Z,Z,Z,Z,Z,Z,X,X,X,Z,Z,Z,Z,Z,Z,Z,Z,Z,Z,Z,Z,Z,Z,Z,Z,Z,Z,Z,Z,Z,Z,Z,Z,Z,Z,Z,Z,Z,Z,Z,Z,Z,Z,Z,Z,Z,Z,Z,Z,Z,Z,Z,Z,Z,Z,Z,Z,Z,Z,Z,Z,Z]), (8, [Z,Z,Z,X,X,Z,X,Z,Z,Z,Z,Z,Z,Z,Z,X,X,X,Z,Z,Z,Z,Z,X,X,X,Z,Z,Z,Z,Z,Z,Z,Z,Z,Z,Z,Z,Z,Z,Z,Z,Z,Z,Z,Z,Z,Z,Z,Z,Z,Z,Z,Z,Z,Z,Z,Z,Z,Z,Z,Z,Z,Z,Z,Z,Z,Z,Z,Z,Z])] : List (Nat × List Bool)).lookup i).getD [], [Z,Z,X,Z,Z,Z,Z,Z,Z,Z,Z,Z,Z,Z,Z,Z,Z,Z,Z,Z,Z,Z,Z,Z,Z,Z,Z,Z,Z,Z,Z,Z,Z,Z,Z,Z,Z,Z,Z,Z,Z,Z,Z,Z,Z,Z,Z,Z,Z,Z,Z,Z,Z,Z,Z,Z,Z,Z,Z,Z,Z,Z,Z,Z,Z,Z,Z,Z,Z,Z,Z]⟩
def k28 : Keeps := ⟨fun i => (([] : List (Nat × List Bool)).lookup i).getD [], fun i => (([] : List (Nat × List Bool)).lookup i).getD [], [Z,Z,Z,Z,Z,Z,X,X,Z,Z,Z,Z,Z,Z,Z,Z,Z,Z,Z,Z,Z,Z,Z,Z,Z,Z,Z,Z,Z]⟩
def k29 : Keeps := ⟨fun i => (([] : List (Nat × List Bool)).lookup i).getD [], fun i => (([] : List (Nat × List Bool)).lookup i).getD [], [Z,Z,Z,Z,X,X,Z,Z,Z,Z,Z,Z,Z,Z,Z,Z,Z,Z,Z,Z,Z,Z,Z,Z,Z,Z,Z,Z,Z]⟩
def k34 : Keeps := ⟨fun i => (([(3, [X,Z,Z,X,X,X,X,Z,Z,Z,Z,Z,Z,Z,Z,Z,Z,Z,Z,Z,Z,Z,Z,Z,Z,Z,Z,Z,Z,Z,Z,Z,Z,Z,Z,Z,Z,Z,Z,Z,Z,Z,Z,Z,Z,Z,Z,Z,Z]), (2, [X,Z,Z,X,X,X,Z,Z,Z,Z,Z,Z,Z,Z,Z,Z,Z,Z,Z,Z,Z,Z,Z,Z,Z,Z,Z,Z,Z,Z,Z,Z,Z,Z,Z,Z,Z,Z,Z,Z,Z,Z,Z,Z,Z,Z,Z,Z,Z]), (1, [X,Z,Z,X,X,X,Z,Z,Z,Z,Z,Z,Z,Z,Z,Z,Z,Z,Z,Z,Z,Z,Z,Z,Z,Z,Z,Z,Z,Z,Z,Z,Z,Z,Z,Z,Z,Z,Z,Z,Z,Z,Z,Z,Z,Z,Z,Z,Z]), (0, [Z,Z,Z,X,Z,Z,Z,Z,Z,Z,Z,Z,Z,Z,Z,Z,Z,Z,Z,Z,Z,Z,Z,Z,Z,Z,Z,Z,Z,Z,Z,Z,Z,Z,Z,Z,Z,Z,Z,Z,Z,Z,Z,Z,Z,Z,Z,Z,Z])] : List (Nat × List Bool)).lookup i).getD [], fun i => (([(4, [X,Z,Z,X,X,X,Z,Z,Z,Z,Z,Z,Z,Z,Z,Z,Z,Z,Z,Z,Z,Z,Z,Z,Z,Z,Z,Z,Z,Z,Z,Z,Z,Z,Z,Z,Z,Z,Z,Z,Z,Z,Z,Z,Z,Z,Z,Z,Z]), (7, [X,Z,Z,X,X,X,X,Z,Z,Z,Z,Z,Z,Z,Z,Z,Z,Z,Z,Z,Z,Z,Z,Z,Z,Z,Z,Z,Z,Z,Z,Z,Z,Z,Z,Z,Z,Z,Z,Z,Z,Z,Z,Z,Z,Z,Z,Z,Z])] : List (Nat × List Bool)).lookup i).getD [], [Z,Z,X,Z,Z,Z,Z,Z,Z,Z,Z,Z,Z,Z,Z,Z,Z,Z,Z,Z,Z,Z,Z,Z,Z,Z,Z,Z,Z,Z,Z,Z,Z,Z,Z,Z,Z,Z,Z,Z,Z,Z,Z,Z,Z,Z,Z,Z,Z]⟩
def k35 : Keeps := ⟨fun i => (([(3, [Z,Z,X,X,X,X,X,Z,Z,Z,Z,Z,Z,Z,Z,Z,Z,Z,Z,Z,Z,Z,Z,Z,Z,Z,Z,Z,Z,Z,Z,Z,Z,Z,Z,Z,Z,Z,Z,Z,Z,Z,Z,Z,Z,Z,Z,Z]), (2, [Z,Z,X,X,X,X,X,Z,Z,Z,Z,Z,Z,Z,Z,Z,Z,Z,Z,Z,Z,Z,Z,Z,Z,Z,Z,Z,Z,Z,Z,Z,Z,Z,Z,Z,Z,Z,Z,Z,Z,Z,Z,Z,Z,Z,Z,Z]), (1, [Z,Z,X,X,X,X,X,Z,Z,Z,Z,Z,Z,Z,Z,Z,Z,Z,Z,Z,Z,Z,Z,Z,Z,Z,Z,Z,Z,Z,Z,Z,Z,Z,Z,Z,Z,Z,Z,Z,Z,Z,Z,Z,Z,Z,Z,Z]), (0, [Z,Z,Z,Z,Z,Z,Z,Z,Z,Z,Z,Z,Z,Z,Z,Z,Z,Z,Z,Z,Z,Z,Z,Z,Z,Z,Z,Z,Z,Z,Z,Z,Z,Z,Z,Z,Z,Z,Z,Z,Z,Z,Z,Z,Z,Z,Z,Z])] : List (Nat × List Bool)).lookup i).getD [], fun i => (([(3, [Z,Z,X,X,X,X,X,Z,Z,Z,Z,Z,Z,Z,Z,Z,Z,Z,Z,Z,Z,Z,Z,Z,Z,Z,Z,Z,Z,Z,Z,Z,Z,Z,Z,Z,Z,Z,Z,Z,Z,Z,Z,Z,Z,Z,Z,Z])] : List (Nat × List Bool)).lookup i).getD [], [Z,Z,Z,Z,Z,Z,Z,Z,Z,Z,Z,Z,Z,Z,Z,Z,Z,Z,Z,Z,Z,Z,Z,Z,Z,Z,Z,Z,Z,Z,Z,Z,Z,Z,Z,Z,Z,Z,Z,Z,Z,Z,Z,Z,Z,Z,Z,Z]⟩
def k36 : Keeps := ⟨fun i => (([] : List (Nat × List Bool)).lookup i).getD [], fun i => (([] : List (Nat × List Bool)).lookup i).getD [], [Z,Z,X,Z]⟩
def k37 : Keeps := ⟨fun i => (([] : List (Nat × List Bool)).lookup i).getD [], fun i => (([] : List (Nat × List Bool)).lookup i).getD [], [Z,Z,Z,Z,Z,Z,X,X,Z,Z,Z,Z,Z,Z,Z,Z,Z,Z,Z,Z,Z,Z,Z,Z,Z,Z,Z,Z,Z,Z,Z,Z,Z,Z,Z,Z,Z,Z,Z]⟩
def k38 : Keeps := ⟨fun i => (([(1, [X,X,Z,Z,Z,Z,Z,Z,X,X,Z,Z,Z,Z,Z,Z,Z,Z,Z,Z,Z,Z,Z,Z,Z,Z,Z,Z,Z,Z,Z,Z,Z,Z,Z,Z,Z,Z,Z,Z,Z]), (0, [X,X,Z,Z,Z,Z,Z,Z,Z,Z,Z,Z,Z,Z,Z,Z,Z,Z,Z,Z,Z,Z,Z,Z,Z,Z,Z,Z,Z,Z,Z,Z,Z,Z,Z,Z,Z,Z,Z,Z,Z])] : List (Nat × List Bool)).lookup i).getD [], fun i => (([(3, [X,X,Z,Z,Z,Z,Z,Z,X,X,Z,Z,Z,Z,Z,Z,Z,Z,Z,Z,Z,Z,Z,Z,Z,Z,Z,Z,Z,Z,Z,Z,Z,Z,Z,Z,Z,Z,Z,Z,Z])] : List (Nat × List Bool)).lookup i).getD [], [X,Z,Z,Z,Z,Z,Z,Z,Z,Z,Z,Z,Z,Z,Z,Z,Z,Z,Z,Z,Z,Z,Z,Z,Z,Z,Z,Z,Z,Z,Z,Z,Z,Z,Z,Z,Z,Z,Z,Z,Z]⟩
def k39 : Keeps := ⟨fun i => (([] : List (Nat × List Bool)).lookup i).getD [], fun i => (([] : List (Nat × List Bool)).lookup i).getD [], [Z,Z,Z,Z,X,Z,Z,Z,Z,Z,Z,Z]⟩
def k40 : Keeps := ⟨fun i => (([] : List (Nat × List Bool)).lookup i).getD [], fun i => (([] : List (Nat × List Bool)).lookup i).getD [], [Z,Z,Z,Z,X,X,Z,Z,Z,Z,Z,Z,Z,Z,Z,Z,Z,Z,Z,Z,Z,Z,Z,Z,Z,Z,Z,Z,Z,Z,Z,Z,Z,Z,Z,Z,Z,Z,Z,Z,Z,Z]⟩
def k41 : Keeps := ⟨fun i => (([] : List (Nat × List Bool)).lookup i).getD [], fun i => (([] : List (Nat × List Bool)).lookup i).getD [], [Z,Z,Z,Z,X,X,Z,Z,Z,Z,Z]⟩
def k42 : Keeps := ⟨fun i => (([] : List (Nat × List Bool)).lookup i).getD [], fun i => (([] : List (Nat × List Bool)).lookup i).getD [], [Z,Z,X,Z,Z,Z,Z,Z,Z,Z,Z,Z,Z,Z,Z,Z,Z,Z,Z,Z]⟩
def k43 : Keeps := ⟨fun i => (([] : List (Nat × List Bool)).lookup i).getD [], fun i => (([] : List (Nat × List Bool)).lookup i).getD [], [Z,Z,Z,Z,X,Z,Z,Z,Z,Z,Z,Z,Z,Z,Z,Z,Z,Z,Z,Z]⟩
def k51 : Keeps := ⟨fun i => (([] : List (Nat × List Bool)).lookup i).getD [], fun i => (([] : List (Nat × List Bool)).lookup i).getD [], [X,Z,Z,Z,Z,Z]⟩
def k52 : Keeps := ⟨fun i => (([] : List (Nat × List Bool)).lookup i).getD [], fun i => (([] : List (Nat × List Bool)).lookup i).getD [], [Z,Z,Z,Z,Z,Z,Z,Z,X,Z,Z,Z,Z,Z,Z,Z,Z,Z,Z,Z,Z,Z,Z,Z,Z,Z,Z,Z,Z,Z,Z,Z,Z,Z,Z,Z,Z,Z]⟩
def k53 : Keeps := ⟨fun i => (([] : List (Nat × List Bool)).lookup i).getD [], fun i => (([] : List (Nat × List Bool)).lookup i).getD [], [Z,Z,Z,Z,Z,Z,Z,Z,X,Z,Z,Z,Z,Z,Z,Z,Z,Z,Z,Z,Z,Z,Z,Z,Z,Z,Z,Z,Z,Z,Z,Z,Z,Z,Z,Z,Z,Z,Z,Z,Z,Z,Z,Z,Z,Z,Z,Z,Z,Z,Z,Z,Z,Z,Z,Z,Z,Z,Z,Z,Z,Z,Z,Z,Z,Z,Z,Z,Z,Z]⟩
def k54 : Keeps := ⟨fun i => (([(1, [X,Z,Z,Z,Z,Z,X,X,X,Z,Z,Z,Z,Z,Z,Z,Z,Z,Z]), (0, [Z,Z,Z,Z,Z,Z,Z,Z,Z,Z,Z,Z,Z,Z,Z,Z,Z,Z,Z])] : List (Nat × List Bool)).lookup i).getD [], fun i => (([(1, [X,Z,Z,Z,Z,Z,X,X,X,Z,Z,Z,Z,Z,Z,Z,Z,Z,Z])] : List (Nat × List Bool)).lookup i).getD [], [Z,Z,Z,Z,Z,Z,Z,Z,Z,Z,Z,Z,Z,Z,Z,Z,Z,Z,Z]⟩
def k55 : Keeps := ⟨fun i => (([] : List (Nat × List Bool)).lookup i).getD [], fun i => (([] : List (Nat × List Bool)).lookup i).getD [], [Z,Z,Z,Z,Z,Z,X,Z,Z,Z,Z,Z,Z,Z,Z,Z,Z,Z,Z,Z,Z,Z,Z,Z,Z,Z,Z,Z,Z,Z,Z,Z,Z,Z,Z,Z,Z,Z,Z,Z,Z,Z,Z,Z,Z,Z,Z,Z,Z,Z,Z,Z,Z,Z,Z,Z,Z,Z,Z,Z,Z,Z,Z,Z,Z,Z,Z,Z,Z,Z,Z,Z]⟩
def k56 : Keeps := ⟨fun i => (([] : List (Nat × List Bool)).lookup i).getD [], fun i => (([] : List (Nat × List Bool)).lookup i).getD [], [Z,Z,X,Z,Z,Z,Z,Z]⟩
def k57 : Keeps := ⟨fun i => (([] : List (Nat × List Bool)).lookup i).getD [], fun i => (([] : List (Nat × List Bool)).lookup i).getD [], [X,Z,Z,Z,Z,Z,Z,Z,Z,Z,Z,Z,Z,Z,Z,Z,Z,Z,Z,Z,Z,Z,Z,Z,Z,Z,Z,Z,Z,Z,Z,Z,Z,Z,Z,Z,Z,Z,Z,Z,Z,Z,Z,Z,Z,Z,Z,Z,Z,Z,Z,Z,Z,Z,Z,Z,Z,Z,Z,Z,Z,Z,Z,Z,Z,Z,Z,Z,Z,Z,Z,Z,Z,Z,Z,Z,Z,Z,Z,Z,Z,Z,Z,Z,Z,Z,Z,Z,Z,Z,Z,Z,Z,Z,Z,Z,Z,Z,Z,Z,Z,Z,Z,Z,Z,Z,Z,Z,Z,Z,Z,Z,Z,Z,Z,Z,Z,Z,Z,Z,Z,Z,Z,Z,Z,Z,Z,Z,Z,Z,Z,Z,Z,Z,Z,Z,Z,Z,Z,Z,Z,Z,Z,Z,Z,Z,Z,Z,Z,Z,Z,Z,Z,Z,Z,Z,Z,Z,Z,Z,Z,Z,Z,Z,Z,Z,Z,Z,Z,Z,Z,Z,Z,Z,Z,Z,Z,Z,Z,Z,Z,Z,Z,Z,Z,Z,Z,Z,Z,Z]⟩
def k58 : Keeps := ⟨fun i => (([] : List (Nat × List Bool)).lookup i).getD [], fun i => (([] : List (Nat × List Bool)).lookup i).getD [], [Z,Z,X,Z,Z,Z,Z,Z]⟩
def k59 : Keeps := ⟨fun i => (([(1, [X,X,Z,Z,Z,Z,Z,X,X,Z,Z,Z,Z,Z,Z,Z,Z,Z,Z]), (0, [Z,Z,Z,Z,Z,Z,Z,Z,Z,Z,Z,Z,Z,Z,Z,Z,Z,Z,Z])] : List (Nat × List Bool)).lookup i).getD [], fun i => (([(2, [X,X,Z,Z,Z,Z,Z,X,X,Z,Z,Z,Z,Z,Z,Z,Z,Z,Z])] : List (Nat × List Bool)).lookup i).getD [], [Z,Z,Z,Z,X,Z,Z,Z,Z,Z,Z,Z,Z,Z,Z,Z,Z,Z,Z]⟩
def k60 : Keeps := ⟨fun i => (([] : List (Nat × List Bool)).lookup i).getD [], fun i => (([] : List (Nat × List Bool)).lookup i).getD [], [Z,Z,Z,Z,X,Z,Z,Z,Z,Z,Z,Z,Z]⟩
def k61 : Keeps := ⟨fun i => (([] : List (Nat × List Bool)).lookup i).getD [], fun i => (([] : List (Nat × List Bool)).lookup i).getD [], [Z,Z,Z,Z,X,X,Z,Z,Z,Z,Z,Z,Z,Z,Z]⟩
def k71 : Keeps := ⟨fun i => (([] : List (Nat × List Bool)).lookup i).getD [], fun i => (([] : List (Nat × List Bool)).lookup i).getD [], [X,Z,Z,Z,Z,Z,Z,Z,Z,Z,Z,Z,Z,Z,Z,Z,Z,Z,Z,Z,Z,Z,Z,Z,Z,Z,Z,Z,Z,Z,Z,Z,Z,Z,Z,Z,Z,Z,Z,Z,Z,Z,Z,Z,Z,Z,Z,Z,Z,Z,Z,Z,Z,Z,Z,Z,Z,Z,Z,Z,Z,Z,Z,Z,Z,Z,Z,Z,Z,Z,Z,Z,Z,Z,Z,Z,Z,Z,Z,Z,Z,Z,Z,Z,Z,Z,Z,Z,Z,Z,Z,Z]⟩
def k72 : Keeps := ⟨fun i => (([] : List (Nat × List Bool)).lookup i).getD [], fun i => (([] : List (Nat × List Bool)).lookup i).getD [], [X,Z,Z,Z,Z,Z,Z,Z,Z,Z,Z,Z,Z,Z,Z,Z,Z,Z,Z,Z,Z,Z,Z,Z,Z,Z,Z,Z,Z,Z,Z,Z,Z,Z,Z,Z,Z,Z,Z,Z,Z,Z,Z,Z,Z,Z,Z,Z,Z,Z,Z,Z,Z,Z,Z,Z,Z,Z,Z,Z,Z,Z,Z,Z,Z,Z,Z,Z,Z,Z,Z,Z,Z,Z,Z,Z,Z,Z,Z,Z,Z,Z,Z,Z,Z,Z,Z,Z,Z,Z,Z,Z,Z,Z,Z,Z,Z,Z,Z,Z]⟩
def k73 : Keeps := ⟨fun i => (([] : List (Nat × List Bool)).lookup i).getD [], fun i => (([] : List (Nat × List Bool)).lookup i).getD [], [X,Z,Z,Z,Z,Z,Z,Z,Z,Z,Z,Z,Z,Z,Z,Z,Z,Z,Z,Z,Z,Z,Z,Z,Z,Z,Z,Z,Z,Z,Z,Z,Z,Z,Z,Z,Z,Z,Z,Z,Z,Z]⟩
def k74 : Keeps := ⟨fun i => (([(1, [Z,X,X,X,Z,Z,X,Z,X,Z,Z,Z,Z,Z,Z,Z,Z,Z,Z,Z,Z,Z,Z,Z,Z,Z,Z,Z,Z,Z,Z,Z,Z,Z,Z,Z,Z,Z,Z,Z,Z,Z,Z,Z,Z,Z,Z,Z,Z,Z,Z,Z,Z,Z,Z,Z,Z,Z,Z,Z,Z]), (0, [Z,Z,Z,Z,Z,Z,X,Z,Z,Z,Z,Z,Z,Z,Z,Z,Z,Z,Z,Z,Z,Z,Z,Z,Z,Z,Z,Z,Z,Z,Z,Z,Z,Z,Z,Z,Z,Z,Z,Z,Z,Z,Z,Z,Z,Z,Z,Z,Z,Z,Z,Z,Z,Z,Z,Z,Z,Z,Z,Z,Z])] : List (Nat × List Bool)).lookup i).getD [], fun i => (([(5, [Z,X,X,X,Z,Z,X,Z,X,Z,Z,Z,Z,Z,Z,Z,Z,Z,Z,Z,Z,Z,Z,Z,Z,Z,Z,Z,Z,Z,Z,Z,Z,Z,Z,Z,Z,Z,Z,Z,Z,Z,Z,Z,Z,Z,Z,Z,Z,Z,Z,Z,Z,Z,Z,Z,Z,Z,Z,Z,Z])] : List (Nat × List Bool)).lookup i).getD [], [Z,Z,Z,Z,Z,Z,X,Z,Z,Z,Z,Z,Z,Z,Z,Z,Z,Z,Z,Z,Z,Z,Z,Z,Z,Z,Z,Z,Z,Z,Z,Z,Z,Z,Z,Z,Z,Z,Z,Z,Z,Z,Z,Z,Z,Z,Z,Z,Z,Z,Z,Z,Z,Z,Z,Z,Z,Z,Z,Z,Z]⟩
def k75 : Keeps := ⟨fun i => (([] : List (Nat × List Bool)).lookup i).getD [], fun i => (([] : List (Nat × List Bool)).lookup i).getD [], [Z,Z,Z,Z,X,Z,Z,Z,Z,Z,Z,Z,Z,Z,Z,Z,Z,Z]⟩
def k85 : Keeps := ⟨fun i => (([] : List (Nat × List Bool)).lookup i).getD [], fun i => (([] : List (Nat × List Bool)).lookup i).getD [], [Z,Z,Z,Z,Z,Z,Z,Z,Z,Z,Z,Z,Z,Z,Z,Z,X,Z,Z,Z,Z,Z,Z,Z,Z,Z]⟩
def k86 : Keeps := ⟨fun i => (([(1, [Z,X,X,X,Z,Z,Z,X,Z,Z,Z,Z,Z,Z,Z,Z,Z,Z,Z,Z,Z,Z,Z,Z,Z,Z,Z,Z,Z,Z,Z]), (0, [Z,Z,Z,Z,Z,Z,Z,Z,Z,Z,Z,Z,Z,Z,Z,Z,Z,Z,Z,Z,Z,Z,Z,Z,Z,Z,Z,Z,Z,Z,Z])] : List (Nat × List Bool)).lookup i).getD [], fun i => (([(2, [Z,X,X,X,Z,Z,Z,X,Z,Z,Z,Z,Z,Z,Z,Z,Z,Z,Z,Z,Z,Z,Z,Z,Z,Z,Z,Z,Z,Z,Z])] : List (Nat × List Bool)).lookup i).getD [], [Z,Z,Z,Z,Z,Z,X,Z,Z,Z,Z,Z,Z,Z,Z,Z,Z,Z,Z,Z,Z,Z,Z,Z,Z,Z,Z,Z,Z,Z,Z]⟩
def k87 : Keeps := ⟨fun i => (([] : List (Nat × List Bool)).lookup i).getD [], fun i => (([] : List (Nat × List Bool)).lookup i).getD [], [Z,Z,Z,Z,X,Z,Z,Z,Z,Z,Z,Z,Z,Z,Z,Z,Z,Z,Z,Z,Z,Z]⟩
theorem c3 : cFunc tT k3 f3.mode Tryd.f3 = some f3 := by kernel_rfl
theorem c4 : cFunc tT k4 f4.mode Tryd.f4 = some f4 := by kernel_rfl
theorem c5 : cFunc tT k5 f5.mode Tryd.f5 = some f5 := by kernel_rfl
theorem c8 : cFunc tT k8 f8.mode Tryd.f8 = some f8 := by kernel_rfl
theorem c9 : cFunc tT k9 f9.mode Tryd.f9 = some f9 := by kernel_rfl
theorem c10 : cFunc tT k10 f10.mode Tryd.f10 = some f10 := by kernel_rfl
theorem c11 : cFunc tT k11 f11.mode Tryd.f11 = some f11 := by kernel_rfl
theorem c12 : cFunc tT k12 f12.mode Tryd.f12 = some f12 := by kernel_rfl
theorem c13 : cFunc tT k13 f13.mode Tryd.f13 = some f13 := by kernel_rfl
theorem c14 : cFunc tT k14 f14.mode Tryd.f14 = some f14 := by kernel_rfl
theorem c15 : cFunc tT k15 f15.mode Tryd.f15 = some f15 := by kernel_rfl
theorem c16 : cFunc tT k16 f16.mode Tryd.f16 = some f16 := by kernel_rfl
theorem c21 : cFunc tT k21 f21.mode Tryd.f21 = some f21 := by kernel_rfl
theorem c22 : cFunc tT k22 f22.mode Tryd.f22 = some f22 := by kernel_rfl
theorem c23 : cFunc tT k23 f23.mode Tryd.f23 = some f23 := by kernel_rfl
theorem c24 : cFunc tT k24 f24.mode Tryd.f24 = some f24 := by kernel_rfl
theorem c25 : cFunc tT k25 f25.mode Tryd.f25 = some f25 := by kernel_rfl
theorem c26 : cFunc tT k26 f26.mode Tryd.f26 = some f26 := by kernel_rfl
theorem c27 : cFunc tT k27 f27.mode Tryd.f27 = some f27 := by kernel_rfl
theorem c28 : cFunc tT k28 f28.mode Tryd.f28 = some f28 := by kernel_rfl
theorem c29 : cFunc tT k29 f29.mode Tryd.f29 = some f29 := by kernel_rfl
theorem c34 : cFunc tT k34 f34.mode Tryd.f34 = some f34 := by kernel_rfl
theorem c35 : cFunc tT k35 f35.mode Tryd.f35 = some f35 := by kernel_rfl
theorem c36 : cFunc tT k36 f36.mode Tryd.f36 = some f36 := by kernel_rfl
theorem c37 : cFunc tT k37 f37.mode Tryd.f37 = some f37 := by kernel_rfl
theorem c38 : cFunc tT k38 f38.mode Tryd.f38 = some f38 := by kernel_rfl
theorem c39 : cFunc tT k39 f39.mode Tryd.f39 = some f39 := by kernel_rfl
theorem c40 : cFunc tT k40 f40.mode Tryd.f40 = some f40 := by kernel_rfl
theorem c41 : cFunc tT k41 f41.mode Tryd.f41 = some f41 := by kernel_rfl
theorem c42 : cFunc tT k42 f42.mode Tryd.f42 = some f42 := by kernel_rfl
theorem c43 : cFunc tT k43 f43.mode Tryd.f43 = some f43 := by kernel_rfl
theorem c51 : cFunc tT k51 f51.mode Tryd.f51 = some f51 := by kernel_rfl
theorem c52 : cFunc tT k52 f52.mode Tryd.f52 = some f52 := by kernel_rfl
theorem c53 : cFunc tT k53 f53.mode Tryd.f53 = some f53 := by kernel_rfl
theorem c54 : cFunc tT k54 f54.mode Tryd.f54 = some f54 := by kernel_rfl
theorem c55 : cFunc tT k55 f55.mode Tryd.f55 = some f55 := by kernel_rfl
theorem c56 : cFunc tT k56 f56.mode Tryd.f56 = some f56 := by kernel_rfl
theorem c57 : cFunc tT k57 f57.mode Tryd.f57 = some f57 := by kernel_rfl
theorem c58 : cFunc tT k58 f58.mode Tryd.f58 = some f58 := by kernel_rfl
theorem c59 : cFunc tT k59 f59.mode Tryd.f59 = some f59 := by kernel_rfl
theorem c60 : cFunc tT k60 f60.mode Tryd.f60 = some f60 := by kernel_rfl
theorem c61 : cFunc tT k61 f61.mode Tryd.f61 = some f61 := by kernel_rfl
theorem c71 : cFunc tT k71 f71.mode Tryd.f71 = some f71 := by kernel_rfl
theorem c72 : cFunc tT k72 f72.mode Tryd.f72 = some f72 := by kernel_rfl
theorem c73 : cFunc tT k73 f73.mode Tryd.f73 = some f73 := by kernel_rfl
theorem c74 : cFunc tT k74 f74.mode Tryd.f74 = some f74 := by kernel_rfl
theorem c75 : cFunc tT k75 f75.mode Tryd.f75 = some f75 := by kernel_rfl
theorem c85 : cFunc tT k85 f85.mode Tryd.f85 = some f85 := by kernel_rfl
theorem c86 : cFunc tT k86 f86.mode Tryd.f86 = some f86 := by kernel_rfl
theorem c87 : cFunc tT k87 f87.mode Tryd.f87 = some f87 := by kernel_rfl
def fnT : Nat → Option SFunc
  | 3 => some f3
  | 4 => some f4
  | 5 => some f5
  | 8 => some f8
  | 9 => some f9
  | 10 => some f10
  | 11 => some f11
  | 12 => some f12
  | 13 => some f13
  | 14 => some f14
  | 15 => some f15
  | 16 => some f16
  | 21 => some f21
  | 22 => some f22
  | 23 => some f23
  | 24 => some f24
  | 25 => some f25
  | 26 => some f26
  | 27 => some f27
  | 28 => some f28
  | 29 => some f29
  | 34 => some f34
  | 35 => some f35
  | 36 => some f36
  | 37 => some f37
  | 38 => some f38
  | 39 => some f39
  | 40 => some f40
  | 41 => some f41
  | 42 => some f42
  | 43 => some f43
  | 51 => some f51
  | 52 => some f52
  | 53 => some f53
  | 54 => some f54
  | 55 => some f55
  | 56 => some f56
  | 57 => some f57
  | 58 => some f58
  | 59 => some f59
  | 60 => some f60
  | 61 => some f61
  | 71 => some f71
  | 72 => some f72
  | 73 => some f73
  | 74 => some f74
  | 75 => some f75
  | 85 => some f85
  | 86 => some f86
  | 87 => some f87
  | _ => none
end Go.Proofs.YtleaeoncofgkjaaDoor
