/- Part 11 of the proof: what functions of the program come to. Conditions: none; definitions and theorems that the statement's proof uses. -/
import Derived.Test.YtleaeoncofgkjaaDoorPart5
import Derived.Test.YtleaeoncofgkjaaDoorPart10
/- What functions of the packages symbol, slices, strings come to. Conditions: the functions' codes; theorems. -/
namespace Go.Pv
variable {E : Env} {j : Nat}

def hasP (s p : List UInt8) : Bool := decide (p.length ≤ s.length) && (s.take p.length == p)
theorem hasPrefix_eq (H : Has 75 E) (s p : List UInt8) : EvClosed E (.fn (.func 75) [] []) [.str s, .str p] = some (.bool (hasP s p)) := by
  rw [EvClosed_eq H.c75 rfl (vs := [.str s, .str p]) (by simp), EvFn_eq]
  by_cases h : p.length ≤ s.length <;> simp [f75, start, h, hasP]
/-- What is left behind a beginning, and whether there is one. -/
def cutP (s p : List UInt8) : List UInt8 × Bool := if hasP s p then (s.drop p.length, true) else (s, false)
theorem hasP_le {s p : List UInt8} (h : hasP s p = true) : p.length ≤ s.length := by
  simp only [hasP, Bool.and_eq_true, decide_eq_true_eq] at h
  exact h.1
theorem cutPrefix1_eq (H : Has 61 E) (s p : List UInt8) : EvClosed E (.fn (.func 61) [] []) [.str s, .str p] = some (.tuple [.str (cutP s p).1, .bool (cutP s p).2]) := by
  rw [EvClosed_eq H.c61 rfl (vs := [.str s, .str p]) (by simp), EvFn_eq]
  cases h : hasP s p
  · simp [f61, start, EvCall_closed H.c75 rfl, hasPrefix_eq (H.to 75), cutP, h]
  · have := hasP_le h
    simp [f61, start, EvCall_closed H.c75 rfl, hasPrefix_eq (H.to 75), cutP, h, this]
theorem cutPrefix_eq (H : Has 41 E) (s p : List UInt8) : EvClosed E (.fn (.func 41) [] []) [.str s, .str p] = some (.tuple [.str (cutP s p).1, .bool (cutP s p).2]) := by
  rw [EvClosed_eq H.c41 rfl (vs := [.str s, .str p]) (by simp), EvFn_eq]
  simp [f41, start, EvCall_closed H.c61 rfl, cutPrefix1_eq (H.to 61)]

/-- An atom of the table: its codes, whether it is metric, what else stands in it. -/
structure AtomR where
  c1 : List UInt8
  c2 : List UInt8
  c3 : List UInt8
  c4 : List UInt8
  c5 : List UInt8
  metric : Bool
  tag : Int
  base : Int
  num : Int
  den : Int
  ten : Int
  terms : List (Int × Int)
def termCs (t : Int × Int) : List AV := [.int .i64 t.1, .int .i64 t.2]
def termsV (o : Own) (l : List (Int × Int)) : AV := if l.isEmpty then .nils else .vs o l.length (l.flatMap termCs)
def acs (o : Own) (a : AtomR) : List AV := [.str a.c1, .str a.c2, .str a.c3, .str a.c4, .str a.c5, .bool a.metric, .int .i64 a.tag, .int .i64 a.base, .int .i64 a.num, .int .i64 a.den, .int .i64 a.ten, termsV o a.terms]
def AtomR.code (a : AtomR) (n : Nat) : List UInt8 := match n with | 0 => a.c1 | 1 => a.c2 | 2 => a.c3 | 3 => a.c4 | _ => a.c5
theorem acs_len (o : Own) (a : AtomR) : (acs o a).length = 12 := by simp [acs]
theorem termsV_cell (o : Own) (l : List (Int × Int)) : (termsV o l).isCell = true := by unfold termsV; split <;> rfl
theorem acs_take (o : Own) (a : AtomR) : (acs o a).take 12 = acs o a := by simp [acs]
theorem acs_all (o : Own) (a : AtomR) : (acs o a).all AV.isCell = true := by simp [acs, termsV_cell]
/-- Owners that leave a call as they are. -/
def OwnOk (o : Own) : Prop := o = .full ∨ o = .shared
theorem shut_vs {o : Own} (ho : OwnOk o) {n t len : Nat} {cs : List AV} (h : shutL n t cs = some cs) : shut n t (.vs o len cs) = some (.vs o len cs) := by
  rcases ho with rfl | rfl <;> simp [shut, h]
theorem acs_shut {o : Own} (ho : OwnOk o) (a : AtomR) : shutL 0 0 (acs o a) = some (acs o a) := by
  have ht : shut 0 0 (termsV o a.terms) = some (termsV o a.terms) := by
    unfold termsV
    split
    · simp
    · exact shut_vs ho (shutL_flat (fun t => by simp [termCs]) _)
  simp [acs, ht]
structure PrefR where
  c1 : List UInt8
  c2 : List UInt8
  c3 : List UInt8
  c4 : List UInt8
  c5 : List UInt8
  ten : Int
def PrefR.cells (a : PrefR) : List AV := [.str a.c1, .str a.c2, .str a.c3, .str a.c4, .str a.c5, .int .i64 a.ten]
def PrefR.code (a : PrefR) (n : Nat) : List UInt8 := match n with | 0 => a.c1 | 1 => a.c2 | 2 => a.c3 | 3 => a.c4 | _ => a.c5
theorem PrefR.len (a : PrefR) : a.cells.length = 6 := by simp [PrefR.cells]
theorem PrefR.take (a : PrefR) : a.cells.take 6 = a.cells := by simp [PrefR.cells]
theorem PrefR.shut (a : PrefR) : shutL 0 0 a.cells = some a.cells := by simp [PrefR.cells]
theorem PrefR.all (a : PrefR) : a.cells.all AV.isCell = true := by simp [PrefR.cells]

theorem atom1_eq (H : Has 60 E) (o : Own) (a : AtomR) {h : AHeap} {rb rc n : Nat} {A P : AV} {code : List UInt8} (hn : n < 5) (hb : h.bl rb = some (.cells [A, P, .int .i64 ((n : Int) + 1)])) (hc : h.bl rc = some (.cells [.str code])) :
    EvCall E (.fn (.func 60) [] [.ref rb 0, .ref rc 0]) [.agg (acs o a)] h = some (.ret (.bool (a.code n == code)), h) := by
  rw [EvCall_reader H.c60 rfl, EvFn_eq]
  have : n = 0 ∨ n = 1 ∨ n = 2 ∨ n = 3 ∨ n = 4 := by omega
  rcases this with rfl | rfl | rfl | rfl | rfl <;> simp [f60, start, acs, AtomR.code, hb, hc, blk_ne hb, blk_ne hc, w64]

theorem indexFunc_loop {α : Type} {cells : α → List AV} {p : α → Bool} {f : AV} {h : AHeap} {own : Own} {L : List α} (hl : ∀ a, (cells a).length = 12) (hlen : L.length < 9223372036854775807)
    (hp : ∀ a ∈ L, EvCall E f [.agg (cells a)] h = some (.ret (.bool (p a)), h)) : ∀ (n i : Nat), i + n = L.length → ∀ F, mask k59_0 F = s59_0 (.vs own L.length (L.flatMap cells)) f (.int .i64 L.length) (.int .i64 i) →
      EvCode E (.loop k59_0 l59_0) F h = some (if idxV p (L.drop i) = -1 then (.exit 0, x59_0, h) else (.ret, r59 (.int .i64 (i + idxV p (L.drop i))), h))
  | 0, i, hi, F, hF => by
    have hi' : i = L.length := by omega
    subst hi'
    rw [EvCode_loop, hF]
    simp [l59_0, s59_0, x59_0, idxV]
  | n + 1, i, hi, F, hF => by
    have hlt : i < L.length := by omega
    rw [EvCode_loop, hF, List.drop_eq_getElem_cons hlt, idxV_cons]
    have hpx := hp L[i] (List.getElem_mem hlt)
    have ih := indexFunc_loop (own := own) hl hlen hp n (i + 1) (by omega)
    generalize EvCode E (.loop k59_0 l59_0) = lp at ih ⊢
    cases hpa : p L[i]
    · rw [hpa] at hpx
      simp [l59_0, s59_0, hlt, fm_len hl, lt_at hlt, le_at hlt, fm_el hl hlt, hl, hpx, w64 (n := (i : Int) + 1)]
      rw [ih _ (by simp [s59_0])]
      rcases idxV_range p (L.drop (i + 1)) with hq | ⟨k, _, hq⟩
      · simp [hq]
      · rw [hq]
        rw [if_neg (by omega), if_neg (by omega), if_neg (by omega)]
        simp [r59]
        omega
    · rw [hpa] at hpx
      simp [l59_0, s59_0, hlt, fm_len hl, lt_at hlt, le_at hlt, fm_el hl hlt, hl, hpx, r59]
theorem indexFunc_eq (H : Has 59 E) {α : Type} {cells : α → List AV} {p : α → Bool} {f : AV} {h : AHeap} {L : List α} (hl : ∀ a, (cells a).length = 12) (hlen : L.length < 9223372036854775807) {own : Own}
    (hp : ∀ a ∈ L, EvCall E f [.agg (cells a)] h.still = some (.ret (.bool (p a)), h.still)) : EvCall E (.fn (.func 59) [] []) [.vs own L.length (L.flatMap cells), f] h = some (.ret (.int .i64 (idxV p L)), h) := by
  rw [EvCall_reader H.c59 rfl, EvFn_eq]
  have hk := indexFunc_loop (own := own) hl hlen hp L.length 0 (by omega)
  simp [f59, start]
  rw [hk _ (by simp [s59_0])]
  by_cases hq : idxV p L = -1 <;> simp [hq, x59_0, r59]
end Go.Pv
/- The table of units and of prefixes, by program. Conditions: none; definitions. -/
namespace Go.Pv
def atomsT : List AtomR := [
  ⟨[109], [77], [109], [77], [109], true, 0, 0, 1, 1, 0, []⟩,
  ⟨[115], [83], [115], [83], [115], true, 0, 1, 1, 1, 0, []⟩,
  ⟨[103], [71], [103], [71], [103], true, 0, 2, 1, 1, 0, []⟩,
  ⟨[114, 97, 100], [82, 65, 68], [114, 97, 100], [82, 65, 68], [114, 97, 100], true, 0, 3, 1, 1, 0, []⟩,
  ⟨[75], [75], [75], [75], [75], true, 0, 4, 1, 1, 0, []⟩,
  ⟨[67], [67], [67], [67], [67], true, 0, 5, 1, 1, 0, []⟩,
  ⟨[99, 100], [67, 68], [99, 100], [67, 68], [99, 100], true, 0, 6, 1, 1, 0, []⟩,
  ⟨[37], [37], [37], [], [37], false, 0, -1, 1, 1, -2, []⟩,
  ⟨[109, 111, 108], [77, 79, 76], [109, 111, 108], [77, 79, 76], [109, 111, 108], true, 0, -1, 602214076, 1, 15, []⟩,
  ⟨[115, 114], [83, 82], [115, 114], [83, 82], [115, 114], true, 0, -1, 1, 1, 0, [(3, 2)]⟩,
  ⟨[72, 122], [72, 90], [72, 122], [72, 90], [72, 122], true, 0, -1, 1, 1, 0, [(1, -1)]⟩,
  ⟨[78], [78], [78], [78], [78], true, 0, -1, 1, 1, 3, [(2, 1), (0, 1), (1, -2)]⟩,
  ⟨[80, 97], [80, 65, 76], [80, 97], [80, 65], [80, 97], true, 0, -1, 1, 1, 0, [(11, 1), (0, -2)]⟩,
  ⟨[74], [74], [74], [74], [74], true, 0, -1, 1, 1, 0, [(11, 1), (0, 1)]⟩,
  ⟨[87], [87], [87], [87], [87], true, 0, -1, 1, 1, 0, [(13, 1), (1, -1)]⟩,
  ⟨[65], [65], [65], [65], [65], true, 0, -1, 1, 1, 0, [(5, 1), (1, -1)]⟩,
  ⟨[86], [86], [86], [86], [86], true, 0, -1, 1, 1, 0, [(13, 1), (5, -1)]⟩,
  ⟨[70], [70], [70], [70], [70], true, 0, -1, 1, 1, 0, [(5, 1), (16, -1)]⟩,
  ⟨[79, 104, 109], [79, 72, 77], [79, 104, 109], [79, 72, 77], [111, 104, 109], true, 0, -1, 1, 1, 0, [(16, 1), (15, -1)]⟩,
  ⟨[83], [83, 73, 69], [83], [83, 73, 69], [83], true, 0, -1, 1, 1, 0, [(18, -1)]⟩,
  ⟨[87, 98], [87, 66], [87, 98], [87, 66], [87, 98], true, 0, -1, 1, 1, 0, [(16, 1), (1, 1)]⟩,
  ⟨[67, 101, 108], [67, 69, 76], [91, 111, 67, 93], [67, 69, 76], [], true, 1, -1, 1, 1, 0, [(4, 1)]⟩,
  ⟨[84], [84], [84], [84], [84], true, 0, -1, 1, 1, 0, [(20, 1), (0, -2)]⟩,
  ⟨[72], [72], [72], [72], [72], true, 0, -1, 1, 1, 0, [(20, 1), (15, -1)]⟩,
  ⟨[108, 109], [76, 77], [108, 109], [76, 77], [108, 109], true, 0, -1, 1, 1, 0, [(6, 1), (9, 1)]⟩,
  ⟨[108, 120], [76, 88], [108, 120], [76, 88], [108, 120], true, 0, -1, 1, 1, 0, [(24, 1), (0, -2)]⟩,
  ⟨[66, 113], [66, 81], [66, 113], [66, 81], [66, 113], true, 0, -1, 1, 1, 0, [(1, -1)]⟩,
  ⟨[71, 121], [71, 89], [71, 121], [71, 89], [71, 121], true, 0, -1, 1, 1, -3, [(13, 1), (2, -1)]⟩,
  ⟨[83, 118], [83, 86], [83, 118], [83, 86], [83, 118], true, 0, -1, 1, 1, -3, [(13, 1), (2, -1)]⟩,
  ⟨[108], [76], [76], [76], [108], true, 0, -1, 1, 1, -3, [(0, 3)]⟩,
  ⟨[97, 114], [65, 82], [97], [65, 82, 69], [97], true, 0, -1, 1, 1, 2, [(0, 2)]⟩,
  ⟨[109, 105, 110], [77, 73, 78], [109, 105, 110], [77, 73, 78], [109, 105, 110], false, 0, -1, 6, 1, 1, [(1, 1)]⟩,
  ⟨[104], [72, 82], [104], [72, 82], [104, 114], false, 0, -1, 36, 1, 2, [(1, 1)]⟩,
  ⟨[100], [68], [100], [68], [100], false, 0, -1, 24, 1, 0, [(32, 1)]⟩,
  ⟨[97], [65, 78, 78], [121, 114], [65, 78, 78], [121, 114], false, 0, -1, 36525, 1, -2, [(33, 1)]⟩,
  ⟨[116], [84, 78, 69], [116], [84, 78, 69], [116], true, 0, -1, 1, 1, 6, [(2, 1)]⟩,
  ⟨[98, 97, 114], [66, 65, 82], [98, 97, 114], [66, 65, 82], [98, 97, 114], true, 0, -1, 1, 1, 5, [(12, 1)]⟩,
  ⟨[91, 105, 110, 95, 105, 93], [91, 73, 78, 95, 73, 93], [105, 110], [73, 78], [105, 110], false, 0, -1, 254, 1, -4, [(0, 1)]⟩,
  ⟨[91, 108, 98, 95, 97, 118, 93], [91, 76, 66, 95, 65, 86, 93], [108, 98], [76, 66], [108, 98], false, 0, -1, 45359237, 1, -5, [(2, 1)]⟩,
  ⟨[91, 112, 72, 93], [91, 80, 72, 93], [112, 72], [], [], false, 2, -1, 1, 1, 0, [(8, 1), (29, -1)]⟩,
  ⟨[66], [66], [66], [], [], true, 3, -1, 1, 1, 0, []⟩,
  ⟨[91, 105, 85, 93], [91, 73, 85, 93], [73, 85], [], [73, 85], true, 0, -1, 1, 1, 0, []⟩,
  ⟨[101, 113], [69, 81], [101, 113], [69, 81], [101, 113], true, 0, -1, 1, 1, 0, [(8, 1)]⟩,
  ⟨[111, 115, 109], [79, 83, 77], [111, 115, 109], [79, 83, 77], [111, 115, 109], true, 0, -1, 1, 1, 0, [(8, 1)]⟩,
  ⟨[107, 97, 116], [75, 65, 84], [107, 97, 116], [75, 65, 84], [107, 97, 116], true, 0, -1, 1, 1, 0, [(8, 1), (1, -1)]⟩,
  ⟨[117], [65, 77, 85], [117], [85], [117], true, 0, -1, 16605390666, 1, -34, [(2, 1)]⟩,
  ⟨[101, 86], [69, 86], [101, 86], [69, 86], [101, 86], true, 0, -1, 1602176634, 1, -28, [(13, 1)]⟩,
  ⟨[91, 100, 114, 95, 97, 118, 93], [91, 68, 82, 95, 65, 86, 93], [100, 114], [], [100, 114], false, 0, -1, 1, 256, 0, [(38, 1)]⟩]
def prefsT : List PrefR := [
  ⟨[89], [89, 65], [89], [], [89], 24⟩,
  ⟨[90], [90, 65], [90], [], [90], 21⟩,
  ⟨[69], [69, 88], [69], [69], [69], 18⟩,
  ⟨[80], [80, 84], [80], [80, 69], [80], 15⟩,
  ⟨[84], [84, 82], [84], [84], [84], 12⟩,
  ⟨[71], [71, 65], [71], [71], [71], 9⟩,
  ⟨[77], [77, 65], [77], [77, 65], [77], 6⟩,
  ⟨[107], [75], [107], [75], [107], 3⟩,
  ⟨[104], [72], [104], [72], [104], 2⟩,
  ⟨[100, 97], [68, 65], [100, 97], [68, 65], [100, 97], 1⟩,
  ⟨[100], [68], [100], [68], [100], -1⟩,
  ⟨[99], [67], [99], [67], [99], -2⟩,
  ⟨[109], [77], [109], [77], [109], -3⟩,
  ⟨[117], [85], [117], [85], [117], -6⟩,
  ⟨[110], [78], [110], [78], [110], -9⟩,
  ⟨[112], [80], [112], [80], [112], -12⟩,
  ⟨[102], [70], [102], [70], [102], -15⟩,
  ⟨[97], [65], [97], [65], [97], -18⟩,
  ⟨[122], [90, 79], [122], [], [122], -21⟩,
  ⟨[121], [89, 79], [121], [], [121], -24⟩]
end Go.Pv
