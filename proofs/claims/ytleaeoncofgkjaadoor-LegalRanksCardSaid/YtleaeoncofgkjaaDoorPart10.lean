/- Part 10 of the proof: what functions of the program come to. Conditions: none; definitions and theorems that the statement's proof uses. -/
import Derived.Test.YtleaeoncofgkjaaDoorPart9
/- What the text of a symbol comes to, and whether it is told. Conditions: the functions' codes; theorems. -/
namespace Go.Pv
variable {E : Env} {B : Tb} {n : Nat}

def textA (n : Nat) (L : List AtomR) (i : Nat) : List UInt8 := ((L[i]?).map (·.code n)).getD []
def textP (n : Nat) (L : List AtomR) (Q : List PrefR) (j i : Nat) : List UInt8 :=
  match L[i]?, Q[j]? with
  | some a, some p => if (a.code n).isEmpty then [] else if (p.code n).isEmpty || !a.metric then [] else p.code n ++ a.code n
  | _, _ => []
/-- No text is long. -/
structure Tb.Short (B : Tb) : Prop where
  a : ∀ a ∈ B.L, ∀ n, (a.code n).length ≤ 1000
  p : ∀ a ∈ B.Q, ∀ n, (a.code n).length ≤ 1000
theorem textA_eq (H : Has 55 E) (ok : B.Ok) (hn : n < 5) {i : Nat} (hi : i < B.L.length) : EvClosed E (.fn (.func 55) [] []) [B.bookV n, .int .i64 (-1), .int .i64 i] = some (.str (textA n B.L i)) := by
  rw [EvClosed_eq H.c55 rfl (vs := [B.bookV n, .int .i64 (-1), .int .i64 i]) (by simp [Tb.bookV, Tb.A_shut ok, Tb.P_shut ok]), EvFn_eq]
  have hw : IntKind.i64.wrap (n : Int) = n := w64
  have hn5 : (n : Int) < 5 := by omega
  have hi1 : ¬ ((i : Int) < 0) := by omega
  have hi2 : ¬ ((B.L.length : Int) ≤ i) := by omega
  have hi3 : ¬ (B.L.length ≤ i) := by omega
  have hq : ¬ ((B.Q.length : Int) ≤ -1) := by omega
  simp [f55, start, Tb.bookV, Tb.A, Tb.P, hi, hi1, hi2, hi3, hq, fm_len (acs_len B.ot), lt_at hi, le_at hi, fm_el (acs_len B.ot) hi, acs_len, acs_all, hw, hn5, (by omega : n < 12), (by omega : n + 1 ≤ 12), acs_at B.ot _ hn, push_set, setCells_full, textA]
set_option maxHeartbeats 2000000 in
theorem textP_eq (H : Has 55 E) (ok : B.Ok) (sh : B.Short) (hn : n < 5) {i j : Nat} (hi : i < B.L.length) (hj : j < B.Q.length) : EvClosed E (.fn (.func 55) [] []) [B.bookV n, .int .i64 j, .int .i64 i] = some (.str (textP n B.L B.Q j i)) := by
  rw [EvClosed_eq H.c55 rfl (vs := [B.bookV n, .int .i64 j, .int .i64 i]) (by simp [Tb.bookV, Tb.A_shut ok, Tb.P_shut ok]), EvFn_eq]
  have hw : IntKind.i64.wrap (n : Int) = n := w64
  have hn5 : (n : Int) < 5 := by omega
  have hi1 : ¬ ((i : Int) < 0) := by omega
  have hi2 : ¬ ((B.L.length : Int) ≤ i) := by omega
  have hi3 : ¬ (B.L.length ≤ i) := by omega
  have hj1 : ¬ ((j : Int) < -1) := by omega
  have hj2 : ¬ ((B.Q.length : Int) ≤ j) := by omega
  have hj3 : ¬ (B.Q.length ≤ j) := by omega
  have hj4 : ((j : Int) == -1) = false := by simp
  have hmet := metric_at B.ot hi
  have hs1 := sh.a B.L[i] (List.getElem_mem hi) n
  have hs2 := sh.p B.Q[j] (List.getElem_mem hj) n
  have hs3 : (B.Q[j].code n).length + (B.L[i].code n).length ≤ 9223372036854775807 := by omega
  have hm5 : ((acs B.ot B.L[i]).drop 5).take 1 = [.bool B.L[i].metric] := rfl
  cases h1 : (B.L[i].code n).isEmpty
  · cases h2 : (B.Q[j].code n).isEmpty
    · cases h3 : B.L[i].metric <;> simp [f55, start, Tb.bookV, Tb.A, Tb.P, hi, hj, hi1, hi2, hi3, hj1, hj2, hj3, hj4, hs3, hm5, fm_len (acs_len B.ot), lt_at hi, le_at hi, fm_el (acs_len B.ot) hi, acs_len, acs_all, fm_len PrefR.len, lt_at hj, le_off hj, lt_off hj, pref_at hn hj, (by omega : n < 6), (by omega : n + 1 ≤ 6), hw, hn5, (by omega : n < 12), (by omega : n + 1 ≤ 12), acs_at B.ot _ hn, push_set, setCells_full, textP, h1, h2, h3]
    · simp [f55, start, Tb.bookV, Tb.A, Tb.P, hi, hj, hi1, hi2, hi3, hj1, hj2, hj3, hj4, hs3, hm5, fm_len (acs_len B.ot), lt_at hi, le_at hi, fm_el (acs_len B.ot) hi, acs_len, acs_all, fm_len PrefR.len, lt_at hj, le_off hj, lt_off hj, pref_at hn hj, (by omega : n < 6), (by omega : n + 1 ≤ 6), hw, hn5, (by omega : n < 12), (by omega : n + 1 ≤ 12), acs_at B.ot _ hn, push_set, setCells_full, textP, h1, h2]
  · have h1' : B.L[i].code n = [] := by simpa using h1
    simp [f55, start, Tb.bookV, Tb.A, Tb.P, hi, hj, hi1, hi2, hi3, hj1, hj2, hj3, hj4, hs3, hm5, fm_len (acs_len B.ot), lt_at hi, le_at hi, fm_el (acs_len B.ot) hi, acs_len, acs_all, fm_len PrefR.len, lt_at hj, le_off hj, lt_off hj, pref_at hn hj, (by omega : n < 6), (by omega : n + 1 ≤ 6), hw, hn5, (by omega : n < 12), (by omega : n + 1 ≤ 12), acs_at B.ot _ hn, push_set, setCells_full, textP, h1, h1']
def symText (n : Nat) (L : List AtomR) (Q : List PrefR) (p : Int) (a : Nat) : List UInt8 := if p = -1 then textA n L a else textP n L Q p.toNat a
theorem symText_eq (H : Has 55 E) (ok : B.Ok) (sh : B.Short) (hn : n < 5) {p : Int} (hp : -1 ≤ p) (hp2 : p < B.Q.length) {a : Nat} (ha : a < B.L.length) : EvClosed E (.fn (.func 55) [] []) [B.bookV n, .int .i64 p, .int .i64 a] = some (.str (symText n B.L B.Q p a)) := by
  unfold symText
  split
  · rename_i h
    subst h
    exact textA_eq H ok hn ha
  · rename_i h
    obtain ⟨j, rfl⟩ : ∃ j : Nat, p = j := ⟨p.toNat, by omega⟩
    exact textP_eq H ok sh hn ha (by omega)

/-- Is a symbol found again? -/
def toldB (n : Nat) (L : List AtomR) (Q : List PrefR) (s : List UInt8) (p a : Int) : Bool := !s.isEmpty && ((findB n L Q s).2.2 && ((findB n L Q s).1 == p && (findB n L Q s).2.1 == a))
theorem told_eq (H : Has 37 E) (ok : B.Ok) (hn : n < 5) {p a : Int} {s : List UInt8} (ht : EvClosed E (.fn (.func 55) [] []) [B.bookV n, .int .i64 p, .int .i64 a] = some (.str s)) :
    EvClosed E (.fn (.func 37) [] []) [B.bookV n, .int .i64 p, .int .i64 a] = some (.tuple [.str s, .bool (toldB n B.L B.Q s p a)]) := by
  rw [EvClosed_eq H.c37 rfl (vs := [B.bookV n, .int .i64 p, .int .i64 a]) (by simp [Tb.bookV, Tb.A_shut ok, Tb.P_shut ok]), EvFn_eq]
  have hf := find_eq (H.to 26) ok hn s
  simp only [Tb.bookV] at ht hf
  have ca := @Tb.A_cell B
  have cp := @Tb.P_cell B
  cases h1 : s.isEmpty
  · cases h2 : (findB n B.L B.Q s).2.2
    · simp [f37, start, Tb.bookV, ca, cp, push_set, EvCall_closed H.c55 rfl, EvCall_closed H.c26 rfl, ht, hf, toldB, h1, h2]
    · cases h3 : ((findB n B.L B.Q s).1 == p) <;> simp [f37, start, Tb.bookV, ca, cp, push_set, EvCall_closed H.c55 rfl, EvCall_closed H.c26 rfl, ht, hf, toldB, h1, h2, h3]
  · simp [f37, start, Tb.bookV, ca, cp, push_set, EvCall_closed H.c55 rfl, EvCall_closed H.c26 rfl, ht, hf, toldB, h1]
end Go.Pv
