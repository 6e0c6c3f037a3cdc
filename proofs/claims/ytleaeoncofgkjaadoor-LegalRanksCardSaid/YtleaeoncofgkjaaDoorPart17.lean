/- Part 17 of the proof: what functions of the program come to. Conditions: none; definitions and theorems that the statement's proof uses. -/
import Derived.Test.YtleaeoncofgkjaaDoorPart16
/- What the reference's texts of symbols come to, all of them, their row, a rank. Conditions: the functions' codes; theorems. -/
namespace Go.Pv
variable {E : Env} {B : Tb} {n : Nat}

set_option maxHeartbeats 2000000 in
theorem refText_eq (H : Has 53 E) (ok : B.Ok) (sh : B.Short) (hn : n < 5) {p : Int} (hp : -1 ≤ p) (hp2 : p < B.Q.length) {i : Nat} (hi : i < B.L.length) : EvClosed E (.fn (.func 53) [] []) [B.V, .int .i64 ((n : Int) + 1), .int .i64 p, .int .i64 i] = some (.str (symText n B.L B.Q p i)) := by
  rw [EvClosed_eq H.c53 rfl (vs := [B.V, .int .i64 ((n : Int) + 1), .int .i64 p, .int .i64 i]) (by simp [Tb.V, Tb.A_shut ok, Tb.P_shut ok]), EvFn_eq]
  have hw : IntKind.i64.wrap (n : Int) = n := w64
  have hn5 : (n : Int) < 5 := by omega
  have hi1 := decide_eq_false (by omega : ¬ ((i : Int) < 0))
  have hi2 := decide_eq_false (by omega : ¬ ((B.L.length : Int) ≤ i))
  have hi3 : ¬ (B.L.length ≤ i) := by omega
  have hp1 := decide_eq_false (by omega : ¬ (p < -1))
  have hp3 := decide_eq_false (by omega : ¬ ((B.Q.length : Int) ≤ p))
  have hc : (B.L[i].code n).length ≤ 1000 := sh.a _ (List.getElem_mem hi) n
  have ca := code_at B.ot hn hi
  have cm := metric_at B.ot hi
  cases h1 : (B.L[i].code n).isEmpty
  · by_cases hpp : p = -1
    · subst hpp
      simp [f53, start, Tb.V, Tb.A, Tb.P, hi, hi1, hi2, hi3, hp1, hp3, hw, hn5, fm_len (acs_len B.ot), lt_at hi, le_off hi, lt_off hi, (by omega : n < 12), (by omega : n + 1 ≤ 12), ca, h1, symText, textA]
    · obtain ⟨j, rfl⟩ : ∃ j : Nat, p = j := ⟨p.toNat, by omega⟩
      have hj : j < B.Q.length := by omega
      have hj3 : ¬ (B.Q.length ≤ j) := by omega
      have hj4 : ((j : Int) == -1) = false := by simp
      have hj5 : ¬ ((j : Int) = -1) := by omega
      have hq : (B.Q[j].code n).length ≤ 1000 := sh.p _ (List.getElem_mem hj) n
      have hs3 : (B.Q[j].code n).length + (B.L[i].code n).length ≤ 9223372036854775807 := by omega
      have cp := pref_at hn hj
      cases h2 : (B.Q[j].code n).isEmpty
      · cases h3 : B.L[i].metric <;> simp [f53, start, Tb.V, Tb.A, Tb.P, hi, hi1, hi2, hi3, hp1, hp3, hw, hn5, fm_len (acs_len B.ot), lt_at hi, le_off hi, lt_off hi, (by omega : n < 12), (by omega : n + 1 ≤ 12), ca, cm, h1, h2, h3, hj, hj3, hj4, hj5, cp, fm_len PrefR.len, lt_at hj, le_off hj, lt_off hj, (by omega : n < 6), (by omega : n + 1 ≤ 6), hs3, symText, textP]
      · simp [f53, start, Tb.V, Tb.A, Tb.P, hi, hi1, hi2, hi3, hp1, hp3, hw, hn5, fm_len (acs_len B.ot), lt_at hi, le_off hi, lt_off hi, (by omega : n < 12), (by omega : n + 1 ≤ 12), ca, cm, h1, h2, hj, hj3, hj4, hj5, cp, fm_len PrefR.len, lt_at hj, le_off hj, lt_off hj, (by omega : n < 6), (by omega : n + 1 ≤ 6), hs3, symText, textP]
  · have h1' : B.L[i].code n = [] := by simpa using h1
    have hs : symText n B.L B.Q p i = [] := by
      unfold symText textA textP
      split
      · simp [hi, h1']
      · simp only [List.getElem?_eq_getElem hi]
        split
        · rename_i a q e1 e2
          cases e1
          simp [h1']
        · rfl
    rw [hs]
    simp [f53, start, Tb.V, Tb.A, Tb.P, hi, hi1, hi2, hi3, hp1, hp3, hw, hn5, fm_len (acs_len B.ot), lt_at hi, le_off hi, lt_off hi, (by omega : n < 12), (by omega : n + 1 ≤ 12), ca, h1, h1']
theorem refTold_eq (H : Has 52 E) (ok : B.Ok) (sh : B.Short) (hn : n < 5) {p : Int} (hp : -1 ≤ p) (hp2 : p < B.Q.length) {i : Nat} (hi : i < B.L.length) : EvClosed E (.fn (.func 52) [] []) [B.V, .int .i64 ((n : Int) + 1), .int .i64 p, .int .i64 i] = some (.bool (toldB n B.L B.Q (symText n B.L B.Q p i) p i)) := by
  rw [EvClosed_eq H.c52 rfl (vs := [B.V, .int .i64 ((n : Int) + 1), .int .i64 p, .int .i64 i]) (by simp [Tb.V, Tb.A_shut ok, Tb.P_shut ok]), EvFn_eq]
  have ht := refText_eq (H.to 53) ok sh hn hp hp2 hi
  have hf := refFind_eq (H.to 74) ok hn (symText n B.L B.Q p i)
  generalize symText n B.L B.Q p i = s at ht hf ⊢
  simp only [Tb.V] at ht hf
  have ca := @Tb.A_cell B
  have cp := @Tb.P_cell B
  cases h1 : s.isEmpty
  · cases h2 : (findB n B.L B.Q s).2.2
    · simp [f52, start, Tb.V, ca, cp, push_set, EvCall_closed H.c53 rfl, EvCall_closed H.c74 rfl, ht, hf, toldB, h1, h2]
    · cases h3 : ((findB n B.L B.Q s).1 == p) <;> simp [f52, start, Tb.V, ca, cp, push_set, EvCall_closed H.c53 rfl, EvCall_closed H.c74 rfl, ht, hf, toldB, h1, h2, h3]
  · simp [f52, start, Tb.V, ca, cp, push_set, EvCall_closed H.c53 rfl, EvCall_closed H.c74 rfl, ht, hf, toldB, h1]
end Go.Pv
