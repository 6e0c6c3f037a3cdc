/- Part 12 of the proof: what functions of the program come to. Conditions: none; definitions and theorems that the statement's proof uses. -/
import Derived.Test.YtleaeoncofgkjaaDoorPart11
/- What opening a notation's book comes to, and what the reference's functions on symbols: begins, atom, find. Conditions: the functions' codes; theorems. -/
namespace Go.Pv
variable {E : Env} {B : Tb} {n : Nat}

theorem open_eq (H : Has 25 E) (ok : B.Ok) (h38 : EvClosed E (.fn (.func 38) [] []) [] = some B.V) (x : Int) :
    EvClosed E (.fn (.func 25) [] []) [.int .i64 x] = some (.tuple [.agg [B.A, B.P, .int .i64 x], .bool (decide (1 ≤ x) && decide (x ≤ 5))]) := by
  rw [EvClosed_eq H.c25 rfl (vs := [.int .i64 x]) (by simp), EvFn_eq]
  simp only [Tb.V] at h38
  have h1 := Tb.A_shut ok
  have h2 := Tb.P_shut ok
  cases h3 : decide (1 ≤ x) <;> simp [f25, start, EvCall_closed H.c38 rfl, h38, Tb.A_cell, Tb.P_cell, push_set, push_setk, h1, h2, h3]
theorem find13_eq (H : Has 13 E) (ok : B.Ok) (h38 : EvClosed E (.fn (.func 38) [] []) [] = some B.V) (x : Int) (s : List UInt8) :
    EvClosed E (.fn (.func 13) [] []) [.int .i64 x, .str s] = some (.tuple [.int .i64 (if 1 ≤ x ∧ x ≤ 5 then (findB (x - 1).toNat B.L B.Q s).1 else -1), .int .i64 (if 1 ≤ x ∧ x ≤ 5 then (findB (x - 1).toNat B.L B.Q s).2.1 else -1), .bool (decide (1 ≤ x ∧ x ≤ 5) && (findB (x - 1).toNat B.L B.Q s).2.2)]) := by
  rw [EvClosed_eq H.c13 rfl (vs := [.int .i64 x, .str s]) (by simp), EvFn_eq]
  have ho := open_eq (H.to 25) ok h38 x
  by_cases hx : 1 ≤ x ∧ x ≤ 5
  · obtain ⟨n, hn, rfl⟩ : ∃ n : Nat, n < 5 ∧ x = (n : Int) + 1 := ⟨(x - 1).toNat, by omega, by omega⟩
    have hf := find_eq (E := E) (H.to 26) ok hn s
    simp only [Tb.bookV] at hf
    have h1 : decide (1 ≤ (n : Int) + 1) = true := decide_eq_true (by omega)
    have h2 : decide ((n : Int) + 1 ≤ 5) = true := decide_eq_true (by omega)
    simp only [h1, h2] at ho
    have h3 : (n : Int) + 1 - 1 = n := by omega
    have h4 : (n : Int) ≤ 4 := by omega
    simp [f13, start, EvCall_closed H.c25 rfl, EvCall_closed H.c26 rfl, ho, hf, hx, h3, h4, h2, Tb.A_cell, Tb.P_cell, push_set]
  · have h1 : (decide (1 ≤ x) && decide (x ≤ 5)) = false := by
      cases h : (decide (1 ≤ x) && decide (x ≤ 5))
      · rfl
      · simp at h; exact absurd h hx
    rw [h1] at ho
    simp [f13, start, EvCall_closed H.c25 rfl, ho, hx, Tb.A_cell, Tb.P_cell, push_set]

def beginsB (s p : List UInt8) : Bool := !p.isEmpty && (decide (p.length < s.length) && (s.take p.length == p))
theorem begins_eq (H : Has 87 E) (s p : List UInt8) : EvClosed E (.fn (.func 87) [] []) [.str s, .str p] = some (.bool (beginsB s p)) := by
  rw [EvClosed_eq H.c87 rfl (vs := [.str s, .str p]) (by simp), EvFn_eq]
  cases h1 : p.isEmpty
  · cases h2 : decide (p.length < s.length)
    · have h2' : ¬ p.length < s.length := by simpa using h2
      simp [f87, start, h1, h2, h2', beginsB]
    · have h2' : p.length < s.length := by simpa using h2
      have h3 : p.length ≤ s.length := by omega
      simp [f87, start, h1, h2, h2', h3, beginsB]
  · simp [f87, start, h1, beginsB]

theorem code_at (o : Own) {L : List AtomR} (hn : n < 5) {i : Nat} (hi : i < L.length) : ((L.flatMap (acs o)).drop (i * 12 + n)).take 1 = [.str (L[i].code n)] := by
  rw [fm_at (acs_len o) hi (by omega), acs_at o _ hn]
theorem pref_at {Q : List PrefR} (hn : n < 5) {i : Nat} (hi : i < Q.length) : ((Q.flatMap PrefR.cells).drop (i * 6 + n)).take 1 = [.str (Q[i].code n)] := by
  rw [fm_at PrefR.len hi (by omega), PrefR.at_ _ hn]
theorem metric_at (o : Own) {L : List AtomR} {i : Nat} (hi : i < L.length) : ((L.flatMap (acs o)).drop (i * 12 + 5)).take 1 = [.bool L[i].metric] := by
  rw [fm_at (acs_len o) hi (by omega)]
  rfl
theorem refAtom_loop (ok : B.Ok) (hn : n < 5) (s : List UInt8) {h : AHeap} (hb : h.bl 0 = some (.cells [B.A, B.P])) : ∀ (m i : Nat), i + m = B.L.length → ∀ F, mask k86_0 F = s86_0 (.int .i64 ((n : Int) + 1)) (.str s) (.ref 0 0) (.int .i64 i) →
    EvCode E (.loop k86_0 l86_0) F h = some (if atomIdx n (B.L.drop i) s = -1 then (.exit 0, x86_0, h) else (.ret, r86 (.int .i64 (i + atomIdx n (B.L.drop i) s)), h))
  | 0, i, hi, F, hF => by
    have hi' : i = B.L.length := by omega
    subst hi'
    rw [EvCode_loop, hF]
    simp only [Tb.A, Tb.P] at hb
    simp [l86_0, s86_0, x86_0, atomIdx, idxV, hb]
  | m + 1, i, hi, F, hF => by
    have hlt : i < B.L.length := by omega
    have hpl := ok.len
    have ih := refAtom_loop ok hn s hb m (i + 1) (by omega)
    rw [EvCode_loop, hF, List.drop_eq_getElem_cons hlt]
    generalize EvCode E (.loop k86_0 l86_0) = lp at ih ⊢
    simp only [Tb.A, Tb.P] at hb
    have hw : IntKind.i64.wrap (n : Int) = n := w64
    have hn5 : (n : Int) < 5 := by omega
    cases hs : s.isEmpty
    · simp only [atomIdx, hs, Bool.false_eq_true, if_false, idxV_cons] at ih ⊢
      cases hp : (B.L[i].code n == s)
      · simp [l86_0, s86_0, hlt, hb, hs, fm_len (acs_len B.ot), lt_at hlt, le_off hlt, lt_off hlt, hw, hn5, (by omega : n < 12), (by omega : n + 1 ≤ 12), code_at B.ot hn hlt, hp, w64 (n := (i : Int) + 1)]
        rw [ih _ (by simp [s86_0])]
        rcases idxV_range (fun a => a.code n == s) (B.L.drop (i + 1)) with hq | ⟨k, _, hq⟩
        · simp [hq]
        · rw [hq, if_neg (by omega), if_neg (by omega), if_neg (by omega)]
          simp [r86]
          omega
      · simp [l86_0, s86_0, hlt, hb, hs, fm_len (acs_len B.ot), lt_at hlt, le_off hlt, lt_off hlt, hw, hn5, (by omega : n < 12), (by omega : n + 1 ≤ 12), code_at B.ot hn hlt, hp, r86]
    · simp [l86_0, s86_0, hlt, hb, hs, w64 (n := (i : Int) + 1)]
      rw [ih _ (by simp [s86_0])]
      simp [atomIdx, hs]
theorem refAtom_eq (H : Has 86 E) (ok : B.Ok) (hn : n < 5) (s : List UInt8) : EvClosed E (.fn (.func 86) [] []) [B.V, .int .i64 ((n : Int) + 1), .str s] = some (.int .i64 (atomIdx n B.L s)) := by
  rw [EvClosed_eq H.c86 rfl (vs := [B.V, .int .i64 ((n : Int) + 1), .str s]) (by simp [Tb.V, Tb.A_shut ok, Tb.P_shut ok]), EvFn_eq]
  have hl := fun h hb => refAtom_loop (E := E) ok hn s (h := h) hb B.L.length 0 (by omega)
  simp [f86, start, Tb.V]
  rw [hl _ (by simp) _ (by simp [s86_0])]
  by_cases hq : atomIdx n B.L s = -1 <;> simp [hq, x86_0, r86]
end Go.Pv
/- What the reference's find comes to. Conditions: the functions' codes; theorems. -/
namespace Go.Pv
variable {E : Env} {B : Tb} {n : Nat}

theorem rest_begins {L : List AtomR} {s : List UInt8} {p : PrefR} (hb : beginsB s (p.code n) = true) : restOf n L s p = (atomIdx n L (s.drop (p.code n).length), atomIdx n L (s.drop (p.code n).length) != -1 && ((L[(atomIdx n L (s.drop (p.code n).length)).toNat]?).map (·.metric)).getD false) := by
  simp only [beginsB, Bool.and_eq_true, Bool.not_eq_true', decide_eq_true_eq] at hb
  obtain ⟨h1, h2, h3⟩ := hb
  have hP : hasP s (p.code n) = true := by
    simp only [hasP, Bool.and_eq_true, decide_eq_true_eq]
    exact ⟨by omega, h3⟩
  have hne : (s.drop (p.code n).length == s) = false := by
    have hl : (s.drop (p.code n).length).length ≠ s.length := by
      have : 0 < (p.code n).length := by
        cases hc : p.code n with
        | nil => rw [hc] at h1; simp at h1
        | cons x l => simp
      simp
      omega
    have : s.drop (p.code n).length ≠ s := fun h => hl (by rw [h])
    simpa using this
  simp only [restOf, cutP, hP, if_true, hne, Bool.not_true, Bool.or_self, Bool.false_eq_true, if_false]
theorem rest_not {L : List AtomR} {s : List UInt8} {p : PrefR} (hb : beginsB s (p.code n) = false) : (restOf n L s p).2 = false := by
  unfold restOf
  cases hP : hasP s (p.code n)
  · simp [cutP, hP]
  · simp only [cutP, hP, if_true, Bool.not_true, Bool.false_or]
    split
    · rfl
    · rename_i hne
      have hle := hasP_le hP
      have hemp : s.drop (p.code n).length = [] := by
        simp only [hasP, Bool.and_eq_true, decide_eq_true_eq] at hP
        simp only [beginsB, hP.2, Bool.and_true, Bool.and_eq_false_iff, Bool.not_eq_false', decide_eq_false_iff_not] at hb
        rcases hb with h | h
        · have : p.code n = [] := by simpa using h
          rw [this] at hne
          simp at hne
        · exact List.drop_eq_nil_of_le (by omega)
      simp [hemp, atomIdx]
theorem begins_le {s p : List UInt8} (hb : beginsB s p = true) : p.length ≤ s.length := by
  simp only [beginsB, Bool.and_eq_true, decide_eq_true_eq] at hb
  omega
theorem refFind_loop (H : Has 74 E) (ok : B.Ok) (hn : n < 5) (s : List UInt8) {h : AHeap} {x y z : AV} (hb : h.bl 0 = some (.cells [B.A, B.P])) (h1 : h.bl 1 = some (.cells [x, y, z])) (hro : h.ro = 0) :
    ∀ (m i : Nat), i + m = B.Q.length → ∀ F, mask k74_0 F = s74_0 (.int .i64 ((n : Int) + 1)) (.str s) (.ref 0 0) (.ref 1 0) (.int .i64 i) →
    EvCode E (.loop k74_0 l74_0) F h = some (if (firstP n B.L s (B.Q.drop i) i).2.2 then (.ret, r74 (.ref 1 0), h.setBlk 1 (.cells [.int .i64 (firstP n B.L s (B.Q.drop i) i).1, .int .i64 (firstP n B.L s (B.Q.drop i) i).2.1, .bool true])) else (.exit 0, x74_0 (.ref 1 0), h))
  | 0, i, hi, F, hF => by
    have hi' : i = B.Q.length := by omega
    subst hi'
    rw [EvCode_loop, hF]
    simp only [Tb.A, Tb.P] at hb
    simp [l74_0, s74_0, x74_0, firstP, hb]
  | m + 1, i, hi, F, hF => by
    have hlt : i < B.Q.length := by omega
    have hpl := ok.plen
    have ih := refFind_loop H ok hn s hb h1 hro m (i + 1) (by omega)
    have hbg := begins_eq (H.to 87) s (B.Q[i].code n)
    have hat := refAtom_eq (H.to 86) ok hn (s.drop (B.Q[i].code n).length)
    rw [EvCode_loop, hF, List.drop_eq_getElem_cons hlt]
    generalize EvCode E (.loop k74_0 l74_0) = lp at ih ⊢
    simp only [Tb.V, Tb.A, Tb.P] at hb hat
    have hw : IntKind.i64.wrap (n : Int) = n := w64
    have hn5 : (n : Int) < 5 := by omega
    simp only [firstP]
    cases hbs : beginsB s (B.Q[i].code n)
    · have hr := rest_not (L := B.L) hbs
      simp [l74_0, s74_0, hlt, hb, fm_len PrefR.len, lt_at hlt, le_off hlt, lt_off hlt, hw, hn5, (by omega : n < 6), (by omega : n + 1 ≤ 6), pref_at hn hlt, EvCall_closed H.c87 rfl, hbg, hbs, hr, w64 (n := (i : Int) + 1)]
      rw [ih _ (by simp [s74_0])]
    · have hle := begins_le hbs
      have hr := rest_begins (L := B.L) hbs
      rcases atomIdx_range (n := n) B.L (s.drop (B.Q[i].code n).length) with ha | ⟨a, hal, ha⟩
      · rw [ha] at hat
        simp [l74_0, s74_0, hlt, hb, fm_len PrefR.len, lt_at hlt, le_off hlt, lt_off hlt, hw, hn5, (by omega : n < 6), (by omega : n + 1 ≤ 6), pref_at hn hlt, EvCall_closed H.c87 rfl, EvCall_closed H.c86 rfl, hbg, hbs, hle, hat, hr, ha, w64 (n := (i : Int) + 1)]
        rw [ih _ (by simp [s74_0])]
      · rw [ha] at hat
        have hne : ((a : Int) != -1) = true := by simp
        cases hm : B.L[a].metric
        · simp [l74_0, s74_0, hlt, hb, fm_len PrefR.len, fm_len (acs_len B.ot), lt_at hlt, le_off hlt, lt_off hlt, hw, hn5, (by omega : n < 6), (by omega : n + 1 ≤ 6), pref_at hn hlt, EvCall_closed H.c87 rfl, EvCall_closed H.c86 rfl, hbg, hbs, hle, hat, hr, ha, hal, lt_at hal, le_off hal, lt_off hal, metric_at B.ot hal, hm, w64 (n := (i : Int) + 1)]
          rw [ih _ (by simp [s74_0])]
        · simp [l74_0, s74_0, hlt, hb, h1, hro, fm_len PrefR.len, fm_len (acs_len B.ot), lt_at hlt, le_off hlt, lt_off hlt, hw, hn5, (by omega : n < 6), (by omega : n + 1 ≤ 6), pref_at hn hlt, EvCall_closed H.c87 rfl, EvCall_closed H.c86 rfl, hbg, hbs, hle, hat, hr, ha, hal, lt_at hal, le_off hal, lt_off hal, metric_at B.ot hal, hm, hne, r74]
theorem refFind_eq (H : Has 74 E) (ok : B.Ok) (hn : n < 5) (s : List UInt8) : EvClosed E (.fn (.func 74) [] []) [B.V, .int .i64 ((n : Int) + 1), .str s] =
    some (.agg [.int .i64 (findB n B.L B.Q s).1, .int .i64 (findB n B.L B.Q s).2.1, .bool (findB n B.L B.Q s).2.2]) := by
  rw [EvClosed_eq H.c74 rfl (vs := [B.V, .int .i64 ((n : Int) + 1), .str s]) (by simp [Tb.V, Tb.A_shut ok, Tb.P_shut ok]), EvFn_eq]
  have hat := refAtom_eq (H.to 86) ok hn s
  simp only [Tb.V] at hat
  rcases atomIdx_range (n := n) B.L s with ha | ⟨a, hal, ha⟩
  · rw [ha] at hat
    have hl := fun h x y z hb h1 hro => refFind_loop (E := E) H ok hn s (h := h) (x := x) (y := y) (z := z) hb h1 hro B.Q.length 0 (by omega)
    have hne : (atomIdx n B.L s != -1) = false := by rw [ha]; rfl
    simp [f74, start, Tb.V, EvCall_closed H.c86 rfl, hat]
    rw [hl _ (.int .i64 0) (.int .i64 0) (.bool false) (by simp) (by simp) (by simp) _ (by simp [s74_0])]
    simp only [findB, hne, Bool.false_eq_true, if_false, List.drop_zero]
    cases hf : (firstP n B.L s B.Q 0).2.2
    · have : firstP n B.L s B.Q 0 = (-1, -1, false) := by
        have key : ∀ (Q : List PrefR) (i : Nat), (firstP n B.L s Q i).2.2 = false → firstP n B.L s Q i = (-1, -1, false) := by
          intro Q
          induction Q with
          | nil => intro i _; rfl
          | cons p Q ih =>
            intro i h
            simp only [firstP] at h ⊢
            split at h
            · simp at h
            · rename_i hp; rw [if_neg hp]; exact ih _ h
        exact key _ _ hf
      simp [this, x74_0]
    · simp [r74]
  · rw [ha] at hat
    have hne : (atomIdx n B.L s != -1) = true := by rw [ha]; simp
    simp [f74, start, Tb.V, EvCall_closed H.c86 rfl, hat, findB, hne, ha]

theorem findB_none : ∀ (L : List AtomR) (s : List UInt8) (Q : List PrefR) (i : Nat), (firstP n L s Q i).2.2 = false → firstP n L s Q i = (-1, -1, false)
  | L, s, [], i, _ => rfl
  | L, s, p :: Q, i, h => by
    simp only [firstP] at h ⊢
    split at h
    · simp at h
    · rename_i hp; rw [if_neg hp]; exact findB_none L s Q _ h
theorem refFind217_eq (H : Has 217 E) (ok : B.Ok) (h51 : EvClosed E (.fn (.func 51) [] []) [] = some B.V) (x : Int) (s : List UInt8) :
    EvClosed E (.fn (.func 217) [] []) [.int .i64 x, .str s] = some (.agg [.int .i64 (if 1 ≤ x ∧ x ≤ 5 then (findB (x - 1).toNat B.L B.Q s).1 else -1), .int .i64 (if 1 ≤ x ∧ x ≤ 5 then (findB (x - 1).toNat B.L B.Q s).2.1 else -1), .bool (decide (1 ≤ x ∧ x ≤ 5) && (findB (x - 1).toNat B.L B.Q s).2.2)]) := by
  rw [EvClosed_eq H.c217 rfl (vs := [.int .i64 x, .str s]) (by simp), EvFn_eq]
  by_cases hx : 1 ≤ x ∧ x ≤ 5
  · obtain ⟨n, hn, rfl⟩ : ∃ n : Nat, n < 5 ∧ x = (n : Int) + 1 := ⟨(x - 1).toNat, by omega, by omega⟩
    have hf := refFind_eq (E := E) (H.to 74) ok hn s
    have h2 : ¬ ((n : Int) + 1 < 1) := by omega
    have h3 : ¬ (5 < (n : Int) + 1) := by omega
    have h5 : (n : Int) + 1 - 1 = n := by omega
    simp [f217, start, EvCall_closed H.c51 rfl, EvCall_closed H.c74 rfl, h51, hf, hx, h2, h3, h5]
  · by_cases h1 : x < 1
    · simp [f217, start, h1, hx]
    · have h2 : 5 < x := by omega
      simp [f217, start, h1, h2, hx]

end Go.Pv
