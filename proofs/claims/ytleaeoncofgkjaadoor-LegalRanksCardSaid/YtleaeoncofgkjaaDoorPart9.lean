/- Part 9 of the proof: what functions of the program come to. Conditions: none; definitions and theorems that the statement's proof uses. -/
import Derived.Test.YtleaeoncofgkjaaDoorPart8
/- What the reference's find comes to. Conditions: the functions' codes; theorems. -/
namespace Go.Pv
variable {E : Env} {B : Tb} {n : Nat}

theorem rest_begins {L : List AtomR} {s : List UInt8} {p : PrefR} (hb : beginsB s (p.code n) = true) : restOf n L s p = (atomIdx n L (s.drop (p.code n).length), atomIdx n L (s.drop (p.code n).length) != -1 && ((L[(atomIdx n L (s.drop (p.code n).length)).toNat]?).map (·.metric)).getD false) := by
  simp only [beginsB, Bool.and_eq_true, Bool.not_eq_true', decide_eq_true_eq] at hb
  obtain ⟨h1, h2, h3⟩ := hb
  have hP : hasP s (p.code n) = true := by
    simp only [hasP, Bool.and_eq_true, decide_eq_true_eq]
    exact ⟨by omega, h3⟩
  have hne : (s.drop (p.code n).length == s) = false := by
    have hl : (s.drop (p.code n).length).length ≠ s.length := by
      have : 0 < (p.code n).length := by
        cases hc : p.code n with
        | nil => rw [hc] at h1; simp at h1
        | cons x l => simp
      simp
      omega
    have : s.drop (p.code n).length ≠ s := fun h => hl (by rw [h])
    simpa using this
  simp only [restOf, cutP, hP, if_true, hne, Bool.not_true, Bool.or_self, Bool.false_eq_true, if_false]
theorem rest_not {L : List AtomR} {s : List UInt8} {p : PrefR} (hb : beginsB s (p.code n) = false) : (restOf n L s p).2 = false := by
  unfold restOf
  cases hP : hasP s (p.code n)
  · simp [cutP, hP]
  · simp only [cutP, hP, if_true, Bool.not_true, Bool.false_or]
    split
    · rfl
    · rename_i hne
      have hle := hasP_le hP
      have hemp : s.drop (p.code n).length = [] := by
        simp only [hasP, Bool.and_eq_true, decide_eq_true_eq] at hP
        simp only [beginsB, hP.2, Bool.and_true, Bool.and_eq_false_iff, Bool.not_eq_false', decide_eq_false_iff_not] at hb
        rcases hb with h | h
        · have : p.code n = [] := by simpa using h
          rw [this] at hne
          simp at hne
        · exact List.drop_eq_nil_of_le (by omega)
      simp [hemp, atomIdx]
theorem begins_le {s p : List UInt8} (hb : beginsB s p = true) : p.length ≤ s.length := by
  simp only [beginsB, Bool.and_eq_true, decide_eq_true_eq] at hb
  omega
theorem refFind_loop (H : Has 74 E) (ok : B.Ok) (hn : n < 5) (s : List UInt8) {h : AHeap} {x y z : AV} (hb : h.bl 0 = some (.cells [B.A, B.P])) (h1 : h.bl 1 = some (.cells [x, y, z])) (hro : h.ro = 0) :
    ∀ (m i : Nat), i + m = B.Q.length → ∀ F, mask k74_0 F = s74_0 (.int .i64 ((n : Int) + 1)) (.str s) (.ref 0 0) (.ref 1 0) (.int .i64 i) →
    EvCode E (.loop k74_0 l74_0) F h = some (if (firstP n B.L s (B.Q.drop i) i).2.2 then (.ret, r74 (.ref 1 0), h.setBlk 1 (.cells [.int .i64 (firstP n B.L s (B.Q.drop i) i).1, .int .i64 (firstP n B.L s (B.Q.drop i) i).2.1, .bool true])) else (.exit 0, x74_0 (.ref 1 0), h))
  | 0, i, hi, F, hF => by
    have hi' : i = B.Q.length := by omega
    subst hi'
    rw [EvCode_loop, hF]
    simp only [Tb.A, Tb.P] at hb
    simp [l74_0, s74_0, x74_0, firstP, hb]
  | m + 1, i, hi, F, hF => by
    have hlt : i < B.Q.length := by omega
    have hpl := ok.plen
    have ih := refFind_loop H ok hn s hb h1 hro m (i + 1) (by omega)
    have hbg := begins_eq (H.to 87) s (B.Q[i].code n)
    have hat := refAtom_eq (H.to 86) ok hn (s.drop (B.Q[i].code n).length)
    rw [EvCode_loop, hF, List.drop_eq_getElem_cons hlt]
    generalize EvCode E (.loop k74_0 l74_0) = lp at ih ⊢
    simp only [Tb.V, Tb.A, Tb.P] at hb hat
    have hw : IntKind.i64.wrap (n : Int) = n := w64
    have hn5 : (n : Int) < 5 := by omega
    simp only [firstP]
    cases hbs : beginsB s (B.Q[i].code n)
    · have hr := rest_not (L := B.L) hbs
      simp [l74_0, s74_0, hlt, hb, fm_len PrefR.len, lt_at hlt, le_off hlt, lt_off hlt, hw, hn5, (by omega : n < 6), (by omega : n + 1 ≤ 6), pref_at hn hlt, EvCall_closed H.c87 rfl, hbg, hbs, hr, w64 (n := (i : Int) + 1)]
      rw [ih _ (by simp [s74_0])]
    · have hle := begins_le hbs
      have hr := rest_begins (L := B.L) hbs
      rcases atomIdx_range (n := n) B.L (s.drop (B.Q[i].code n).length) with ha | ⟨a, hal, ha⟩
      · rw [ha] at hat
        simp [l74_0, s74_0, hlt, hb, fm_len PrefR.len, lt_at hlt, le_off hlt, lt_off hlt, hw, hn5, (by omega : n < 6), (by omega : n + 1 ≤ 6), pref_at hn hlt, EvCall_closed H.c87 rfl, EvCall_closed H.c86 rfl, hbg, hbs, hle, hat, hr, ha, w64 (n := (i : Int) + 1)]
        rw [ih _ (by simp [s74_0])]
      · rw [ha] at hat
        have hne : ((a : Int) != -1) = true := by simp
        cases hm : B.L[a].metric
        · simp [l74_0, s74_0, hlt, hb, fm_len PrefR.len, fm_len (acs_len B.ot), lt_at hlt, le_off hlt, lt_off hlt, hw, hn5, (by omega : n < 6), (by omega : n + 1 ≤ 6), pref_at hn hlt, EvCall_closed H.c87 rfl, EvCall_closed H.c86 rfl, hbg, hbs, hle, hat, hr, ha, hal, lt_at hal, le_off hal, lt_off hal, metric_at B.ot hal, hm, w64 (n := (i : Int) + 1)]
          rw [ih _ (by simp [s74_0])]
        · simp [l74_0, s74_0, hlt, hb, h1, hro, fm_len PrefR.len, fm_len (acs_len B.ot), lt_at hlt, le_off hlt, lt_off hlt, hw, hn5, (by omega : n < 6), (by omega : n + 1 ≤ 6), pref_at hn hlt, EvCall_closed H.c87 rfl, EvCall_closed H.c86 rfl, hbg, hbs, hle, hat, hr, ha, hal, lt_at hal, le_off hal, lt_off hal, metric_at B.ot hal, hm, hne, r74]
theorem refFind_eq (H : Has 74 E) (ok : B.Ok) (hn : n < 5) (s : List UInt8) : EvClosed E (.fn (.func 74) [] []) [B.V, .int .i64 ((n : Int) + 1), .str s] =
    some (.agg [.int .i64 (findB n B.L B.Q s).1, .int .i64 (findB n B.L B.Q s).2.1, .bool (findB n B.L B.Q s).2.2]) := by
  rw [EvClosed_eq H.c74 rfl (vs := [B.V, .int .i64 ((n : Int) + 1), .str s]) (by simp [Tb.V, Tb.A_shut ok, Tb.P_shut ok]), EvFn_eq]
  have hat := refAtom_eq (H.to 86) ok hn s
  simp only [Tb.V] at hat
  rcases atomIdx_range (n := n) B.L s with ha | ⟨a, hal, ha⟩
  · rw [ha] at hat
    have hl := fun h x y z hb h1 hro => refFind_loop (E := E) H ok hn s (h := h) (x := x) (y := y) (z := z) hb h1 hro B.Q.length 0 (by omega)
    have hne : (atomIdx n B.L s != -1) = false := by rw [ha]; rfl
    simp [f74, start, Tb.V, EvCall_closed H.c86 rfl, hat]
    rw [hl _ (.int .i64 0) (.int .i64 0) (.bool false) (by simp) (by simp) (by simp) _ (by simp [s74_0])]
    simp only [findB, hne, Bool.false_eq_true, if_false, List.drop_zero]
    cases hf : (firstP n B.L s B.Q 0).2.2
    · have : firstP n B.L s B.Q 0 = (-1, -1, false) := by
        have key : ∀ (Q : List PrefR) (i : Nat), (firstP n B.L s Q i).2.2 = false → firstP n B.L s Q i = (-1, -1, false) := by
          intro Q
          induction Q with
          | nil => intro i _; rfl
          | cons p Q ih =>
            intro i h
            simp only [firstP] at h ⊢
            split at h
            · simp at h
            · rename_i hp; rw [if_neg hp]; exact ih _ h
        exact key _ _ hf
      simp [this, x74_0]
    · simp [r74]
  · rw [ha] at hat
    have hne : (atomIdx n B.L s != -1) = true := by rw [ha]; simp
    simp [f74, start, Tb.V, EvCall_closed H.c86 rfl, hat, findB, hne, ha]

theorem findB_none : ∀ (L : List AtomR) (s : List UInt8) (Q : List PrefR) (i : Nat), (firstP n L s Q i).2.2 = false → firstP n L s Q i = (-1, -1, false)
  | L, s, [], i, _ => rfl
  | L, s, p :: Q, i, h => by
    simp only [firstP] at h ⊢
    split at h
    · simp at h
    · rename_i hp; rw [if_neg hp]; exact findB_none L s Q _ h
theorem refFind217_eq (H : Has 217 E) (ok : B.Ok) (h51 : EvClosed E (.fn (.func 51) [] []) [] = some B.V) (x : Int) (s : List UInt8) :
    EvClosed E (.fn (.func 217) [] []) [.int .i64 x, .str s] = some (.agg [.int .i64 (if 1 ≤ x ∧ x ≤ 5 then (findB (x - 1).toNat B.L B.Q s).1 else -1), .int .i64 (if 1 ≤ x ∧ x ≤ 5 then (findB (x - 1).toNat B.L B.Q s).2.1 else -1), .bool (decide (1 ≤ x ∧ x ≤ 5) && (findB (x - 1).toNat B.L B.Q s).2.2)]) := by
  rw [EvClosed_eq H.c217 rfl (vs := [.int .i64 x, .str s]) (by simp), EvFn_eq]
  by_cases hx : 1 ≤ x ∧ x ≤ 5
  · obtain ⟨n, hn, rfl⟩ : ∃ n : Nat, n < 5 ∧ x = (n : Int) + 1 := ⟨(x - 1).toNat, by omega, by omega⟩
    have hf := refFind_eq (E := E) (H.to 74) ok hn s
    have h2 : ¬ ((n : Int) + 1 < 1) := by omega
    have h3 : ¬ (5 < (n : Int) + 1) := by omega
    have h5 : (n : Int) + 1 - 1 = n := by omega
    simp [f217, start, EvCall_closed H.c51 rfl, EvCall_closed H.c74 rfl, h51, hf, hx, h2, h3, h5]
  · by_cases h1 : x < 1
    · simp [f217, start, h1, hx]
    · have h2 : 5 < x := by omega
      simp [f217, start, h1, h2, hx]

end Go.Pv
