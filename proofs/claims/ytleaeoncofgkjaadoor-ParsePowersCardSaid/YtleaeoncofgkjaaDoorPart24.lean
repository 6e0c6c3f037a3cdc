/- Part 24 of the proof: what functions of the program come to. Conditions: none; definitions and theorems that the statement's proof uses. -/
import Derived.Test.YtleaeoncofgkjaaDoorPart23
import Derived.Test.YtleaeoncofgkjaaDoorPart14
/- Symbols are told once each; how many; a rank in the reference; a rest. Conditions: the functions' codes; theorems. -/
namespace Go.Pv
variable {E : Env} {B : Tb} {n : Nat}

/-! ### No symbol is told twice -/
theorem mem_toldL {L : List AtomR} {Q : List PrefR} {p : Int} {l : List (AtomR × Nat)} {y : Nat × Int} (h : y ∈ toldL n L Q p l) : y.2 = p ∧ toldB n L Q (symTxt n L Q y) y.2 y.1 = true ∧ ∃ x ∈ l, x.2 = y.1 := by
  simp only [toldL, List.mem_map, List.mem_filter] at h
  obtain ⟨x, ⟨h1, h2⟩, rfl⟩ := h
  exact ⟨rfl, h2, x, h1, rfl⟩
theorem told_inj {L : List AtomR} {Q : List PrefR} {x y : Nat × Int} (hx : toldB n L Q (symTxt n L Q x) x.2 x.1 = true) (hy : toldB n L Q (symTxt n L Q y) y.2 y.1 = true) (he : symTxt n L Q x = symTxt n L Q y) : x = y := by
  rw [he] at hx
  simp only [toldB, Bool.and_eq_true, beq_iff_eq] at hx hy
  have h1 : (x.1 : Int) = y.1 := hx.2.2.2.symm.trans hy.2.2.2
  have h2 : x.2 = y.2 := hx.2.2.1.symm.trans hy.2.2.1
  exact Prod.ext (by omega) h2
theorem zipIdx_nodup {α : Type} : ∀ (l : List α) (i : Nat), ((l.zipIdx i).map (·.2)).Nodup := by
  intro l i
  rw [List.zipIdx_map_snd]
  exact List.nodup_range'
theorem toldL_nodup (L : List AtomR) (Q : List PrefR) (p : Int) {l : List (AtomR × Nat)} (h : (l.map (·.2)).Nodup) : (toldL n L Q p l).Nodup := by
  induction l with
  | nil => simp [toldL]
  | cons x l ih =>
    rw [List.map_cons, List.nodup_cons] at h
    rw [toldL_cons]
    split
    · rw [List.nodup_cons]
      refine ⟨fun hm => ?_, ih h.2⟩
      obtain ⟨_, _, y, hy, he⟩ := mem_toldL hm
      exact h.1 (List.mem_map.2 ⟨y, hy, he⟩)
    · exact ih h.2
theorem mem_allFrom {L : List AtomR} {Q : List PrefR} {i : Nat} {y : Nat × Int} (h : y ∈ allFrom n L Q i) : toldB n L Q (symTxt n L Q y) y.2 y.1 = true ∧ (i : Int) - 1 ≤ y.2 ∧ y.1 < L.length ∧ y.2 < Q.length := by
  simp only [allFrom, List.mem_flatMap, List.mem_range'_1] at h
  obtain ⟨k, hk, h⟩ := h
  obtain ⟨h1, h2, x, hx, he⟩ := mem_toldL h
  have := List.snd_lt_of_mem_zipIdx hx
  exact ⟨h2, by omega, by omega, by omega⟩
theorem allFrom_nodup (L : List AtomR) (Q : List PrefR) : ∀ (m i : Nat), i + m = Q.length + 1 → (allFrom n L Q i).Nodup
  | 0, i, hi => by
    have : i = Q.length + 1 := by omega
    subst this
    rw [allFrom_end]
    simp
  | m + 1, i, hi => by
    rw [allFrom_step (by omega), List.nodup_append]
    refine ⟨toldL_nodup L Q _ (zipIdx_nodup _ _), allFrom_nodup L Q m (i + 1) (by omega), fun a ha b hb hab => ?_⟩
    subst hab
    have h1 := (mem_toldL ha).1
    have h2 := (mem_allFrom hb).2.1
    omega
theorem rowT_nodup (B : Tb) (x : Int) : (rowT B x).Nodup := by
  unfold rowT rowL
  split
  · have h := allFrom_nodup (n := (x - 1).toNat) B.L B.Q (B.Q.length + 1) 0 (by omega)
    have hm : ∀ y ∈ allFrom (x - 1).toNat B.L B.Q 0, toldB (x - 1).toNat B.L B.Q (symTxt (x - 1).toNat B.L B.Q y) y.2 y.1 = true := fun y hy => (mem_allFrom hy).1
    generalize allFrom (x - 1).toNat B.L B.Q 0 = l at h hm
    induction l with
    | nil => simp
    | cons y l ih =>
      rw [List.nodup_cons] at h
      rw [List.map_cons, List.nodup_cons]
      refine ⟨fun hh => ?_, ih h.2 fun z hz => hm z (List.mem_cons_of_mem _ hz)⟩
      obtain ⟨z, hz, he⟩ := List.mem_map.1 hh
      have := told_inj (hm z (List.mem_cons_of_mem _ hz)) (hm y List.mem_cons_self) he
      subst this
      exact h.1 hz
  · simp
theorem allFrom_len (L : List AtomR) (Q : List PrefR) : ∀ (m i : Nat), i + m = Q.length + 1 → (allFrom n L Q i).length ≤ m * L.length
  | 0, i, hi => by
    have : i = Q.length + 1 := by omega
    subst this
    rw [allFrom_end]
    simp
  | m + 1, i, hi => by
    rw [allFrom_step (by omega), List.length_append, Nat.add_mul]
    have h1 := toldL_len (n := n) L Q ((i : Int) - 1) (L.zipIdx 0)
    have h2 := allFrom_len L Q m (i + 1) (by omega)
    simp at h1
    omega

/-! ### A rank in the reference; a rest -/
theorem refRank_loop (s : List UInt8) (l : List (List UInt8)) (hl : l.length < 5000) {h : AHeap} : ∀ (m i : Nat), i + m = l.length → ∀ F, mask k22_0 F = s22_0 (textsV l) (.str s) (.int .i64 i) →
    EvCode E (.loop k22_0 l22_0) F h = some (if rankOf (l.drop i) s = -1 then (.exit 0, x22_0, h) else (.ret, r22 (.int .i64 (i + rankOf (l.drop i) s)), h))
  | 0, i, hi, F, hF => by
    have hi' : i = l.length := by omega
    subst hi'
    rw [EvCode_loop, hF]
    unfold textsV
    split
    · rename_i he
      have : l = [] := by simpa using he
      subst this
      simp [l22_0, s22_0, x22_0, rankOf, idxV]
    · simp [l22_0, s22_0, x22_0, rankOf, idxV]
  | m + 1, i, hi, F, hF => by
    have hlt : i < l.length := by omega
    have he : l.isEmpty = false := by
      cases l with
      | nil => simp at hlt
      | cons a l => rfl
    have ih := refRank_loop s l hl (h := h) m (i + 1) (by omega)
    have hr : rankOf (l.drop i) s = if l[i] == s then 0 else if rankOf (l.drop (i + 1)) s = -1 then -1 else rankOf (l.drop (i + 1)) s + 1 := by
      rw [List.drop_eq_getElem_cons hlt]
      exact idxV_cons _ _ _
    rw [EvCode_loop, hF, hr]
    simp only [textsV, he, Bool.false_eq_true, if_false] at ih ⊢
    generalize EvCode E (.loop k22_0 l22_0) = lp at ih ⊢
    cases hp : (l[i] == s)
    · simp [l22_0, s22_0, hlt, map_at hlt, hp, (by omega : 1 ≤ l.length - i), w64 (n := (i : Int) + 1)]
      rw [ih _ (by simp [s22_0])]
      have : rankOf (l.drop (i + 1)) s = -1 ∨ ∃ k : Nat, k < (l.drop (i + 1)).length ∧ rankOf (l.drop (i + 1)) s = k := idxV_range _ _
      rcases this with hq | ⟨k, _, hq⟩
      · simp [hq]
      · rw [hq, if_neg (by omega), if_neg (by omega), if_neg (by omega)]
        simp [r22]
        omega
    · simp [l22_0, s22_0, hlt, map_at hlt, hp, (by omega : 1 ≤ l.length - i), r22]
theorem textsV_shut (l : List (List UInt8)) : shut 0 0 (textsV l) = some (textsV l) := by
  unfold textsV
  have := shutL_map (n := 0) (t := 0) shut_str l
  split <;> simp [this]
theorem refRank_eq (H : Has 22 E) (l : List (List UInt8)) (hl : l.length < 5000) (s : List UInt8) : EvClosed E (.fn (.func 22) [] []) [textsV l, .str s] = some (.int .i64 (rankOf l s)) := by
  rw [EvClosed_eq H.c22 rfl (vs := [textsV l, .str s]) (by simp [textsV_shut]), EvFn_eq]
  simp [f22, start]
  rw [refRank_loop s l hl l.length 0 (by omega) _ (by simp [s22_0])]
  by_cases hq : rankOf l s = -1 <;> simp [hq, x22_0, r22]
theorem rest10_eq (H : Has 10 E) {x m : Int} (hm : 0 < m) (hm2 : m < 1000000) : EvClosed E (.fn (.func 10) [] []) [.int .i64 x, .int .i64 m] = some (.int .i64 (x % m)) := by
  rw [EvClosed_eq H.c10 rfl (vs := [.int .i64 x, .int .i64 m]) (by simp), EvFn_eq]
  have h0 : m ≠ 0 := by omega
  have hb : -m < x.tmod m ∧ x.tmod m < m := ⟨Int.lt_tmod_of_pos x hm, Int.tmod_lt_of_pos x hm⟩
  have hw : IntKind.i64.wrap (x.tmod m + m) = x.tmod m + m := w64
  have he : (x.tmod m + m).tmod m = x % m := by
    have h1 : (x.tmod m + m).tmod m = (x.tmod m + m) % m := Int.tmod_eq_emod_of_nonneg (by omega)
    rw [h1, Int.add_emod_right]
    have h3 : x.tmod m = x - m * x.tdiv m := by have := Int.mul_tdiv_add_tmod x m; omega
    rw [h3, Int.sub_mul_emod_self_left]
  simp [f10, start, h0, hw, he]
end Go.Pv
/- What the statement LegalTells comes to. Conditions: the functions' codes; theorems. -/
namespace Go.Pv
variable {E : Env} {n : Nat}

theorem short_of (B : Tb) (h : (B.L.all fun a => decide (a.c1.length ≤ 1000) && decide (a.c2.length ≤ 1000) && decide (a.c3.length ≤ 1000) && decide (a.c4.length ≤ 1000) && decide (a.c5.length ≤ 1000)) = true)
    (k : (B.Q.all fun a => decide (a.c1.length ≤ 1000) && decide (a.c2.length ≤ 1000) && decide (a.c3.length ≤ 1000) && decide (a.c4.length ≤ 1000) && decide (a.c5.length ≤ 1000)) = true) : B.Short := by
  refine ⟨fun a ha n => ?_, fun a ha n => ?_⟩
  · have := List.all_eq_true.1 h a ha
    simp only [Bool.and_eq_true, decide_eq_true_eq] at this
    unfold AtomR.code
    split <;> omega
  · have := List.all_eq_true.1 k a ha
    simp only [Bool.and_eq_true, decide_eq_true_eq] at this
    unfold PrefR.code
    split <;> omega
theorem progB_short : progB.Short := short_of _ (by decide) (by decide)
theorem refB_short : refB.Short := short_of _ (by decide) (by decide)
theorem rowT_len (B : Tb) (hB : (B.Q.length + 1) * B.L.length < 5000) (x : Int) : (rowT B x).length < 5000 := by
  unfold rowT rowL
  rw [List.length_map]
  split
  · have := allFrom_len (n := (x - 1).toNat) B.L B.Q (B.Q.length + 1) 0 (by omega)
    omega
  · simp
theorem all_len (B : Tb) (hB : (B.Q.length + 1) * B.L.length < 5000) (n : Nat) : (allFrom n B.L B.Q 0).length < 5000 := by
  have := allFrom_len (n := n) B.L B.Q (B.Q.length + 1) 0 (by omega)
  omega
theorem prog_small : (progB.Q.length + 1) * progB.L.length < 5000 := by decide
theorem ref_small : (refB.Q.length + 1) * refB.L.length < 5000 := by decide
/-- A notation's symbols. -/
def symsT (x : Int) : List (List UInt8) := rowT progB x
theorem ref_rowT (x : Int) : rowT refB x = symsT x := rfl
theorem symsT_len (x : Int) : (symsT x).length < 5000 := rowT_len _ prog_small x
theorem legalRow_eq (H : Has 11 E) (x : Int) : EvClosed E (.fn (.func 11) [] []) [.int .i64 x] = some (textsV (symsT x)) := row_eq H progB_ok progB_short (table_eq (H.to 38)) (all_len _ prog_small) x
theorem legalRank_eq (H : Has 12 E) (x : Int) (s : List UInt8) : EvClosed E (.fn (.func 12) [] []) [.int .i64 x, .str s] = some (.tuple [.int .i64 (if rankOf (symsT x) s = -1 then 0 else rankOf (symsT x) s), .bool (rankOf (symsT x) s != -1)]) :=
  rank_eq H progB_ok progB_short (table_eq (H.to 38)) (rowT_nodup _) x s
theorem legalAt_eq (H : Has 14 E) (x r : Int) : EvClosed E (.fn (.func 14) [] []) [.int .i64 x, .int .i64 r] = some (.tuple [.str (atOf (symsT x) r).1, .bool (atOf (symsT x) r).2]) := at_eq H (legalRow_eq (H.to 11) x)
theorem legalRefRow_eq (H : Has 21 E) (x : Int) : EvClosed E (.fn (.func 21) [] []) [.int .i64 x] = some (textsV (symsT x)) := (refRow_eq H refB_ok refB_short (refTable_eq (H.to 51)) (all_len _ ref_small) x).trans (by rw [ref_rowT])

theorem rankOf_range (l : List (List UInt8)) (s : List UInt8) : rankOf l s = -1 ∨ ∃ i : Nat, i < l.length ∧ rankOf l s = i := idxV_range _ _

/-! ### The chapter's example -/
theorem rank_m : rankOf (symsT 1) [109] = 0 := by
  have h : ∃ r, symsT 1 = [109] :: r := by
    have h1 : toldB 0 atomsT prefsT (symText 0 atomsT prefsT (-1) 0) (-1) 0 = true := by decide +kernel
    have h2 : symText 0 atomsT prefsT (-1) 0 = [109] := by decide +kernel
    refine ⟨(toldL 0 atomsT prefsT (-1) (atomsT.tail.zipIdx 1) ++ allFrom 0 atomsT prefsT 1).map (symTxt 0 atomsT prefsT), ?_⟩
    show (rowL progB 1).map (symTxt 0 atomsT prefsT) = _
    have h3 : rowL progB 1 = allFrom 0 atomsT prefsT 0 := rfl
    rw [h3, allFrom_step (by decide)]
    have h4 : atomsT.zipIdx 0 = (atomsT[0]'(by decide), 0) :: atomsT.tail.zipIdx 1 := rfl
    rw [h4, toldL_cons]
    show List.map _ ((if toldB 0 atomsT prefsT (symText 0 atomsT prefsT (-1) 0) (-1) 0 = true then _ else _) ++ _) = _
    rw [h1, if_pos rfl, List.cons_append, List.map_cons]
    congr 1
  obtain ⟨r, hr⟩ := h
  rw [hr]
  simp [rankOf, idxV_cons]
theorem mm_in : ([109, 109] : List UInt8) ∈ symsT 1 := by
  have h1 : toldB 0 atomsT prefsT (symText 0 atomsT prefsT 12 0) 12 0 = true := by decide +kernel
  have h2 : symText 0 atomsT prefsT 12 0 = [109, 109] := by decide +kernel
  show _ ∈ (rowL progB 1).map (symTxt 0 atomsT prefsT)
  rw [List.mem_map]
  refine ⟨(0, 12), ?_, h2⟩
  show _ ∈ allFrom 0 atomsT prefsT 0
  simp only [allFrom, List.mem_flatMap, List.mem_range'_1]
  refine ⟨13, ⟨by omega, by decide⟩, ?_⟩
  simp only [toldL, List.mem_map, List.mem_filter]
  refine ⟨(atomsT[0]'(by decide), 0), ⟨?_, h1⟩, rfl⟩
  have h4 : atomsT.zipIdx 0 = (atomsT[0]'(by decide), 0) :: atomsT.tail.zipIdx 1 := rfl
  rw [h4]
  exact List.mem_cons_self
theorem rank_in {l : List (List UInt8)} {s : List UInt8} (h : s ∈ l) : ∃ i : Nat, ∃ hi : i < l.length, rankOf l s = i ∧ l[i] = s := by
  have ha : l.any (· == s) = true := by simpa using h
  refine ⟨l.findIdx (· == s), List.findIdx_lt_length.2 (by simpa using h), by simp [rankOf, idxV, ha], ?_⟩
  have := List.findIdx_getElem (w := List.findIdx_lt_length.2 (by simpa using h : ∃ x ∈ l, (x == s) = true))
  simpa using this
theorem rank_mm : 0 < rankOf (symsT 1) [109, 109] := by
  obtain ⟨i, hi, h1, h2⟩ := rank_in mm_in
  obtain ⟨j, hj, h3, h4⟩ : ∃ i : Nat, ∃ hi : i < (symsT 1).length, rankOf (symsT 1) [109] = i ∧ (symsT 1)[i] = [109] := by
    rcases rankOf_range (symsT 1) [109] with h | ⟨i, hi, h⟩
    · rw [rank_m] at h; cases h
    · apply rank_in
      by_cases hm : ([109] : List UInt8) ∈ symsT 1
      · exact hm
      · have := rankOf_none hm
        rw [rank_m] at this
        cases this
  rw [h1]
  rw [rank_m] at h3
  have hj0 : j = 0 := by omega
  subst hj0
  cases i with
  | zero => rw [h4] at h2; cases h2
  | succ i => omega
theorem syms_none {x : Int} (h : ¬ (1 ≤ x ∧ x ≤ 5)) : symsT x = [] := by simp [symsT, rowT, rowL, h]
theorem awake_eq (H : Has 8 E) : EvClosed E (.fn (.func 8) [] []) [] = some (.bool true) := by
  rw [EvClosed_eq H.c8 rfl (vs := []) (by simp), EvFn_eq]
  have h1 := legalRank_eq (H.to 12) 1 [109]
  have h2 := legalRank_eq (H.to 12) 1 [109, 109]
  have h3 := legalRow_eq (H.to 11) 9
  have hmm := rank_mm
  have hne : ¬ rankOf (symsT 1) [109, 109] = -1 := by omega
  rw [rank_m] at h1
  rw [syms_none (by omega)] at h3
  simp only [if_neg hne] at h2
  have hd : (rankOf (symsT 1) [109, 109] != -1) = true := by simpa using hne
  rw [hd] at h2
  simp [f8, start, EvCall_closed H.c12 rfl, EvCall_closed H.c11 rfl, h1, h2, h3, textsV, hmm]
end Go.Pv
