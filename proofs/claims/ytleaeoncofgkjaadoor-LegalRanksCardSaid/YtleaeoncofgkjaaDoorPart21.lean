/- Part 21 of the proof: what functions of the program come to. Conditions: none; definitions and theorems that the statement's proof uses. -/
import Derived.Test.YtleaeoncofgkjaaDoorPart19
import Derived.Test.YtleaeoncofgkjaaDoorPart20
/- What the statement LegalTells comes to. Conditions: the functions' codes; theorems. -/
namespace Go.Pv
variable {E : Env} {n : Nat}

theorem short_of (B : Tb) (h : (B.L.all fun a => decide (a.c1.length ≤ 1000) && decide (a.c2.length ≤ 1000) && decide (a.c3.length ≤ 1000) && decide (a.c4.length ≤ 1000) && decide (a.c5.length ≤ 1000)) = true)
    (k : (B.Q.all fun a => decide (a.c1.length ≤ 1000) && decide (a.c2.length ≤ 1000) && decide (a.c3.length ≤ 1000) && decide (a.c4.length ≤ 1000) && decide (a.c5.length ≤ 1000)) = true) : B.Short := by
  refine ⟨fun a ha n => ?_, fun a ha n => ?_⟩
  · have := List.all_eq_true.1 h a ha
    simp only [Bool.and_eq_true, decide_eq_true_eq] at this
    unfold AtomR.code
    split <;> omega
  · have := List.all_eq_true.1 k a ha
    simp only [Bool.and_eq_true, decide_eq_true_eq] at this
    unfold PrefR.code
    split <;> omega
theorem progB_short : progB.Short := short_of _ (by decide) (by decide)
theorem refB_short : refB.Short := short_of _ (by decide) (by decide)
theorem rowT_len (B : Tb) (hB : (B.Q.length + 1) * B.L.length < 5000) (x : Int) : (rowT B x).length < 5000 := by
  unfold rowT rowL
  rw [List.length_map]
  split
  · have := allFrom_len (n := (x - 1).toNat) B.L B.Q (B.Q.length + 1) 0 (by omega)
    omega
  · simp
theorem all_len (B : Tb) (hB : (B.Q.length + 1) * B.L.length < 5000) (n : Nat) : (allFrom n B.L B.Q 0).length < 5000 := by
  have := allFrom_len (n := n) B.L B.Q (B.Q.length + 1) 0 (by omega)
  omega
theorem prog_small : (progB.Q.length + 1) * progB.L.length < 5000 := by decide
theorem ref_small : (refB.Q.length + 1) * refB.L.length < 5000 := by decide
/-- A notation's symbols. -/
def symsT (x : Int) : List (List UInt8) := rowT progB x
theorem ref_rowT (x : Int) : rowT refB x = symsT x := rfl
theorem symsT_len (x : Int) : (symsT x).length < 5000 := rowT_len _ prog_small x
theorem legalRow_eq (H : Has 11 E) (x : Int) : EvClosed E (.fn (.func 11) [] []) [.int .i64 x] = some (textsV (symsT x)) := row_eq H progB_ok progB_short (table_eq (H.to 38)) (all_len _ prog_small) x
theorem legalRank_eq (H : Has 12 E) (x : Int) (s : List UInt8) : EvClosed E (.fn (.func 12) [] []) [.int .i64 x, .str s] = some (.tuple [.int .i64 (if rankOf (symsT x) s = -1 then 0 else rankOf (symsT x) s), .bool (rankOf (symsT x) s != -1)]) :=
  rank_eq H progB_ok progB_short (table_eq (H.to 38)) (rowT_nodup _) x s
theorem legalAt_eq (H : Has 14 E) (x r : Int) : EvClosed E (.fn (.func 14) [] []) [.int .i64 x, .int .i64 r] = some (.tuple [.str (atOf (symsT x) r).1, .bool (atOf (symsT x) r).2]) := at_eq H (legalRow_eq (H.to 11) x)
theorem legalRefRow_eq (H : Has 21 E) (x : Int) : EvClosed E (.fn (.func 21) [] []) [.int .i64 x] = some (textsV (symsT x)) := (refRow_eq H refB_ok refB_short (refTable_eq (H.to 51)) (all_len _ ref_small) x).trans (by rw [ref_rowT])

theorem rankOf_range (l : List (List UInt8)) (s : List UInt8) : rankOf l s = -1 ∨ ∃ i : Nat, i < l.length ∧ rankOf l s = i := idxV_range _ _

/-! ### The chapter's example -/
theorem rank_m : rankOf (symsT 1) [109] = 0 := by
  have h : ∃ r, symsT 1 = [109] :: r := by
    have h1 : toldB 0 atomsT prefsT (symText 0 atomsT prefsT (-1) 0) (-1) 0 = true := by decide +kernel
    have h2 : symText 0 atomsT prefsT (-1) 0 = [109] := by decide +kernel
    refine ⟨(toldL 0 atomsT prefsT (-1) (atomsT.tail.zipIdx 1) ++ allFrom 0 atomsT prefsT 1).map (symTxt 0 atomsT prefsT), ?_⟩
    show (rowL progB 1).map (symTxt 0 atomsT prefsT) = _
    have h3 : rowL progB 1 = allFrom 0 atomsT prefsT 0 := rfl
    rw [h3, allFrom_step (by decide)]
    have h4 : atomsT.zipIdx 0 = (atomsT[0]'(by decide), 0) :: atomsT.tail.zipIdx 1 := rfl
    rw [h4, toldL_cons]
    show List.map _ ((if toldB 0 atomsT prefsT (symText 0 atomsT prefsT (-1) 0) (-1) 0 = true then _ else _) ++ _) = _
    rw [h1, if_pos rfl, List.cons_append, List.map_cons]
    congr 1
  obtain ⟨r, hr⟩ := h
  rw [hr]
  simp [rankOf, idxV_cons]
theorem mm_in : ([109, 109] : List UInt8) ∈ symsT 1 := by
  have h1 : toldB 0 atomsT prefsT (symText 0 atomsT prefsT 12 0) 12 0 = true := by decide +kernel
  have h2 : symText 0 atomsT prefsT 12 0 = [109, 109] := by decide +kernel
  show _ ∈ (rowL progB 1).map (symTxt 0 atomsT prefsT)
  rw [List.mem_map]
  refine ⟨(0, 12), ?_, h2⟩
  show _ ∈ allFrom 0 atomsT prefsT 0
  simp only [allFrom, List.mem_flatMap, List.mem_range'_1]
  refine ⟨13, ⟨by omega, by decide⟩, ?_⟩
  simp only [toldL, List.mem_map, List.mem_filter]
  refine ⟨(atomsT[0]'(by decide), 0), ⟨?_, h1⟩, rfl⟩
  have h4 : atomsT.zipIdx 0 = (atomsT[0]'(by decide), 0) :: atomsT.tail.zipIdx 1 := rfl
  rw [h4]
  exact List.mem_cons_self
theorem rank_in {l : List (List UInt8)} {s : List UInt8} (h : s ∈ l) : ∃ i : Nat, ∃ hi : i < l.length, rankOf l s = i ∧ l[i] = s := by
  have ha : l.any (· == s) = true := by simpa using h
  refine ⟨l.findIdx (· == s), List.findIdx_lt_length.2 (by simpa using h), by simp [rankOf, idxV, ha], ?_⟩
  have := List.findIdx_getElem (w := List.findIdx_lt_length.2 (by simpa using h : ∃ x ∈ l, (x == s) = true))
  simpa using this
theorem rank_mm : 0 < rankOf (symsT 1) [109, 109] := by
  obtain ⟨i, hi, h1, h2⟩ := rank_in mm_in
  obtain ⟨j, hj, h3, h4⟩ : ∃ i : Nat, ∃ hi : i < (symsT 1).length, rankOf (symsT 1) [109] = i ∧ (symsT 1)[i] = [109] := by
    rcases rankOf_range (symsT 1) [109] with h | ⟨i, hi, h⟩
    · rw [rank_m] at h; cases h
    · apply rank_in
      by_cases hm : ([109] : List UInt8) ∈ symsT 1
      · exact hm
      · have := rankOf_none hm
        rw [rank_m] at this
        cases this
  rw [h1]
  rw [rank_m] at h3
  have hj0 : j = 0 := by omega
  subst hj0
  cases i with
  | zero => rw [h4] at h2; cases h2
  | succ i => omega
theorem syms_none {x : Int} (h : ¬ (1 ≤ x ∧ x ≤ 5)) : symsT x = [] := by simp [symsT, rowT, rowL, h]
theorem awake_eq (H : Has 8 E) : EvClosed E (.fn (.func 8) [] []) [] = some (.bool true) := by
  rw [EvClosed_eq H.c8 rfl (vs := []) (by simp), EvFn_eq]
  have h1 := legalRank_eq (H.to 12) 1 [109]
  have h2 := legalRank_eq (H.to 12) 1 [109, 109]
  have h3 := legalRow_eq (H.to 11) 9
  have hmm := rank_mm
  have hne : ¬ rankOf (symsT 1) [109, 109] = -1 := by omega
  rw [rank_m] at h1
  rw [syms_none (by omega)] at h3
  simp only [if_neg hne] at h2
  have hd : (rankOf (symsT 1) [109, 109] != -1) = true := by simpa using hne
  rw [hd] at h2
  simp [f8, start, EvCall_closed H.c12 rfl, EvCall_closed H.c11 rfl, h1, h2, h3, textsV, hmm]
end Go.Pv
