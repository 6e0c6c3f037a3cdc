/- Part 23 of the proof: what functions of the program come to. Conditions: none; definitions and theorems that the statement's proof uses. -/
import Derived.Test.YtleaeoncofgkjaaDoorPart21
import Derived.Test.YtleaeoncofgkjaaDoorPart22
/- A text is a symbol just if it is told. Conditions: none; theorems. -/
namespace Go.Pv
variable {n : Nat} {L : List AtomR} {Q : List PrefR}

theorem atomIdx_at {s : List UInt8} {a : Nat} (h : atomIdx n L s = a) : ∃ ha : a < L.length, L[a].code n = s ∧ s.isEmpty = false := by
  unfold atomIdx at h
  split at h
  · omega
  · rename_i hs
    have hs' : s.isEmpty = false := by simpa using hs
    unfold idxV at h
    split at h
    · rename_i hany
      have ha : L.findIdx (fun a => a.code n == s) = a := by omega
      have hl : L.findIdx (fun a => a.code n == s) < L.length := List.findIdx_lt_length.2 (by simpa using hany)
      refine ⟨by omega, ?_, hs'⟩
      have := List.findIdx_getElem (w := hl)
      subst ha
      simpa using this
    · omega
theorem hasP_app {s p : List UInt8} (h : hasP s p = true) : s = p ++ s.drop p.length := by
  simp only [hasP, Bool.and_eq_true, decide_eq_true_eq] at h
  have := eq_of_beq h.2
  conv => lhs; rw [← List.take_append_drop p.length s]
  rw [this]
theorem firstP_at {s : List UInt8} : ∀ (ps : List PrefR) (i : Nat), (firstP n L s ps i).2.2 = true → ∃ (j : Nat) (hj : j < ps.length), firstP n L s ps i = (((i + j : Nat) : Int), (restOf n L s ps[j]).1, true) ∧ (restOf n L s ps[j]).2 = true
  | [], i, h => by simp [firstP] at h
  | p :: ps, i, h => by
    simp only [firstP] at h ⊢
    split
    · rename_i hr
      exact ⟨0, by simp, by simp, by simpa using hr⟩
    · rename_i hr
      rw [if_neg hr] at h
      obtain ⟨j, hj, h1, h2⟩ := firstP_at ps (i + 1) h
      refine ⟨j + 1, by simpa using hj, ?_, by simpa using h2⟩
      rw [h1]
      simp
      omega
/-- What find tells is a symbol that is told. -/
theorem find_told {s : List UInt8} (h : (findB n L Q s).2.2 = true) : ∃ (a : Nat) (p : Int), a < L.length ∧ -1 ≤ p ∧ p < Q.length ∧ symText n L Q p a = s ∧ toldB n L Q s p a = true := by
  unfold findB at h
  split at h
  · rename_i hne
    have hne' : ¬ atomIdx n L s = -1 := by simpa using hne
    rcases atomIdx_range (n := n) L s with hr | ⟨a, ha, hr⟩
    · exact absurd hr hne'
    · obtain ⟨ha2, h1, h2⟩ := atomIdx_at hr
      refine ⟨a, -1, ha, by omega, by omega, ?_, ?_⟩
      · simp [symText, textA, ha, h1]
      · have hf : findB n L Q s = (-1, (a : Int), true) := by rw [findB, if_pos hne, hr]
        simp [toldB, hf, h2]
  · rename_i hne
    obtain ⟨j, hj, h1, h2⟩ := firstP_at Q 0 h
    have hf : findB n L Q s = ((j : Int), (restOf n L s Q[j]).1, true) := by rw [findB, if_neg hne, h1]; simp
    unfold restOf at h2 hf
    simp only at h2 hf
    split at h2
    · cases h2
    · rename_i hc
      rw [if_neg hc] at hf
      simp only [Bool.or_eq_true, Bool.not_eq_true', not_or, Bool.not_eq_false] at hc
      have hP : hasP s (Q[j].code n) = true := by
        cases hq : hasP s (Q[j].code n)
        · simp [cutP, hq] at hc
        · rfl
      have hcut : cutP s (Q[j].code n) = (s.drop (Q[j].code n).length, true) := by simp [cutP, hP]
      rw [hcut] at hc h2 hf
      simp only [Bool.and_eq_true, bne_iff_ne, ne_eq] at h2
      rcases atomIdx_range (n := n) L (s.drop (Q[j].code n).length) with hr | ⟨a, ha, hr⟩
      · exact absurd hr h2.1
      · obtain ⟨ha2, e1, e2⟩ := atomIdx_at hr
        rw [hr] at h2 hf
        have hmet : L[a].metric = true := by simpa [ha] using h2.2
        have hs := hasP_app hP
        have hpne : (Q[j].code n).isEmpty = false := by
          cases hq : Q[j].code n with
          | nil => rw [hq] at hc; simp at hc
          | cons b l => rfl
        have hsne : s.isEmpty = false := by
          rw [hs]
          cases hq : Q[j].code n with
          | nil => rw [hq] at hpne; cases hpne
          | cons b l => rfl
        refine ⟨a, j, ha, by omega, by omega, ?_, ?_⟩
        · have hne1 : ¬ ((j : Int) = -1) := by omega
          simp only [symText, hne1, if_false, textP, Int.toNat_natCast, List.getElem?_eq_getElem ha, List.getElem?_eq_getElem hj, e1, e2, hpne, hmet]
          simpa using hs.symm
        · simp [toldB, hf, hsne]
theorem in_allFrom {a : Nat} {p : Int} (ha : a < L.length) (hp : -1 ≤ p) (hq : p < Q.length) (ht : toldB n L Q (symText n L Q p a) p a = true) : (a, p) ∈ allFrom n L Q 0 := by
  simp only [allFrom, List.mem_flatMap, List.mem_range'_1]
  refine ⟨(p + 1).toNat, by omega, ?_⟩
  have e : (((p + 1).toNat : Nat) : Int) - 1 = p := by omega
  rw [e]
  simp only [toldL, List.mem_map, List.mem_filter]
  refine ⟨(L[a], a), ⟨?_, ht⟩, rfl⟩
  rw [List.mem_zipIdx_iff_getElem?]
  simp [ha]
theorem row_find {x : Int} (hx : 1 ≤ x ∧ x ≤ 5) (s : List UInt8) : s ∈ symsT x ↔ (findB (x - 1).toNat atomsT prefsT s).2.2 = true := by
  show s ∈ (rowL progB x).map (symTxt (x - 1).toNat atomsT prefsT) ↔ _
  have hr : rowL progB x = allFrom (x - 1).toNat atomsT prefsT 0 := by simp only [rowL, if_pos hx]; rfl
  rw [hr, List.mem_map]
  constructor
  · rintro ⟨y, hy, rfl⟩
    have := (mem_allFrom hy).1
    simp only [toldB, Bool.and_eq_true] at this
    exact this.2.1
  · intro h
    obtain ⟨a, p, h1, h2, h3, h4, h5⟩ := find_told h
    refine ⟨(a, p), in_allFrom h1 h2 h3 (by rw [h4]; exact h5), h4⟩
theorem rank_ok (l : List (List UInt8)) (s : List UInt8) : (rankOf l s != -1) = decide (s ∈ l) := by
  by_cases h : s ∈ l
  · obtain ⟨i, hi, h1, _⟩ := rank_in h
    rw [h1]
    simp [h]
  · rw [rankOf_none h]
    simp [h]
theorem rank_at {l : List (List UInt8)} (hl : l.Nodup) {i : Nat} (hi : i < l.length) : rankOf l l[i] = i := by
  obtain ⟨j, hj, h1, h2⟩ := rank_in (List.getElem_mem hi)
  rw [h1]
  have key : ∀ i j (hi : i < l.length) (hj : j < l.length), i < j → l[i] ≠ l[j] := fun i j hi hj hij => List.pairwise_iff_getElem.1 hl i j hi hj hij
  rcases Nat.lt_trichotomy i j with q | q | q
  · exact absurd h2.symm (key i j hi hj q)
  · omega
  · exact absurd h2 (key j i hj hi q)
end Go.Pv
