/- Part 25 of the proof: what functions of the program come to. Conditions: none; definitions and theorems that the statement's proof uses. -/
import Derived.Test.YtleaeoncofgkjaaDoorPart24
import Derived.KernelRfl
/- What the statement LegalTells comes to. Conditions: the functions' codes; theorems. -/
namespace Go.Pv
variable {E : Env} {n : Nat}

theorem tells_loop (l : List (List UInt8)) (hl : l.length < 5000) {t0 t1 t2 : AV} {h : AHeap} : ∀ (m i : Nat), i + m = l.length → ∀ F, mask k9_0 F = s9_0 t0 t1 t2 (textsV l) (textsV l) (.int .i64 i) →
    EvCode E (.loop k9_0 l9_0) F h = some (.exit 0, x9_0 t0 t1 t2 (textsV l), h)
  | 0, i, hi, F, hF => by
    have hi' : i = l.length := by omega
    subst hi'
    rw [EvCode_loop, hF]
    unfold textsV
    split
    · rename_i he
      have : l = [] := by simpa using he
      subst this
      simp [l9_0, s9_0, x9_0]
    · simp [l9_0, s9_0, x9_0]
  | m + 1, i, hi, F, hF => by
    have hlt : i < l.length := by omega
    have he : l.isEmpty = false := by
      cases l with
      | nil => simp at hlt
      | cons a l => rfl
    have ih := tells_loop l hl (t0 := t0) (t1 := t1) (t2 := t2) (h := h) m (i + 1) (by omega)
    rw [EvCode_loop, hF]
    simp only [textsV, he, Bool.false_eq_true, if_false] at ih ⊢
    generalize EvCode E (.loop k9_0 l9_0) = lp at ih ⊢
    simp [l9_0, s9_0, hlt, map_at hlt, (by omega : 1 ≤ l.length - i), w64 (n := (i : Int) + 1)]
    exact ih _ (by simp [s9_0])
/-- What a round of tells has of the functions that it calls. -/
structure TellsIn (E : Env) (x : Int) (s : List UInt8) (r : Int) (row : AV) (k : Int) (b : Bool) (t : List UInt8) (is_ : Bool) : Prop where
  h11 : EvClosed E (.fn (.func 11) [] []) [.int .i64 x] = some row
  h21 : EvClosed E (.fn (.func 21) [] []) [.int .i64 x] = some row
  h12 : EvClosed E (.fn (.func 12) [] []) [.int .i64 x, .str s] = some (.tuple [.int .i64 (if b then k else 0), .bool b])
  h22 : EvClosed E (.fn (.func 22) [] []) [row, .str s] = some (.int .i64 k)
  h14 : EvClosed E (.fn (.func 14) [] []) [.int .i64 x, .int .i64 r] = some (.tuple [.str t, .bool is_])
  hk : decide (0 ≤ k) = b
set_option maxHeartbeats 1000000 in
theorem tells_nil (H : Has 9 E) {x : Int} {s : List UInt8} {r k : Int} {b : Bool} (T : TellsIn E x s r .nils k b [] false) : EvClosed E (.fn (.func 9) [] []) [.int .i64 x, .str s, .int .i64 r] = some (.bool true) := by
  rw [EvClosed_eq H.c9 rfl (vs := [.int .i64 x, .str s, .int .i64 r]) (by simp), EvFn_eq]
  obtain ⟨h11, h21, h12, h22, h14, hk⟩ := T
  have hl := fun h => tells_loop (E := E) [] (by simp) (t0 := .int .i64 x) (t1 := .str s) (t2 := .int .i64 r) (h := h) 0 0 rfl
  simp only [textsV, List.isEmpty_nil, if_true] at hl
  have hx : (decide (0 ≤ r) && decide (r < (0 : Int))) = false := by
    cases h : decide (0 ≤ r)
    · rfl
    · have : ¬ r < 0 := by simp at h; omega
      simp [this]
  simp [f9, start, EvCall_closed H.c11 rfl, EvCall_closed H.c21 rfl, h11, h21]
  rw [hl _ _ (by simp [s9_0])]
  cases hc : decide (0 ≤ r)
  · cases b <;> simp [x9_0, EvCall_closed H.c12 rfl, EvCall_closed H.c14 rfl, EvCall_closed H.c22 rfl, h12, h14, h22, hk, hc]
  · have hc' : ¬ r < 0 := by simp at hc; omega
    cases b <;> simp [x9_0, EvCall_closed H.c12 rfl, EvCall_closed H.c14 rfl, EvCall_closed H.c22 rfl, h12, h14, h22, hk, hc, hc']
set_option maxHeartbeats 1000000 in
theorem tells_in (H : Has 9 E) {x : Int} {s : List UInt8} {k : Int} {b : Bool} {l : List (List UInt8)} (hlen : l.length < 5000) {i : Nat} (hi : i < l.length) (T : TellsIn E x s i (.vs .shared l.length (l.map .str)) k b l[i] true) : EvClosed E (.fn (.func 9) [] []) [.int .i64 x, .str s, .int .i64 i] = some (.bool true) := by
  rw [EvClosed_eq H.c9 rfl (vs := [.int .i64 x, .str s, .int .i64 i]) (by simp), EvFn_eq]
  obtain ⟨h11, h21, h12, h22, h14, hk⟩ := T
  have hl := fun h => tells_loop (E := E) l hlen (t0 := .int .i64 x) (t1 := .str s) (t2 := .int .i64 i) (h := h) l.length 0 (by omega)
  have hie : l.isEmpty = false := by
    cases l with
    | nil => simp at hi
    | cons a l => rfl
  simp only [textsV, hie, Bool.false_eq_true, if_false] at hl
  simp [f9, start, EvCall_closed H.c11 rfl, EvCall_closed H.c21 rfl, h11, h21]
  rw [hl _ _ (by simp [s9_0])]
  cases b <;> simp [x9_0, EvCall_closed H.c12 rfl, EvCall_closed H.c14 rfl, EvCall_closed H.c22 rfl, h12, h14, h22, hk, hi, map_at hi, (by omega : 1 ≤ l.length - i)]
set_option maxHeartbeats 1000000 in
theorem tells_out (H : Has 9 E) {x : Int} {s : List UInt8} {r k : Int} {b : Bool} {l : List (List UInt8)} (hlen : l.length < 5000) (hne : l.isEmpty = false) (hr : r < 0 ∨ (l.length : Int) ≤ r) (T : TellsIn E x s r (.vs .shared l.length (l.map .str)) k b [] false) : EvClosed E (.fn (.func 9) [] []) [.int .i64 x, .str s, .int .i64 r] = some (.bool true) := by
  rw [EvClosed_eq H.c9 rfl (vs := [.int .i64 x, .str s, .int .i64 r]) (by simp), EvFn_eq]
  obtain ⟨h11, h21, h12, h22, h14, hk⟩ := T
  have hl := fun h => tells_loop (E := E) l hlen (t0 := .int .i64 x) (t1 := .str s) (t2 := .int .i64 r) (h := h) l.length 0 (by omega)
  simp only [textsV, hne, Bool.false_eq_true, if_false] at hl
  simp [f9, start, EvCall_closed H.c11 rfl, EvCall_closed H.c21 rfl, h11, h21]
  rw [hl _ _ (by simp [s9_0])]
  rcases hr with hr | hr
  · have hc : decide (0 ≤ r) = false := decide_eq_false (by omega)
    cases b <;> simp [x9_0, EvCall_closed H.c12 rfl, EvCall_closed H.c14 rfl, EvCall_closed H.c22 rfl, h12, h14, h22, hk, hc]
  · have hc : decide (0 ≤ r) = true := decide_eq_true (by omega)
    have hd : decide (r < (l.length : Int)) = false := decide_eq_false (by omega)
    cases b <;> simp [x9_0, EvCall_closed H.c12 rfl, EvCall_closed H.c14 rfl, EvCall_closed H.c22 rfl, h12, h14, h22, hk, hc, hd]
theorem tells_eq (H : Has 9 E) (x : Int) (s : List UInt8) (r : Int) : EvClosed E (.fn (.func 9) [] []) [.int .i64 x, .str s, .int .i64 r] = some (.bool true) := by
  have h11 := legalRow_eq (H.to 11) x
  have h12 := legalRank_eq (H.to 12) x s
  have h14 := legalAt_eq (H.to 14) x r
  have h21 := legalRefRow_eq (H.to 21) x
  have hlen := symsT_len x
  have h22 := refRank_eq (H.to 22) (symsT x) hlen s
  have hrr := rankOf_range (symsT x) s
  generalize symsT x = l at *
  have hr : ∃ (k : Int) (b : Bool), rankOf l s = k ∧ (if k = -1 then 0 else k) = (if b then k else 0) ∧ (k != -1) = b ∧ decide (0 ≤ k) = b := by
    rcases hrr with h | ⟨i, _, h⟩
    · exact ⟨-1, false, h, by simp, by simp, by simp⟩
    · exact ⟨i, true, h, by rw [if_neg (by omega)]; simp, by simp, by simp⟩
  obtain ⟨k, b, hk, hk1, hk2, hk3⟩ := hr
  rw [hk, hk2, hk1] at h12
  rw [hk] at h22
  cases hie : l.isEmpty
  · simp only [textsV, hie, Bool.false_eq_true, if_false] at h11 h21 h22
    by_cases hc : 0 ≤ r ∧ r < l.length
    · obtain ⟨i, rfl⟩ : ∃ i : Nat, r = i := ⟨r.toNat, by omega⟩
      have hi : i < l.length := by omega
      have ha : atOf l i = (l[i], true) := by
        rw [atOf, if_pos hc]
        simp [hi]
      rw [ha] at h14
      exact tells_in H hlen hi ⟨h11, h21, h12, h22, h14, hk3⟩
    · have ha : atOf l r = ([], false) := if_neg hc
      rw [ha] at h14
      exact tells_out H hlen hie (by omega) ⟨h11, h21, h12, h22, h14, hk3⟩
  · have : l = [] := by simpa using hie
    subst this
    have ha : atOf [] r = ([], false) := if_neg (by simp only [List.length_nil]; omega)
    rw [ha] at h14
    simp only [textsV, List.isEmpty_nil, if_true] at h11 h21 h22
    exact tells_nil H ⟨h11, h21, h12, h22, h14, hk3⟩
theorem legalTells_eq (H : Has 3 E) (x : Int) (s : List UInt8) (r : Int) : EvClosed E (.fn (.func 3) [] []) [.int .i64 x, .str s, .int .i64 r] = some (.bool true) := by
  rw [EvClosed_eq H.c3 rfl (vs := [.int .i64 x, .str s, .int .i64 r]) (by simp), EvFn_eq]
  have h8 := awake_eq (H.to 8)
  have h9 := fun x s r => tells_eq (H.to 9) x s r
  have h10 := rest10_eq (H.to 10) (x := x) (m := 8) (by omega) (by omega)
  have h11 := rest10_eq (H.to 10) (x := r) (m := 900) (by omega) (by omega)
  have hw : IntKind.i64.wrap (x % 8 - 1) = x % 8 - 1 := w64
  by_cases hc : s.length ≤ 16
  · have : decide ((16 : Int) < s.length) = false := decide_eq_false (by omega)
    simp [f3, start, EvCall_closed H.c8 rfl, EvCall_closed H.c9 rfl, EvCall_closed H.c10 rfl, h8, h9, h10, h11, hw, hc, this]
  · have : decide ((16 : Int) < s.length) = true := decide_eq_true (by omega)
    have h16 : (16 : Int) ≤ s.length := by omega
    simp [f3, start, EvCall_closed H.c8 rfl, EvCall_closed H.c9 rfl, EvCall_closed H.c10 rfl, h8, h9, h10, h11, hw, hc, this, h16]
end Go.Pv
/- A text is a symbol just if it is told. Conditions: none; theorems. -/
namespace Go.Pv
variable {n : Nat} {L : List AtomR} {Q : List PrefR}

theorem atomIdx_at {s : List UInt8} {a : Nat} (h : atomIdx n L s = a) : ∃ ha : a < L.length, L[a].code n = s ∧ s.isEmpty = false := by
  unfold atomIdx at h
  split at h
  · omega
  · rename_i hs
    have hs' : s.isEmpty = false := by simpa using hs
    unfold idxV at h
    split at h
    · rename_i hany
      have ha : L.findIdx (fun a => a.code n == s) = a := by omega
      have hl : L.findIdx (fun a => a.code n == s) < L.length := List.findIdx_lt_length.2 (by simpa using hany)
      refine ⟨by omega, ?_, hs'⟩
      have := List.findIdx_getElem (w := hl)
      subst ha
      simpa using this
    · omega
theorem hasP_app {s p : List UInt8} (h : hasP s p = true) : s = p ++ s.drop p.length := by
  simp only [hasP, Bool.and_eq_true, decide_eq_true_eq] at h
  have := eq_of_beq h.2
  conv => lhs; rw [← List.take_append_drop p.length s]
  rw [this]
theorem firstP_at {s : List UInt8} : ∀ (ps : List PrefR) (i : Nat), (firstP n L s ps i).2.2 = true → ∃ (j : Nat) (hj : j < ps.length), firstP n L s ps i = (((i + j : Nat) : Int), (restOf n L s ps[j]).1, true) ∧ (restOf n L s ps[j]).2 = true
  | [], i, h => by simp [firstP] at h
  | p :: ps, i, h => by
    simp only [firstP] at h ⊢
    split
    · rename_i hr
      exact ⟨0, by simp, by simp, by simpa using hr⟩
    · rename_i hr
      rw [if_neg hr] at h
      obtain ⟨j, hj, h1, h2⟩ := firstP_at ps (i + 1) h
      refine ⟨j + 1, by simpa using hj, ?_, by simpa using h2⟩
      rw [h1]
      simp
      omega
/-- What find tells is a symbol that is told. -/
theorem find_told {s : List UInt8} (h : (findB n L Q s).2.2 = true) : ∃ (a : Nat) (p : Int), a < L.length ∧ -1 ≤ p ∧ p < Q.length ∧ symText n L Q p a = s ∧ toldB n L Q s p a = true := by
  unfold findB at h
  split at h
  · rename_i hne
    have hne' : ¬ atomIdx n L s = -1 := by simpa using hne
    rcases atomIdx_range (n := n) L s with hr | ⟨a, ha, hr⟩
    · exact absurd hr hne'
    · obtain ⟨ha2, h1, h2⟩ := atomIdx_at hr
      refine ⟨a, -1, ha, by omega, by omega, ?_, ?_⟩
      · simp [symText, textA, ha, h1]
      · have hf : findB n L Q s = (-1, (a : Int), true) := by rw [findB, if_pos hne, hr]
        simp [toldB, hf, h2]
  · rename_i hne
    obtain ⟨j, hj, h1, h2⟩ := firstP_at Q 0 h
    have hf : findB n L Q s = ((j : Int), (restOf n L s Q[j]).1, true) := by rw [findB, if_neg hne, h1]; simp
    unfold restOf at h2 hf
    simp only at h2 hf
    split at h2
    · cases h2
    · rename_i hc
      rw [if_neg hc] at hf
      simp only [Bool.or_eq_true, Bool.not_eq_true', not_or, Bool.not_eq_false] at hc
      have hP : hasP s (Q[j].code n) = true := by
        cases hq : hasP s (Q[j].code n)
        · simp [cutP, hq] at hc
        · rfl
      have hcut : cutP s (Q[j].code n) = (s.drop (Q[j].code n).length, true) := by simp [cutP, hP]
      rw [hcut] at hc h2 hf
      simp only [Bool.and_eq_true, bne_iff_ne, ne_eq] at h2
      rcases atomIdx_range (n := n) L (s.drop (Q[j].code n).length) with hr | ⟨a, ha, hr⟩
      · exact absurd hr h2.1
      · obtain ⟨ha2, e1, e2⟩ := atomIdx_at hr
        rw [hr] at h2 hf
        have hmet : L[a].metric = true := by simpa [ha] using h2.2
        have hs := hasP_app hP
        have hpne : (Q[j].code n).isEmpty = false := by
          cases hq : Q[j].code n with
          | nil => rw [hq] at hc; simp at hc
          | cons b l => rfl
        have hsne : s.isEmpty = false := by
          rw [hs]
          cases hq : Q[j].code n with
          | nil => rw [hq] at hpne; cases hpne
          | cons b l => rfl
        refine ⟨a, j, ha, by omega, by omega, ?_, ?_⟩
        · have hne1 : ¬ ((j : Int) = -1) := by omega
          simp only [symText, hne1, if_false, textP, Int.toNat_natCast, List.getElem?_eq_getElem ha, List.getElem?_eq_getElem hj, e1, e2, hpne, hmet]
          simpa using hs.symm
        · simp [toldB, hf, hsne]
theorem in_allFrom {a : Nat} {p : Int} (ha : a < L.length) (hp : -1 ≤ p) (hq : p < Q.length) (ht : toldB n L Q (symText n L Q p a) p a = true) : (a, p) ∈ allFrom n L Q 0 := by
  simp only [allFrom, List.mem_flatMap, List.mem_range'_1]
  refine ⟨(p + 1).toNat, by omega, ?_⟩
  have e : (((p + 1).toNat : Nat) : Int) - 1 = p := by omega
  rw [e]
  simp only [toldL, List.mem_map, List.mem_filter]
  refine ⟨(L[a], a), ⟨?_, ht⟩, rfl⟩
  rw [List.mem_zipIdx_iff_getElem?]
  simp [ha]
theorem row_find {x : Int} (hx : 1 ≤ x ∧ x ≤ 5) (s : List UInt8) : s ∈ symsT x ↔ (findB (x - 1).toNat atomsT prefsT s).2.2 = true := by
  show s ∈ (rowL progB x).map (symTxt (x - 1).toNat atomsT prefsT) ↔ _
  have hr : rowL progB x = allFrom (x - 1).toNat atomsT prefsT 0 := by simp only [rowL, if_pos hx]; rfl
  rw [hr, List.mem_map]
  constructor
  · rintro ⟨y, hy, rfl⟩
    have := (mem_allFrom hy).1
    simp only [toldB, Bool.and_eq_true] at this
    exact this.2.1
  · intro h
    obtain ⟨a, p, h1, h2, h3, h4, h5⟩ := find_told h
    refine ⟨(a, p), in_allFrom h1 h2 h3 (by rw [h4]; exact h5), h4⟩
theorem rank_ok (l : List (List UInt8)) (s : List UInt8) : (rankOf l s != -1) = decide (s ∈ l) := by
  by_cases h : s ∈ l
  · obtain ⟨i, hi, h1, _⟩ := rank_in h
    rw [h1]
    simp [h]
  · rw [rankOf_none h]
    simp [h]
theorem rank_at {l : List (List UInt8)} (hl : l.Nodup) {i : Nat} (hi : i < l.length) : rankOf l l[i] = i := by
  obtain ⟨j, hj, h1, h2⟩ := rank_in (List.getElem_mem hi)
  rw [h1]
  have key : ∀ i j (hi : i < l.length) (hj : j < l.length), i < j → l[i] ≠ l[j] := fun i j hi hj hij => List.pairwise_iff_getElem.1 hl i j hi hj hij
  rcases Nat.lt_trichotomy i j with q | q | q
  · exact absurd h2.symm (key i j hi hj q)
  · omega
  · exact absurd h2 (key j i hj hi q)
end Go.Pv
/- How many symbols there are. Conditions: none; theorems. -/
namespace Go.Pv
theorem len0 : (allFrom 0 atomsT prefsT 0).length = 828 := by kernel_rfl
theorem len1 : (allFrom 1 atomsT prefsT 0).length = 828 := by kernel_rfl
theorem len2 : (allFrom 2 atomsT prefsT 0).length = 826 := by kernel_rfl
theorem len3 : (allFrom 3 atomsT prefsT 0).length = 632 := by kernel_rfl
theorem len4 : (allFrom 4 atomsT prefsT 0).length = 784 := by kernel_rfl
theorem syms_len {x : Int} (hx : 1 ≤ x ∧ x ≤ 5) : 300 ≤ (symsT x).length := by
  have h : x = 1 ∨ x = 2 ∨ x = 3 ∨ x = 4 ∨ x = 5 := by omega
  have e : (symsT x).length = (allFrom (x - 1).toNat atomsT prefsT 0).length := by
    show ((rowL progB x).map (symTxt (x - 1).toNat atomsT prefsT)).length = _
    rw [List.length_map]
    simp only [rowL, if_pos hx]
    rfl
  have hn : (x - 1).toNat = 0 ∨ (x - 1).toNat = 1 ∨ (x - 1).toNat = 2 ∨ (x - 1).toNat = 3 ∨ (x - 1).toNat = 4 := by omega
  rw [e]
  have h0 := len0
  have h1 := len1
  have h2 := len2
  have h3 := len3
  have h4 := len4
  rcases hn with hn | hn | hn | hn | hn <;> rw [hn] <;> omega
end Go.Pv
