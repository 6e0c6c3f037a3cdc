/- A part of the proof: functions of the program in the evaluator's code, and what they come to. Conditions: none; definitions and theorems that the statement's proof uses. -/
import Derived.Test.YtleaeoncofgkjaaGreatDoorSet12
import Derived.Test.YtleaeoncofgkjaaGreatDoorSet13
import Derived.Test.YtleaeoncofgkjaaGreatDoorSet11
import Derived.Test.YtleaeoncofgkjaaGreatDoorSet2
import Derived.ChangeSame
/- Trees that are made of numbers. Conditions: the functions' codes; theorems. -/
namespace Go.Pv
variable {E : Env} {h : AHeap} {p : Nat}
theorem step_store {h g : AHeap} {b : Nat} (hb : h.blks.length ≤ b) (K : Stay p h g) (y : ABlk) : Stay p h (g.setBlk b y) := K.setNew hb
theorem RW.set {L l : List Int} (S : RW h p L l) {b : Nat} (hb : b ≠ p) (y : ABlk) : RW (h.setBlk b y) p L l := by
  obtain ⟨⟨i, v, h1, h2, h3, h4⟩, h5, h6, h7⟩ := S
  exact ⟨⟨i, v, h1, h2, h3, by rw [bl_set, if_neg hb]; exact h4⟩, h5, h6, h7⟩
theorem metricT_at {a : Nat} (ha : a < atomsT.length) : metricT a = atomsT[a].metric := by
  simp [metricT, ha]
set_option maxHeartbeats 4000000 in
theorem symM_ok (H : Has 191 E) {L l : List Int} (S : RW h p L l) : ∃ h' q a n, EvCall E (.fn (.func 191) [] []) [.ref p 0] h = some (.ret (.agg (StepA.cs ⟨2, q, a, n, 0, []⟩)), h') ∧ symI l = (.sym q a n, (symI l).2) ∧ RW h' p L (symI l).2 ∧ Stay p h h' := by
  have ht := refTable_eq (H.to 51)
  have hA : atomsT.length < 1000000 := by decide
  have hA0 : 0 < atomsT.length := by decide
  have hP : prefsT.length < 1000000 := by decide
  have hP0 : 0 < prefsT.length := by decide
  simp only [Tb.V, Tb.A, Tb.P, refB] at ht
  have hp := S.lt
  have S1 := (S.push (.cells [.int .i64 0, .int .i64 0, .int .i64 0, .int .i64 0, .int .i64 0, .str []])).push (.cells [.vs .shared atomsT.length (atomsT.flatMap (acs .full)), .vs .full prefsT.length (prefsT.flatMap PrefR.cells)])
  have K1 := (Stay.push p h (.cells [.int .i64 0, .int .i64 0, .int .i64 0, .int .i64 0, .int .i64 0, .str []])).trans (Stay.push p _ (.cells [.vs .shared atomsT.length (atomsT.flatMap (acs .full)), .vs .full prefsT.length (prefsT.flatMap PrefR.cells)]))
  obtain ⟨g1, e1, S2, K2⟩ := nextR_ok (H.to 190) S1 (n := atomsT.length) (by omega) (by omega)
  have hr := nextI_range (n := atomsT.length) (by omega) l
  obtain ⟨k, hk⟩ : ∃ k : Nat, (nextI atomsT.length l).1 = k := ⟨(nextI atomsT.length l).1.toNat, by omega⟩
  have hkl : k < atomsT.length := by omega
  rw [hk] at e1
  have b1r : g1.bl h.blks.length = some (.cells [.int .i64 0, .int .i64 0, .int .i64 0, .int .i64 0, .int .i64 0, .str []]) := (K2.bl _ (by omega) (by simp; omega)).trans (by simp)
  have b1t : g1.bl (h.blks.length + 1) = some (.cells [.vs .shared atomsT.length (atomsT.flatMap (acs .full)), .vs .full prefsT.length (prefsT.flatMap PrefR.cells)]) := (K2.bl _ (by omega) (by simp)).trans (by simp)
  have lt1 : h.blks.length + 1 < g1.blks.length := blk_lt b1t
  have KK1 := K1.trans K2
  have S3 := S2.push (.cells (StepA.cs ⟨2, -1, k, 1, 0, []⟩))
  have K3 := KK1.trans (Stay.push p g1 (.cells (StepA.cs ⟨2, -1, k, 1, 0, []⟩)))
  have ro := S.ro
  have ro1 := S2.ro
  have nsb : ¬ g1.blks.length = p := by omega
  have nrb : ¬ h.blks.length = p := by omega
  have nsr : ¬ g1.blks.length = h.blks.length := by omega
  have nrs : ¬ h.blks.length = g1.blks.length := by omega
  have nst : ¬ h.blks.length + 1 = g1.blks.length := by omega
  -- the table's part
  have hm0 : ((atomsT.flatMap (acs .full)).drop (k * 12 + 5)).take 1 = [.bool (metricT k)] := by
    rw [metricT_at hkl, fm_at (acs_len .full) hkl (by omega)]
    rfl
  have hlA : (atomsT.flatMap (acs .full)).length = atomsT.length * 12 := fm_len (acs_len .full) _
  have hx1 : k * 12 < atomsT.length * 12 := by omega
  have hx2 : 5 < atomsT.length * 12 - k * 12 := by omega
  have hx3 : 1 ≤ atomsT.length * 12 - (k * 12 + 5) := by omega
  have hx4 : k * 12 + 5 + 1 ≤ atomsT.length * 12 := by omega
  have fin : ∀ (g : AHeap) (q : Int) (l' : List Int), RW g p L l' → Stay p h g → g.bl g1.blks.length = some (.cells (StepA.cs ⟨2, q, k, 1, 0, []⟩)) → g.bl h.blks.length = some (.cells [.int .i64 0, .int .i64 0, .int .i64 0, .int .i64 0, .int .i64 0, .str []]) →
      (∀ (g' : AHeap) (d : Int), EvCall E (.fn (.func 190) [] []) [.ref p 0, .int .i64 3] g = some (.ret (.int .i64 d), g') → (d == 0) = false → g'.bl g1.blks.length = some (.cells (StepA.cs ⟨2, q, k, 1, 0, []⟩)) → g'.bl h.blks.length = some (.cells [.int .i64 0, .int .i64 0, .int .i64 0, .int .i64 0, .int .i64 0, .str []]) → g'.ro = 0 →
        EvCall E (.fn (.func 191) [] []) [.ref p 0] h = some (.ret (.agg (StepA.cs ⟨2, q, k, 1, 0, []⟩)), g'.setBlk h.blks.length (.cells (StepA.cs ⟨2, q, k, 1, 0, []⟩)))) →
      (∀ (g' g'' : AHeap) (v : Int), EvCall E (.fn (.func 190) [] []) [.ref p 0, .int .i64 3] g = some (.ret (.int .i64 0), g') → EvCall E (.fn (.func 190) [] []) [.ref p 0, .int .i64 7] g' = some (.ret (.int .i64 v), g'') → IntKind.i64.wrap (v - 3) = v - 3 → g''.bl g1.blks.length = some (.cells (StepA.cs ⟨2, q, k, 1, 0, []⟩)) → g''.bl h.blks.length = some (.cells [.int .i64 0, .int .i64 0, .int .i64 0, .int .i64 0, .int .i64 0, .str []]) → g''.ro = 0 →
        EvCall E (.fn (.func 191) [] []) [.ref p 0] h = some (.ret (.agg (StepA.cs ⟨2, q, k, v - 3, 0, []⟩)), (g''.setBlk g1.blks.length (.cells (StepA.cs ⟨2, q, k, v - 3, 0, []⟩))).setBlk h.blks.length (.cells (StepA.cs ⟨2, q, k, v - 3, 0, []⟩)))) →
      (symI l = (.sym q k (if (nextI 3 l').1 == 0 then (nextI 7 (nextI 3 l').2).1 - 3 else 1), if (nextI 3 l').1 == 0 then (nextI 7 (nextI 3 l').2).2 else (nextI 3 l').2)) →
      ∃ h' q a n, EvCall E (.fn (.func 191) [] []) [.ref p 0] h = some (.ret (.agg (StepA.cs ⟨2, q, a, n, 0, []⟩)), h') ∧ symI l = (.sym q a n, (symI l).2) ∧ RW h' p L (symI l).2 ∧ Stay p h h' := by
    intro g q l' Sg Kg bs br runA runB hsym
    obtain ⟨g6, e6, S6, K6⟩ := nextR_ok (H.to 190) Sg (n := 3) (by omega) (by omega)
    have b6s := (K6.bl _ nsb (blk_lt bs)).trans bs
    have b6r := (K6.bl _ nrb (blk_lt br)).trans br
    cases hd : (nextI 3 l').1 == 0 with
    | false =>
      rw [hd] at hsym
      simp only [Bool.false_eq_true, if_false] at hsym
      refine ⟨_, q, k, 1, runA g6 _ e6 hd b6s b6r S6.ro, by rw [hsym], ?_, ?_⟩
      · rw [hsym]
        exact S6.set nrb _
      · exact step_store (Nat.le_refl _) (Kg.trans K6) _
    | true =>
      rw [hd] at hsym
      simp only [if_true] at hsym
      have hd0 : (nextI 3 l').1 = 0 := by simpa using hd
      rw [hd0] at e6
      obtain ⟨g7, e7, S7, K7⟩ := nextR_ok (H.to 190) S6 (n := 7) (by omega) (by omega)
      have hr7 := nextI_range (n := 7) (by omega) (nextI 3 l').2
      have b7s := (K7.bl _ nsb (blk_lt b6s)).trans b6s
      have b7r := (K7.bl _ nrb (blk_lt b6r)).trans b6r
      refine ⟨_, q, k, _, runB g6 g7 _ e6 e7 w64 b7s b7r S7.ro, by rw [hsym], ?_, ?_⟩
      · rw [hsym]
        exact (S7.set nsb _).set nrb _
      · exact step_store (Nat.le_refl _) (step_store (by omega) ((Kg.trans K6).trans K7) _) _
  have b3s : (g1.push (.cells (StepA.cs ⟨2, -1, k, 1, 0, []⟩))).bl g1.blks.length = some (.cells (StepA.cs ⟨2, -1, k, 1, 0, []⟩)) := by simp
  have b3r : (g1.push (.cells (StepA.cs ⟨2, -1, k, 1, 0, []⟩))).bl h.blks.length = some (.cells [.int .i64 0, .int .i64 0, .int .i64 0, .int .i64 0, .int .i64 0, .str []]) := by simp [nrs, b1r]
  have b3t : (g1.push (.cells (StepA.cs ⟨2, -1, k, 1, 0, []⟩))).bl (h.blks.length + 1) = _ := (by simp [nst] : _ = g1.bl (h.blks.length + 1)).trans b1t
  cases hm : metricT k with
  | false =>
    rw [hm] at hm0
    refine fin _ (-1) _ S3 K3 b3s b3r ?_ ?_ (by simp only [symI, hk, hm, Bool.false_and, Bool.false_eq_true, if_false]; split <;> rfl)
    · intro g' d e3 hd bs br rog
      rw [EvCall_open H.c191 rfl, EvFn_eq]
      generalize atomsT.flatMap (acs .full) = cA at *
      simp only [StepA.cs] at *
      simp [f191, start, EvCall_closed H.c51 rfl, ht, push_setk, ro, e1, b1t, nst, ro1, hlA, hkl, hx1, hx2, hx3, hm0, e3, hd, bs, br, rog]
    · intro g' g'' v e3 e7 hw bs br rog
      rw [EvCall_open H.c191 rfl, EvFn_eq]
      generalize atomsT.flatMap (acs .full) = cA at *
      simp only [StepA.cs] at *
      simp [f191, start, EvCall_closed H.c51 rfl, ht, push_setk, ro, e1, b1t, nst, nsr, ro1, hlA, hkl, hx1, hx2, hx3, hm0, e3, e7, hw, bs, br, rog]
  | true =>
    rw [hm] at hm0
    obtain ⟨g4, e4, S4, K4⟩ := nextR_ok (H.to 190) S3 (n := 2) (by omega) (by omega)
    have b4s := (K4.bl _ nsb (blk_lt b3s)).trans b3s
    have b4r := (K4.bl _ nrb (blk_lt b3r)).trans b3r
    have b4t := (K4.bl _ (by omega) (blk_lt b3t)).trans b3t
    have KK4 := K3.trans K4
    cases hc : (nextI 2 (nextI atomsT.length l).2).1 == 0 with
    | false =>
      refine fin g4 (-1) _ S4 KK4 b4s b4r ?_ ?_ (by simp only [symI, hk, hm, hc, Bool.and_false, Bool.false_eq_true, if_false, if_true]; split <;> rfl)
      · intro g' d e3 hd bs br rog
        rw [EvCall_open H.c191 rfl, EvFn_eq]
        generalize atomsT.flatMap (acs .full) = cA at *
        simp only [StepA.cs] at *
        simp [f191, start, EvCall_closed H.c51 rfl, ht, push_setk, ro, e1, b1t, nst, ro1, hlA, hkl, hx1, hx2, hx3, hm0, e4, hc, e3, hd, bs, br, rog]
      · intro g' g'' v e3 e7 hw bs br rog
        rw [EvCall_open H.c191 rfl, EvFn_eq]
        generalize atomsT.flatMap (acs .full) = cA at *
        simp only [StepA.cs] at *
        simp [f191, start, EvCall_closed H.c51 rfl, ht, push_setk, ro, e1, b1t, nst, nsr, ro1, hlA, hkl, hx1, hx2, hx3, hm0, e4, hc, e3, e7, hw, bs, br, rog]
    | true =>
      have hc0 : (nextI 2 (nextI atomsT.length l).2).1 = 0 := by simpa using hc
      rw [hc0] at e4
      obtain ⟨g5, e5, S5, K5⟩ := nextR_ok (H.to 190) S4 (n := prefsT.length) (by omega) (by omega)
      have b5s := (K5.bl _ nsb (blk_lt b4s)).trans b4s
      have b5r := (K5.bl _ nrb (blk_lt b4r)).trans b4r
      have KK5 := step_store (by omega) (KK4.trans K5) (.cells (StepA.cs ⟨2, (nextI prefsT.length (nextI 2 (nextI atomsT.length l).2).2).1, k, 1, 0, []⟩)) (b := g1.blks.length)
      have S5' := S5.set nsb (.cells (StepA.cs ⟨2, (nextI prefsT.length (nextI 2 (nextI atomsT.length l).2).2).1, k, 1, 0, []⟩))
      have ro5 := S5.ro
      refine fin _ _ _ S5' KK5 (by rw [bl_set, if_pos rfl, b5s]; rfl) (by rw [bl_set, if_neg nsr]; exact b5r) ?_ ?_ (by simp only [symI, hk, hm, hc, Bool.and_self, if_true]; split <;> rfl)
      · intro g' d e3 hd bs br rog
        rw [EvCall_open H.c191 rfl, EvFn_eq]
        generalize atomsT.flatMap (acs .full) = cA at *
        simp only [StepA.cs] at *
        simp [f191, start, EvCall_closed H.c51 rfl, ht, push_setk, ro, e1, b1t, nst, ro1, hlA, hkl, hx1, hx2, hx3, hm0, e4, b4t, e5, b5s, ro5, e3, hd, bs, br, rog]
      · intro g' g'' v e3 e7 hw bs br rog
        rw [EvCall_open H.c191 rfl, EvFn_eq]
        generalize atomsT.flatMap (acs .full) = cA at *
        simp only [StepA.cs] at *
        simp [f191, start, EvCall_closed H.c51 rfl, ht, push_setk, ro, e1, b1t, nst, nsr, ro1, hlA, hkl, hx1, hx2, hx3, hm0, e4, b4t, e5, b5s, ro5, e3, e7, hw, bs, br, rog]
end Go.Pv
/- The trees that are made of numbers. Conditions: the functions' codes; theorems. -/
namespace Go.Pv
variable {E : Env} {h : AHeap} {p : Nat}
theorem symI_steps (l : List Int) : ∃ q a n, (symI l).1 = .sym q a n := ⟨_, _, _, rfl⟩
theorem madeI_size : ∀ (d : Nat) (l : List Int), (madeI d l).1.steps.length + 1 ≤ 2 ^ (d + 1)
  | 0, l => by
    obtain ⟨q, a, n, hs⟩ := symI_steps (nextI 12 l).2
    simp only [madeI, hs]
    simp [Tr.steps]
  | d + 1, l => by
    have p1 : 2 ^ (d + 1 + 1) = 2 ^ (d + 1) + 2 ^ (d + 1) := by rw [Nat.pow_succ]; omega
    have p2 : 1 ≤ 2 ^ (d + 1) := Nat.one_le_two_pow
    have a1 := madeI_size d (nextI 12 l).2
    have a2 := madeI_size d (madeI d (nextI 12 l).2).2
    obtain ⟨q, a, n, hs⟩ := symI_steps (nextI 12 l).2
    unfold madeI
    split
    · rw [hs]; simp [Tr.steps]; omega
    · split
      · simp [Tr.steps]; omega
      · split
        · simp [Tr.steps]; omega
        · split
          · simp only [Tr.steps, List.length_append, List.length_cons, List.length_nil]; omega
          · split
            · simp only [Tr.steps, List.length_append, List.length_cons, List.length_nil]; omega
            · simp only [Tr.steps, List.length_append, List.length_cons, List.length_nil]; omega
set_option maxHeartbeats 4000000 in
theorem madeM_ok (H : Has 175 E) {L : List Int} : ∀ (d : Nat), d ≤ 4 → ∀ (h : AHeap) (l : List Int), RW h p L l → ∃ h' v, EvCall E (.fn (.func 175) [] []) [.ref p 0, .int .i64 d] h = some (.ret v, h') ∧
    GrowF h.toks.length h' 6 ((madeI d l).1.steps.flatMap StepA.cs) (madeI d l).1.steps.length v ∧ RW h' p L (madeI d l).2 ∧ Stay p h h' := by
  intro d
  have leaf : ∀ (d : Nat) (h : AHeap) (l : List Int), RW h p L l → (d = 0 ∨ (nextI 12 l).1 < 4) → ∃ h' v, EvCall E (.fn (.func 175) [] []) [.ref p 0, .int .i64 d] h = some (.ret v, h') ∧
      GrowF h.toks.length h' 6 ((symI (nextI 12 l).2).1.steps.flatMap StepA.cs) (symI (nextI 12 l).2).1.steps.length v ∧ RW h' p L (symI (nextI 12 l).2).2 ∧ Stay p h h' := by
    intro d h l S hd
    obtain ⟨g1, e1, S1, K1⟩ := nextR_ok (H.to 190) S (n := 12) (by omega) (by omega)
    obtain ⟨g2, q, a, n, e2, hs, S2, K2⟩ := symM_ok (H.to 191) S1
    have hs1 : (symI (nextI 12 l).2).1 = .sym q a n := by rw [hs]
    rw [hs1]
    refine ⟨g2, .vs .full 1 (StepA.cs ⟨2, q, a, n, 0, []⟩), ?_, growF_one _ _ _, S2, K1.trans K2⟩
    rw [EvCall_open H.c175 rfl, EvFn_eq]
    simp only [StepA.cs] at e2 ⊢
    generalize (nextI 12 l).1 = k at *
    by_cases hd0 : d = 0
    · subst hd0
      simp [f175, start, e1, e2]
    · have hk : decide (k < 4) = true := decide_eq_true (by omega)
      have hd1 : ((d : Int) == 0) = false := by simp; omega
      simp [f175, start, e1, e2, hd1, hk]
  induction d with
  | zero =>
    intro _ h l S
    exact leaf 0 h l S (.inl rfl)
  | succ d ih =>
    intro hd4 h l S
    have ih := ih (by omega)
    have hsz := madeI_size d (nextI 12 l).2
    have hsz2 := madeI_size d (madeI d (nextI 12 l).2).2
    have hpw : 2 ^ (d + 1) ≤ 16 := by
      have : d = 0 ∨ d = 1 ∨ d = 2 ∨ d = 3 := by omega
      rcases this with rfl | rfl | rfl | rfl <;> decide
    obtain ⟨g1, e1, S1, K1⟩ := nextR_ok (H.to 190) S (n := 12) (by omega) (by omega)
    have hr := nextI_range (n := 12) (by omega) l
    have hd1 : ((d : Int) + 1 == 0) = false := by simp; omega
    have hd2 : ¬ ((d : Int) + 1 = 0) := by omega
    have cd : ((d + 1 : Nat) : Int) = (d : Int) + 1 := by omega
    have w : IntKind.i64.wrap ((d : Int) + 1 - 1) = (d : Int) := by rw [Int.add_sub_cancel]; exact w64
    have w' : IntKind.i64.wrap (d : Int) = (d : Int) := w64
    unfold madeI
    by_cases h4 : (nextI 12 l).1 < 4
    · rw [if_pos h4]
      exact leaf (d + 1) h l S (.inr h4)
    · rw [if_neg h4]
      have k4 : decide ((nextI 12 l).1 < 4) = false := decide_eq_false h4
      cases q4 : (nextI 12 l).1 == 4 with
      | true =>
        obtain ⟨g2, e2, S2, K2⟩ := nextR_ok (H.to 190) S1 (n := 1200) (by omega) (by omega)
        have hr2 := nextI_range (n := 1200) (by omega) (nextI 12 l).2
        have wn : IntKind.i64.wrap (1 + (nextI 1200 (nextI 12 l).2).1) = 1 + (nextI 1200 (nextI 12 l).2).1 := w64
        simp only [if_true]
        refine ⟨g2, .vs .full 1 (StepA.cs ⟨1, -1, 0, 0, 1 + (nextI 1200 (nextI 12 l).2).1, []⟩), ?_, growF_one _ _ _, S2, K1.trans K2⟩
        rw [EvCall_open H.c175 rfl, EvFn_eq]
        generalize (nextI 12 l).1 = k at *
        simp [f175, start, e1, hd1, cd, k4, q4, e2, wn, StepA.cs]
      | false =>
        simp only [Bool.false_eq_true, if_false]
        cases q5 : (nextI 12 l).1 == 5 with
        | true =>
          obtain ⟨g2, e2, S2, K2⟩ := textR_ok (H.to 192) S1
          simp only [if_true]
          refine ⟨g2, .vs .full 1 (StepA.cs ⟨7, -1, 0, 0, 0, (textI (nextI 12 l).2).1⟩), ?_, growF_one _ _ _, S2, K1.trans K2⟩
          rw [EvCall_open H.c175 rfl, EvFn_eq]
          generalize (nextI 12 l).1 = k at *
          simp [f175, start, e1, hd1, cd, k4, q4, q5, e2, StepA.cs]
        | false =>
          simp only [Bool.false_eq_true, if_false]
          obtain ⟨g2, v2, e2, G2, S2, K2⟩ := ih g1 (nextI 12 l).2 S1
          have KK := K1.trans K2
          have G2' := G2.low (k1 := h.toks.length) K1.tlen
          have hpos := Tr.steps_pos (madeI d (nextI 12 l).2).1
          cases q6 : (nextI 12 l).1 == 6 with
          | true =>
            simp only [if_true]
            obtain ⟨g3, e3, S3, K3⟩ := textR_ok (H.to 192) S2
            have hs : sliceCells g3 6 (.vs .full 1 (StepA.cs ⟨6, -1, 0, 0, 0, (textI (madeI d (nextI 12 l).2).2).1⟩)) = some (1, StepA.cs ⟨6, -1, 0, 0, 0, (textI (madeI d (nextI 12 l).2).2).1⟩) := by simp [sliceCells, StepA.len]
            obtain ⟨ts, v4, a1, G4, K4, ht⟩ := growF_app (bytes := 56) (G2'.keep K3) rfl (KK.trans K3) S3.rot (by omega) hpos (by omega) (by omega) hs (by simp [StepA.len]) (StepA.all _)
            refine ⟨_, v4, ?_, by simpa [Tr.steps] using G4, S3.toks ht, K4⟩
            rw [EvCall_open H.c175 rfl, EvFn_eq]
            simp only [StepA.cs] at a1
            generalize (nextI 12 l).1 = k at *
            simp [-den, f175, start, e1, hd1, cd, k4, q4, q5, q6, w', e2, e3, a1]
          | false =>
            simp only [Bool.false_eq_true, if_false]
            cases q7 : (nextI 12 l).1 == 7 with
            | true =>
              simp only [if_true]
              have hs : sliceCells g2 6 (.vs .full 1 (StepA.cs ⟨5, -1, 0, 0, 0, []⟩)) = some (1, StepA.cs ⟨5, -1, 0, 0, 0, []⟩) := by simp [sliceCells, StepA.len]
              obtain ⟨ts, v4, a1, G4, K4, ht⟩ := growF_app (bytes := 56) G2' rfl KK S2.rot (by omega) hpos (by omega) (by omega) hs (by simp [StepA.len]) (StepA.all _)
              refine ⟨_, v4, ?_, by simpa [Tr.steps, stepO] using G4, S2.toks ht, K4⟩
              rw [EvCall_open H.c175 rfl, EvFn_eq]
              simp only [StepA.cs] at a1
              generalize (nextI 12 l).1 = k at *
              simp [-den, f175, start, e1, hd1, cd, k4, q4, q5, q6, q7, w', e2, a1]
            | false =>
              simp only [Bool.false_eq_true, if_false]
              obtain ⟨g3, v3, e3, G3, S3, K3⟩ := ih g2 (madeI d (nextI 12 l).2).2 S2
              obtain ⟨hs, hsl⟩ := G3.slice (g := g3)
              have hpos3 := Tr.steps_pos (madeI d (madeI d (nextI 12 l).2).2).1
              obtain ⟨ts, v4, a1, G4, K4, ht⟩ := growF_app (bytes := 56) (G2'.keep K3) rfl (KK.trans K3) S3.rot (by omega) hpos (by omega) (by omega) hs hsl (all_flat StepA.all _)
              have S4 := S3.toks ht
              have fin : ∀ o : Int, (if (nextI 12 l).1 > 9 then (4 : Int) else 3) = o → (decide (9 < (nextI 12 l).1) = (o == 4)) → (o = 3 ∨ o = 4) → ∃ h' v, EvCall E (.fn (.func 175) [] []) [.ref p 0, .int .i64 ((d + 1 : Nat) : Int)] h = some (.ret v, h') ∧
                  GrowF h.toks.length h' 6 ((Tr.bin o (madeI d (nextI 12 l).2).1 (madeI d (madeI d (nextI 12 l).2).2).1).steps.flatMap StepA.cs) (Tr.bin o (madeI d (nextI 12 l).2).1 (madeI d (madeI d (nextI 12 l).2).2).1).steps.length v ∧ RW h' p L (madeI d (madeI d (nextI 12 l).2).2).2 ∧ Stay p h h' := by
                intro o ho h9 ho2
                have hs2 : sliceCells (g3.toks_ ts) 6 (.vs .full 1 (StepA.cs ⟨o, -1, 0, 0, 0, []⟩)) = some (1, StepA.cs ⟨o, -1, 0, 0, 0, []⟩) := by simp [sliceCells, StepA.len]
                obtain ⟨us, v5, a2, G5, K5, ht2⟩ := growF_app (bytes := 56) G4 rfl K4 S4.rot (by omega) (by omega) (by omega) (by omega) hs2 (by simp [StepA.len]) (StepA.all _)
                refine ⟨_, v5, ?_, by simpa [Tr.steps, stepO, Nat.add_assoc] using G5, S4.toks ht2, K5⟩
                rw [EvCall_open H.c175 rfl, EvFn_eq]
                simp only [StepA.cs] at a2
                generalize (nextI 12 l).1 = k at *
                rcases ho2 with rfl | rfl
                · have h9' : decide (9 < k) = false := h9
                  simp [-den, f175, start, e1, hd1, cd, k4, q4, q5, q6, q7, w', e2, e3, a1, h9', a2]
                · have h9' : decide (9 < k) = true := h9
                  simp [-den, f175, start, e1, hd1, cd, k4, q4, q5, q6, q7, w', e2, e3, a1, h9', a2]
              by_cases h9 : (nextI 12 l).1 > 9
              · rw [if_pos h9] at fin ⊢
                exact fin 4 rfl (by rw [decide_eq_true h9]; rfl) (.inr rfl)
              · rw [if_neg h9] at fin ⊢
                exact fin 3 rfl (by rw [decide_eq_false h9]; rfl) (.inl rfl)
theorem ints_shut {v : AV} {L : List Int} (hv : IntsV v L) : ∃ v', shut 0 0 v = some v' ∧ IntsV v' L := by
  have hs : shutL 0 0 (L.map (AV.int .i64)) = some (L.map (AV.int .i64)) := shutL_map (fun i => by simp) L
  rcases hv with ⟨rfl, rfl⟩ | ⟨own, rfl⟩
  · exact ⟨.nils, by simp, .inl ⟨rfl, rfl⟩⟩
  · exact ⟨.vs (match own with | .tok k sz => if k < 0 then .tok k sz else .shared | o => o) L.length (L.map (.int .i64)), by cases own <;> simp [hs], .inr ⟨_, rfl⟩⟩
theorem made_run (H : Has 163 E) {v : AV} {L : List Int} (hv : IntsV v L) (hL : L.length ≤ 120) : ∃ h' w, EvCall E (.fn (.func 175) [] []) [.ref 0 0, .int .i64 4] (heap0.push (.cells [v, .int .i64 0])) = some (.ret w, h') ∧ shut 0 0 w = some (stepsV (madeI 4 L).1.steps) := by
  have S : RW (heap0.push (.cells [v, .int .i64 0])) 0 L L := ⟨⟨0, v, Nat.zero_le _, rfl, hv, by simp⟩, rfl, Nat.le_refl _, by omega⟩
  obtain ⟨h', w, e, G, _⟩ := madeM_ok (H.to 175) 4 (Nat.le_refl _) _ L S
  exact ⟨h', w, e, growF_shut G⟩
theorem made_eq (H : Has 163 E) {v : AV} {L : List Int} (hv : IntsV v L) : EvClosed E (.fn (.func 163) [] []) [v] = some (stepsV (madeT L).steps) := by
  obtain ⟨v', sv, hv'⟩ := ints_shut hv
  rw [EvClosed_eq H.c163 rfl (vs := [v']) (by simp [sv]), EvFn_eq]
  unfold madeT
  by_cases h120 : L.length ≤ 120
  · obtain ⟨h', w, e, hw⟩ := made_run H hv' h120
    rw [List.take_of_length_le h120]
    rcases hv' with ⟨rfl, rfl⟩ | ⟨own, rfl⟩
    · simp [f163, start, e, hw]
    · have d : decide (120 < (L.length : Int)) = false := decide_eq_false (by omega)
      simp [f163, start, d, e, hw]
  · rcases hv' with ⟨rfl, rfl⟩ | ⟨own, rfl⟩
    · simp at h120
    · have d : decide (120 < (L.length : Int)) = true := decide_eq_true (by omega)
      have d2 : (120 : Int) ≤ (L.length : Int) := by omega
      have hne : ¬ 120 = L.length := by omega
      have hl2 : (L.take 120).length = 120 := by rw [List.length_take]; omega
      obtain ⟨h', w, e, hw⟩ := made_run H (v := .vs .shared 120 ((L.take 120).map (.int .i64))) (L := L.take 120) (.inr ⟨.shared, by rw [hl2]⟩) (by omega)
      rw [List.map_take] at e
      cases own <;> simp [f163, start, d, d2, hne, e, hw]
end Go.Pv
/- What the reference prints, and of trees that are made of numbers. Conditions: the functions' codes; theorems. -/
namespace Go.Pv
variable {E : Env}
def printD (x : Int) (t : Tr) : List UInt8 × Nat × Int :=
  match missD x t.steps 0 with
  | some (i, e) => ([], i, e)
  | none => if 32 < t.deep then ([], 0, 13) else if 255 < (ptext x t).length then ([], 0, 12) else (ptext x t, 0, 0)
set_option maxHeartbeats 4000000 in
theorem print_eq (H : Has 162 E) {x : Int} (hn : isN x = true) {t : Tr} (ht : TrOk t) (hf : t.fits) (hl : t.steps.length ≤ 255) {v : AV} (hv : TreeV v t.steps) : EvClosed E (.fn (.func 162) [] []) [.int .i64 x, v] = some (.agg (prtV (printD x t).1 (printD x t).2.1 (printD x t).2.2)) := by
  obtain ⟨v', sv, hv'⟩ := tree_shut hv
  rw [EvClosed_eq H.c162 rfl (vs := [.int .i64 x, v']) (by simp [sv]), EvFn_eq]
  have hs := sound_eq (H.to 170) ht hv' hl
  have hnt := nestT_eq (H.to 173) ht hl hv'
  have htx := text_eq (H.to 174) hn t ht hf hl _ hv'
  have hx : 1 ≤ x ∧ x ≤ 5 := by simpa [isN] using hn
  have d1 : decide (x < 1) = false := decide_eq_false (by omega)
  have d2 : decide (5 < x) = false := decide_eq_false (by omega)
  have hpos := Tr.steps_pos t
  rcases hv' with ⟨_, h0⟩ | ⟨own, rfl⟩
  · rw [h0] at hpos
    simp at hpos
  obtain ⟨g, hg, hgb, hgr⟩ := print_loop H hn (own := own) (tr_steps ht) (by omega) t.steps.length 0 (by omega) (heap0.push (.cells (prtV [] 0 0))) rfl (by simp)
  rw [List.drop_zero] at hg hgb
  unfold printD
  have n0 := blk_ne hgb
  cases hm : missD x t.steps 0 with
  | some ie =>
    obtain ⟨i, e⟩ := ie
    rw [hm] at hg hgb
    simp only [prtV, outH] at hg hgb ⊢
    generalize t.steps.flatMap StepA.cs = ca at *
    simp [f162, start, EvCall_closed H.c170 rfl, hs, d1, d2]
    rw [hg _ (by simp [s162_0])]
    simp [r162, hgb]
  | none =>
    rw [hm] at hg hgb
    simp only [prtV, outH] at hg hgb ⊢
    generalize t.steps.flatMap StepA.cs = ca at *
    by_cases hd : 32 < t.deep
    · have d3 : decide ((32 : Int) < (t.deep : Int)) = true := decide_eq_true (by omega)
      simp [f162, start, EvCall_closed H.c170 rfl, hs, d1, d2]
      rw [hg _ (by simp [s162_0])]
      simp [x162_0, hgb, EvCall_closed H.c173 rfl, hnt, d3, hd, bl_set, hgr]
    · have d3 : decide ((32 : Int) < (t.deep : Int)) = false := decide_eq_false (by omega)
      generalize ptext x t = s at *
      by_cases hd2 : 255 < s.length
      · have d4 : decide ((255 : Int) < (s.length : Int)) = true := decide_eq_true (by omega)
        simp [f162, start, EvCall_closed H.c170 rfl, hs, d1, d2]
        rw [hg _ (by simp [s162_0])]
        simp [x162_0, hgb, EvCall_closed H.c173 rfl, EvCall_closed H.c174 rfl, hnt, htx, d3, d4, hd, hd2, bl_set, hgr]
      · have d4 : decide ((255 : Int) < (s.length : Int)) = false := decide_eq_false (by omega)
        simp [f162, start, EvCall_closed H.c170 rfl, hs, d1, d2]
        rw [hg _ (by simp [s162_0])]
        simp [x162_0, hgb, EvCall_closed H.c173 rfl, EvCall_closed H.c174 rfl, hnt, htx, d3, d4, hd, hd2, bl_set, hgr]
theorem symI_ok (l : List Int) : TrOk (symI l).1 ∧ (symI l).1.fits := by
  refine ⟨?_, trivial⟩
  have a1 := nextI_range (n := atomsT.length) (by decide) l
  unfold symI
  generalize nextI atomsT.length l = a at *
  dsimp only
  generalize (if metricT a.1 = true then nextI 2 a.2 else (1, a.2)) = c
  have hq : -1 ≤ (if (metricT a.1 && c.1 == 0) = true then nextI prefsT.length c.2 else (-1, c.2)).1 ∧ (if (metricT a.1 && c.1 == 0) = true then nextI prefsT.length c.2 else (-1, c.2)).1 < prefsT.length ∧ ((if (metricT a.1 && c.1 == 0) = true then nextI prefsT.length c.2 else (-1, c.2)).1 = -1 ∨ metricT a.1 = true) := by
    split
    · rename_i h
      have := nextI_range (n := prefsT.length) (by decide) c.2
      have hm : metricT a.1 = true := by simp only [Bool.and_eq_true] at h; exact h.1
      exact ⟨by omega, this.2, .inr hm⟩
    · exact ⟨by simp, (by decide : (-1 : Int) < prefsT.length), .inl rfl⟩
  generalize (if (metricT a.1 && c.1 == 0) = true then nextI prefsT.length c.2 else (-1, c.2)) = q at *
  generalize nextI 3 q.2 = d
  have hd : -99 ≤ (if (d.1 == 0) = true then ((nextI 7 d.2).1 - 3, (nextI 7 d.2).2) else (1, d.2)).1 ∧ (if (d.1 == 0) = true then ((nextI 7 d.2).1 - 3, (nextI 7 d.2).2) else (1, d.2)).1 ≤ 99 := by
    split
    · have := nextI_range (n := 7) (by decide) d.2
      dsimp only
      omega
    · dsimp only
      omega
  exact .sym _ _ _ a1.1 a1.2 hq.1 hq.2.1 hd.1 hd.2 hq.2.2
theorem notes_ok : ∀ s ∈ notesL, printB s = true ∧ s.length < 1000000 := by decide
theorem textI_ok (l : List Int) : printB (textI l).1 = true ∧ (textI l).1.length < 1000000 := by
  have h := nextI_range (n := 5) (by decide) l
  simp only [textI]
  generalize (nextI 5 l).1 = k at *
  have hk : k.toNat < notesL.length := by simp [notesL]; omega
  rw [List.getD_eq_getElem?_getD, List.getElem?_eq_getElem hk]
  exact notes_ok _ (List.getElem_mem hk)
theorem madeI_ok : ∀ (d : Nat) (l : List Int), TrOk (madeI d l).1 ∧ (madeI d l).1.fits
  | 0, l => symI_ok _
  | d + 1, l => by
    have i1 := madeI_ok d (nextI 12 l).2
    have i2 := madeI_ok d (madeI d (nextI 12 l).2).2
    have n1 := nextI_range (n := 1200) (by decide) (nextI 12 l).2
    unfold madeI
    split
    · exact symI_ok _
    · split
      · exact ⟨.num _ (by omega), by simp only [Tr.fits]; omega⟩
      · split
        · exact ⟨.alone _ (textI_ok _).1 (textI_ok _).2, trivial⟩
        · split
          · exact ⟨.note _ _ i1.1 (textI_ok _).1 (textI_ok _).2, i1.2⟩
          · split
            · exact ⟨.inv _ i1.1, i1.2⟩
            · exact ⟨.bin _ _ _ (by split <;> simp) i1.1 i2.1, i1.2, i2.2⟩
theorem madeT_ok (l : List Int) : TrOk (madeT l) ∧ (madeT l).fits ∧ (madeT l).steps.length ≤ 255 := by
  have h1 := madeI_ok 4 (l.take 120)
  have h2 := madeI_size 4 (l.take 120)
  exact ⟨h1.1, h1.2, by simp only [madeT]; omega⟩
theorem text155_eq (H : Has 155 E) {x : Int} (hn : isN x = true) {v : AV} {L : List Int} (hv : IntsV v L) : EvClosed E (.fn (.func 155) [] []) [.int .i64 x, v] = some (.str (printD x (madeT L)).1) := by
  obtain ⟨v', sv, hv'⟩ := ints_shut hv
  rw [EvClosed_eq H.c155 rfl (vs := [.int .i64 x, v']) (by simp [sv]), EvFn_eq]
  have hm := made_eq (H.to 163) hv'
  obtain ⟨k1, k2, k3⟩ := madeT_ok L
  have hp := print_eq (H.to 162) hn k1 k2 k3 (v := stepsV (madeT L).steps) (stepsV_tree _)
  have hsh := stepsV_shut (madeT L).steps
  have hsc := stepsV_cell (madeT L).steps
  generalize stepsV (madeT L).steps = w at *
  simp only [prtV] at hp
  simp [f155, start, EvCall_closed H.c163 rfl, EvCall_closed H.c162 rfl, hm, hp]
end Go.Pv
/- A number's rest; the chapter's examples. Conditions: the functions' codes; theorems. -/
namespace Go.Pv
variable {E : Env} {x : Int}
theorem rest18_eq (H : Has 18 E) {x m : Int} (hm : 0 < m) (hm2 : m < 1000000) : EvClosed E (.fn (.func 18) [] []) [.int .i64 x, .int .i64 m] = some (.int .i64 (x % m)) := by
  rw [EvClosed_eq H.c18 rfl (vs := [.int .i64 x, .int .i64 m]) (by simp), EvFn_eq]
  have h0 : m ≠ 0 := by omega
  have hb : -m < x.tmod m ∧ x.tmod m < m := ⟨Int.lt_tmod_of_pos x hm, Int.tmod_lt_of_pos x hm⟩
  have hw : IntKind.i64.wrap (x.tmod m + m) = x.tmod m + m := w64
  have he : (x.tmod m + m).tmod m = x % m := by
    have h1 : (x.tmod m + m).tmod m = (x.tmod m + m) % m := Int.tmod_eq_emod_of_nonneg (by omega)
    rw [h1, Int.add_emod_right]
    have h3 : x.tmod m = x - m * x.tdiv m := by have := Int.mul_tdiv_add_tmod x m; omega
    rw [h3, Int.sub_mul_emod_self_left]
  simp [f18, start, h0, hw, he]
theorem aw_a : parseP 1 [47, 109, 46, 115, 45, 50] = ⟨[⟨2, -1, 0, 1, 0, []⟩, ⟨5, -1, 0, 0, 0, []⟩, ⟨2, -1, 1, -2, 0, []⟩, ⟨3, -1, 0, 0, 0, []⟩], 0, 6, 0⟩ := by decide +kernel
theorem aw_b : parseP 1 [109, 41] = ⟨[], 14, 1, 0⟩ := by decide +kernel
theorem aw_c : parseP 1 [109, 103, 47, 120, 121, 122] = ⟨[], 15, 3, 3⟩ := by decide +kernel
set_option maxHeartbeats 1000000 in
theorem awake17_eq (H : Has 17 E) : EvClosed E (.fn (.func 17) [] []) [] = some (.bool true) := by
  rw [EvClosed_eq H.c17 rfl (vs := []) (by simp), EvFn_eq]
  have h1 := parse_eq (H.to 20) 1 [47, 109, 46, 115, 45, 50] (by simp)
  have h2 := parse_eq (H.to 20) 1 [109, 41] (by simp)
  have h3 := parse_eq (H.to 20) 1 [109, 103, 47, 120, 121, 122] (by simp)
  rw [aw_a] at h1
  rw [aw_b] at h2
  rw [aw_c] at h3
  simp only [Psd.cs, stepsV] at h1 h2 h3
  simp [StepA.cs] at h1 h2 h3
  simp [f17, start, EvCall_closed H.c20 rfl, h1, h2, h3, push_setk]
end Go.Pv
/- A call's end as a row wants it, where its arguments hold no place. Conditions: none; lemmas. -/
namespace Go.Pv
open Go.RowKit Go.ChangeShapes Go.WideShapes
variable {H : Type} {enc : TypeId × Value → H} {P : Program}
theorem post_new {f : Func} {s : ChangeSpec} {apart fresh handsOn again : Bool} {W W' : World} {args : Array Value} {v : Value} {ds gs : List (DataW H)}
    (hW : DataW.Whole enc P f.params.toList s.vars apart W args.toList ds gs [])
    (hres : ∀ (b : Nat) (sp : Nat → Bool) (hd : Bool), DataW.TrodAll enc P W' b sp hd f.resultTypes.toList (v.resultList f.resultTypes.size) (s.fn H (ds ++ gs)).results [])
    (hargs : ∀ sp : Nat → Bool, DataW.TrodAll enc P W' 0 sp true f.params.toList args.toList (s.fn H (ds ++ gs)).args [])
    (hvars : ∀ sp : Nat → Bool, DataW.TrodVars enc P W' sp s.vars (s.fn H (ds ++ gs)).vars []) (hk : W.keptBut W' (fun _ => False))
    (hok : ∀ (j : Nat) (t : TypeId) (r : Value), f.resultTypes[j]? = some t → (v.resultList f.resultTypes.size)[j]? = some r → Value.okWide P W' .any 0 t r) :
    s.post enc P f apart fresh handsOn again W args v W' := by
  refine ⟨ds, gs, [], [], [], [], hW, hres _ _ _, hargs _, hvars _, World.keptBut_mono (fun p hp => hp.elim) hk, fun _ => ?_⟩
  refine ⟨hok, _, _, ([] ++ []) ++ [], ⟨[] ++ [], [], trodAll_append (hargs _) (hres _ _ _), hvars _, rfl, ?_, ?_⟩, ?_⟩
  · intro b off hp
    simp at hp
  · intro ha
    simp
  · intro p hp _
    simp at hp
end Go.Pv
