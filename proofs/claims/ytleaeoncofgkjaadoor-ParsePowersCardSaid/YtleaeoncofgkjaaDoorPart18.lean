/- Part 18 of the proof: what functions of the program come to. Conditions: none; definitions and theorems that the statement's proof uses. -/
import Derived.Test.YtleaeoncofgkjaaDoorPart17
/- The parser's words, one of a product, a product. Conditions: the functions' codes; theorems. -/
namespace Go.Pv
variable {E : Env} {x sz : Int} {p nest : Nat} {h : AHeap} {l : List Tok} {u : Option Tok}

/-- What main makes one bracket deeper. -/
def Deeper (E : Env) (x sz : Int) (p nest r : Nat) : Prop :=
  ∀ r', r = r' + 1 → ∀ g l u, PS x sz (sty x) p g (nest + 1) l u → l.length < 900000 → Tells E x sz (sty x) p g (nest + 1) 49 [.ref p 0] (mainP x sz (levelP x sz r') l u)
theorem PS.at_nest {y : Sty} {h : AHeap} {n : Nat} {l : List Tok} {u : Option Tok} (S : PS x sz y p h n l u) (m : Nat) : ∃ lv uv, h.bl p = some (parsB x sz n y lv uv) ∧ lv.isCell = true ∧ uv.isCell = true ∧ PS x sz y p (h.setBlk p (parsB x sz m y lv uv)) m l u := by
  have hp := S.lt
  obtain ⟨⟨lv, uv, h1, h2, h3⟩, h4, h5⟩ := S
  refine ⟨lv, uv, h1, ?_, ?_, ⟨lv, uv, ?_, h2, h3.keep (Stay.set p h _)⟩, h4, h5⟩
  · rcases h2 with ⟨_, rfl⟩ | rfl <;> rfl
  · cases u with
    | none => rw [h3]; rfl
    | some q => obtain ⟨b, hb, _⟩ := h3; rw [hb]; rfl
  · rw [bl_set, if_pos rfl, h1]; rfl
set_option maxHeartbeats 1000000 in
theorem left_ok (H : Has 84 E) (hx : 1 ≤ x ∧ x ≤ 5) {r : Nat} (hr : nest + r = 32) (D : Deeper E x sz p nest r) {t : Tok} (S : PS x sz (sty x) p h nest (t :: l) u) (hl : l.length < 900000) (h1 : (t.kind == 1) = false) (h2 : (t.kind == 2) = false) (h7 : (t.kind == 7) = true) :
    Tells E x sz (sty x) p h nest 84 [.ref p 0] (levelP x sz r (t :: l) u) := by
  have i1 := is_ok (H.to 82) S 1
  have i2 := is_ok (H.to 82) S 2
  have i7 := is_ok (H.to 82) S 7
  have m7 := must_ok (E := E) (p := p) (H.to 50) h
  have j1 : isT 1 (t :: l) = false := h1
  have j2 : isT 2 (t :: l) = false := h2
  have j7 : isT 7 (t :: l) = true := h7
  obtain ⟨lv, uv, c1, _, _, _⟩ := S.at_nest 0
  simp only [parsB] at c1
  cases r with
  | zero =>
    have hn : nest = 32 := by omega
    subst hn
    have a := at_ok (H.to 70) S
    refine ⟨h, ?_, Stay.refl _ _⟩
    rw [EvCall_open H.c84 rfl, EvFn_eq]
    simp [f84, start, i1, i2, i7, j1, j2, j7, m7, c1, a, errV]
  | succ r' =>
    have hn : ¬ (nest : Int) = 32 := by omega
    obtain ⟨g1, e1, S1, K1⟩ := take_ok (H.to 83) S
    obtain ⟨lv1, uv1, d1, lc1, uc1, S2⟩ := S1.at_nest (nest + 1)
    have ro1 : g1.ro = 0 := S1.ro
    have w1 : IntKind.i64.wrap ((nest : Int) + 1) = (nest : Int) + 1 := w64
    have q := D r' rfl _ _ _ S2 hl
    have K2 := K1.trans (Stay.set p g1 (parsB x sz (nest + 1) (sty x) lv1 uv1))
    simp only [levelP, List.tail_cons]
    simp only [parsB] at d1 q K2
    have cn : ((nest + 1 : Nat) : Int) = (nest : Int) + 1 := by omega
    rw [cn] at q
    cases hm : mainP x sz (levelP x sz r') l u with
    | error e =>
      rw [hm] at q
      obtain ⟨g2, e2, K3⟩ := q
      refine ⟨g2, ?_, K2.trans K3⟩
      rw [EvCall_open H.c84 rfl, EvFn_eq]
      simp [f84, start, i1, i2, i7, j1, j2, j7, m7, c1, hn, e1, d1, w1, ro1, lc1, uc1, e2]
    | ok v =>
      obtain ⟨tt, l', u'⟩ := v
      rw [hm] at q
      obtain ⟨g2, v, e2, G2, S3, K3⟩ := q
      have K23 := K2.trans K3
      have nocase : ∀ e, isT 8 l' = false → atT sz l' = e → (closeP sz (tt, l', u') = .error (14, e)) := by
        intro e h8 he
        cases l' with
        | nil => simp only [closeP]; rw [← he]; rfl
        | cons k m =>
          have : (k.kind == 8) = false := h8
          simp only [closeP, this, Bool.false_eq_true, if_false]
          rw [← he]
          rfl
      cases h8 : isT 8 l' with
      | false =>
        simp only [nocase _ h8 rfl]
        have m8 := may_not (H.to 68) S3 h8
        have mb := must_bad (H.to 50) S3
        refine ⟨g2, ?_, K23⟩
        rw [EvCall_open H.c84 rfl, EvFn_eq]
        simp [f84, start, i1, i2, i7, j1, j2, j7, m7, c1, hn, e1, d1, w1, ro1, lc1, uc1, e2, m8, mb]
      | true =>
        cases l' with
        | nil => cases h8
        | cons k m =>
          have hk : (k.kind == 8) = true := h8
          obtain ⟨g3, e3, S4, K4⟩ := may_ok (H.to 68) S3 (k := 8) (by simpa using hk)
          have m8 := must_ok (E := E) (p := p) (H.to 50) g3
          obtain ⟨lv4, uv4, d4, lc4, uc4, S5⟩ := S4.at_nest nest
          have ro4 : g3.ro = 0 := S4.ro
          have w2 : IntKind.i64.wrap ((nest : Int) + 1 - 1) = (nest : Int) := by rw [Int.add_sub_cancel]; exact w64
          have w2' : IntKind.i64.wrap (nest : Int) = (nest : Int) := w64
          have K5 := (K23.trans K4).trans (Stay.set p g3 (parsB x sz nest (sty x) lv4 uv4))
          simp only [closeP, hk, if_true]
          refine ⟨_, v, ?_, ((G2.low (k1 := h.toks.length) K2.tlen).keep K4).keep (Stay.set p g3 (parsB x sz nest (sty x) lv4 uv4)), S5, K5⟩
          rw [EvCall_open H.c84 rfl, EvFn_eq]
          simp only [parsB] at d4 ⊢
          rw [cn] at d4
          simp [f84, start, i1, i2, i7, j1, j2, j7, m7, c1, hn, e1, d1, w1, ro1, lc1, uc1, e2, e3, m8, d4, ro4, w2, w2', lc4, uc4]
set_option maxHeartbeats 1000000 in
theorem base_ok (H : Has 84 E) (hx : 1 ≤ x ∧ x ≤ 5) {r : Nat} (hr : nest + r = 32) (D : Deeper E x sz p nest r) (S : PS x sz (sty x) p h nest l u) (hl : l.length < 900000) :
    Tells E x sz (sty x) p h nest 84 [.ref p 0] (baseP x sz (levelP x sz r) l u) := by
  have i1 := is_ok (H.to 82) S 1
  have i2 := is_ok (H.to 82) S 2
  have i7 := is_ok (H.to 82) S 7
  have bad : isT 1 l = false → isT 2 l = false → isT 7 l = false → ∃ h', EvCall E (.fn (.func 84) [] []) [.ref p 0] h = some (.pan (errV (14, atT sz l)), h') ∧ Stay p h h' := by
    intro j1 j2 j7
    have mb := must_bad (H.to 50) S
    refine ⟨h, ?_, Stay.refl _ _⟩
    rw [EvCall_open H.c84 rfl, EvFn_eq]
    simp [f84, start, i1, i2, i7, j1, j2, j7, mb]
  cases l with
  | nil => exact bad rfl rfl rfl
  | cons t l =>
    simp only [List.length_cons] at hl
    simp only [baseP]
    split
    · rename_i h1
      have j1 : isT 1 (t :: l) = true := h1
      have q := sym_ok (H.to 94) hx S
      cases hs : symP x sz t l u with
      | error e =>
        rw [hs] at q
        obtain ⟨g, e1, K⟩ := q
        refine ⟨g, ?_, K⟩
        rw [EvCall_open H.c84 rfl, EvFn_eq]
        simp [f84, start, i1, j1, e1]
      | ok v =>
        obtain ⟨tt, l', u'⟩ := v
        rw [hs] at q
        obtain ⟨g, v, e1, q2, q3, q4⟩ := q
        refine ⟨g, v, ?_, q2, q3, q4⟩
        rw [EvCall_open H.c84 rfl, EvFn_eq]
        simp [f84, start, i1, j1, e1]
    · rename_i h1
      have h1' : (t.kind == 1) = false := by simpa using h1
      have j1 : isT 1 (t :: l) = false := h1'
      split
      · rename_i h2
        have j2 : isT 2 (t :: l) = true := h2
        have q := number_ok (H.to 95) S 1 maxNum
        unfold maxNum at q ⊢
        cases hs : numP sz 1 9223372036854775807 (t :: l) with
        | error e =>
          rw [hs] at q
          obtain ⟨g, e1, K⟩ := q
          refine ⟨g, ?_, K⟩
          rw [EvCall_open H.c84 rfl, EvFn_eq]
          simp [f84, start, i1, i2, j1, j2, e1]
        | ok v =>
          obtain ⟨n, l'⟩ := v
          rw [hs] at q
          obtain ⟨g, e1, q3, q4⟩ := q
          refine ⟨g, .vs .full 1 (StepA.cs ⟨1, -1, 0, 0, n, []⟩), ?_, growF_one _ _ _, q3, q4⟩
          rw [EvCall_open H.c84 rfl, EvFn_eq]
          simp [f84, start, i1, i2, j1, j2, e1, StepA.cs]
      · rename_i h2
        have h2' : (t.kind == 2) = false := by simpa using h2
        split
        · rename_i h7
          exact left_ok H hx hr D S (by omega) h1' h2' h7
        · rename_i h7
          exact bad h1' h2' (by simpa [isT] using h7)
end Go.Pv
