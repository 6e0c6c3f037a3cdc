/- A part of the proof: functions of the program in the evaluator's code, and what they come to. Conditions: none; definitions and theorems that the statement's proof uses. -/
import Derived.Test.YtleaeoncofgkjaaGreatDoorSet10
import Derived.Test.YtleaeoncofgkjaaGreatDoorSet9
/- The parser's words, one of a product, a product. Conditions: the functions' codes; theorems. -/
namespace Go.Pv
variable {E : Env} {x sz : Int} {p nest : Nat} {h : AHeap} {l : List Tok} {u : Option Tok}
def Deeper (E : Env) (x sz : Int) (p nest r : Nat) : Prop :=
  ∀ r', r = r' + 1 → ∀ g l u, PS x sz (sty x) p g (nest + 1) l u → l.length < 900000 → Tells E x sz (sty x) p g (nest + 1) 49 [.ref p 0] (mainP x sz (levelP x sz r') l u)
theorem PS.at_nest {y : Sty} {h : AHeap} {n : Nat} {l : List Tok} {u : Option Tok} (S : PS x sz y p h n l u) (m : Nat) : ∃ lv uv, h.bl p = some (parsB x sz n y lv uv) ∧ lv.isCell = true ∧ uv.isCell = true ∧ PS x sz y p (h.setBlk p (parsB x sz m y lv uv)) m l u := by
  have hp := S.lt
  obtain ⟨⟨lv, uv, h1, h2, h3⟩, h4, h5⟩ := S
  refine ⟨lv, uv, h1, ?_, ?_, ⟨lv, uv, ?_, h2, h3.keep (Stay.set p h _)⟩, h4, h5⟩
  · rcases h2 with ⟨_, rfl⟩ | rfl <;> rfl
  · cases u with
    | none => rw [h3]; rfl
    | some q => obtain ⟨b, hb, _⟩ := h3; rw [hb]; rfl
  · rw [bl_set, if_pos rfl, h1]; rfl
set_option maxHeartbeats 1000000 in
theorem left_ok (H : Has 84 E) (_hx : 1 ≤ x ∧ x ≤ 5) {r : Nat} (hr : nest + r = 32) (D : Deeper E x sz p nest r) {t : Tok} (S : PS x sz (sty x) p h nest (t :: l) u) (hl : l.length < 900000) (h1 : (t.kind == 1) = false) (h2 : (t.kind == 2) = false) (h7 : (t.kind == 7) = true) :
    Tells E x sz (sty x) p h nest 84 [.ref p 0] (levelP x sz r (t :: l) u) := by
  have i1 := is_ok (H.to 82) S 1
  have i2 := is_ok (H.to 82) S 2
  have i7 := is_ok (H.to 82) S 7
  have m7 := must_ok (E := E) (p := p) (H.to 50) h
  have j1 : isT 1 (t :: l) = false := h1
  have j2 : isT 2 (t :: l) = false := h2
  have j7 : isT 7 (t :: l) = true := h7
  obtain ⟨lv, uv, c1, _, _, _⟩ := S.at_nest 0
  simp only [parsB] at c1
  cases r with
  | zero =>
    have hn : nest = 32 := by omega
    subst hn
    have a := at_ok (H.to 70) S
    refine ⟨h, ?_, Stay.refl _ _⟩
    rw [EvCall_open H.c84 rfl, EvFn_eq]
    simp [f84, start, i1, i2, i7, j1, j2, j7, m7, c1, a, errV]
  | succ r' =>
    have hn : ¬ (nest : Int) = 32 := by omega
    obtain ⟨g1, e1, S1, K1⟩ := take_ok (H.to 83) S
    obtain ⟨lv1, uv1, d1, lc1, uc1, S2⟩ := S1.at_nest (nest + 1)
    have ro1 : g1.ro = 0 := S1.ro
    have w1 : IntKind.i64.wrap ((nest : Int) + 1) = (nest : Int) + 1 := w64
    have q := D r' rfl _ _ _ S2 hl
    have K2 := K1.trans (Stay.set p g1 (parsB x sz (nest + 1) (sty x) lv1 uv1))
    simp only [levelP, List.tail_cons]
    simp only [parsB] at d1 q K2
    have cn : ((nest + 1 : Nat) : Int) = (nest : Int) + 1 := by omega
    rw [cn] at q
    cases hm : mainP x sz (levelP x sz r') l u with
    | error e =>
      rw [hm] at q
      obtain ⟨g2, e2, K3⟩ := q
      refine ⟨g2, ?_, K2.trans K3⟩
      rw [EvCall_open H.c84 rfl, EvFn_eq]
      simp [f84, start, i1, i2, i7, j1, j2, j7, m7, c1, hn, e1, d1, w1, ro1, e2]
    | ok v =>
      obtain ⟨tt, l', u'⟩ := v
      rw [hm] at q
      obtain ⟨g2, v, e2, G2, S3, K3⟩ := q
      have K23 := K2.trans K3
      have nocase : ∀ e, isT 8 l' = false → atT sz l' = e → (closeP sz (tt, l', u') = .error (14, e)) := by
        intro e h8 he
        cases l' with
        | nil => simp only [closeP]; rw [← he]; rfl
        | cons k m =>
          have : (k.kind == 8) = false := h8
          simp only [closeP, this, Bool.false_eq_true, if_false]
          rw [← he]
          rfl
      cases h8 : isT 8 l' with
      | false =>
        simp only [nocase _ h8 rfl]
        have m8 := may_not (H.to 68) S3 h8
        have mb := must_bad (H.to 50) S3
        refine ⟨g2, ?_, K23⟩
        rw [EvCall_open H.c84 rfl, EvFn_eq]
        simp [f84, start, i1, i2, i7, j1, j2, j7, m7, c1, hn, e1, d1, w1, ro1, e2, m8, mb]
      | true =>
        cases l' with
        | nil => cases h8
        | cons k m =>
          have hk : (k.kind == 8) = true := h8
          obtain ⟨g3, e3, S4, K4⟩ := may_ok (H.to 68) S3 (k := 8) (by simpa using hk)
          have m8 := must_ok (E := E) (p := p) (H.to 50) g3
          obtain ⟨lv4, uv4, d4, lc4, uc4, S5⟩ := S4.at_nest nest
          have ro4 : g3.ro = 0 := S4.ro
          have w2 : IntKind.i64.wrap ((nest : Int) + 1 - 1) = (nest : Int) := by rw [Int.add_sub_cancel]; exact w64
          have w2' : IntKind.i64.wrap (nest : Int) = (nest : Int) := w64
          have K5 := (K23.trans K4).trans (Stay.set p g3 (parsB x sz nest (sty x) lv4 uv4))
          simp only [closeP, hk, if_true]
          refine ⟨_, v, ?_, ((G2.low (k1 := h.toks.length) K2.tlen).keep K4).keep (Stay.set p g3 (parsB x sz nest (sty x) lv4 uv4)), S5, K5⟩
          rw [EvCall_open H.c84 rfl, EvFn_eq]
          simp only [parsB] at d4 ⊢
          rw [cn] at d4
          simp [f84, start, i1, i2, i7, j1, j2, j7, m7, c1, hn, e1, d1, w1, ro1, e2, e3, m8, d4, ro4, w2']
set_option maxHeartbeats 1000000 in
theorem base_ok (H : Has 84 E) (hx : 1 ≤ x ∧ x ≤ 5) {r : Nat} (hr : nest + r = 32) (D : Deeper E x sz p nest r) (S : PS x sz (sty x) p h nest l u) (hl : l.length < 900000) :
    Tells E x sz (sty x) p h nest 84 [.ref p 0] (baseP x sz (levelP x sz r) l u) := by
  have i1 := is_ok (H.to 82) S 1
  have i2 := is_ok (H.to 82) S 2
  have i7 := is_ok (H.to 82) S 7
  have bad : isT 1 l = false → isT 2 l = false → isT 7 l = false → ∃ h', EvCall E (.fn (.func 84) [] []) [.ref p 0] h = some (.pan (errV (14, atT sz l)), h') ∧ Stay p h h' := by
    intro j1 j2 j7
    have mb := must_bad (H.to 50) S
    refine ⟨h, ?_, Stay.refl _ _⟩
    rw [EvCall_open H.c84 rfl, EvFn_eq]
    simp [f84, start, i1, i2, i7, j1, j2, j7, mb]
  cases l with
  | nil => exact bad rfl rfl rfl
  | cons t l =>
    simp only [List.length_cons] at hl
    simp only [baseP]
    split
    · rename_i h1
      have j1 : isT 1 (t :: l) = true := h1
      have q := sym_ok (H.to 94) hx S
      cases hs : symP x sz t l u with
      | error e =>
        rw [hs] at q
        obtain ⟨g, e1, K⟩ := q
        refine ⟨g, ?_, K⟩
        rw [EvCall_open H.c84 rfl, EvFn_eq]
        simp [f84, start, i1, j1, e1]
      | ok v =>
        obtain ⟨tt, l', u'⟩ := v
        rw [hs] at q
        obtain ⟨g, v, e1, q2, q3, q4⟩ := q
        refine ⟨g, v, ?_, q2, q3, q4⟩
        rw [EvCall_open H.c84 rfl, EvFn_eq]
        simp [f84, start, i1, j1, e1]
    · rename_i h1
      have h1' : (t.kind == 1) = false := by simpa using h1
      have j1 : isT 1 (t :: l) = false := h1'
      split
      · rename_i h2
        have j2 : isT 2 (t :: l) = true := h2
        have q := number_ok (H.to 95) S 1 maxNum
        unfold maxNum at q ⊢
        cases hs : numP sz 1 9223372036854775807 (t :: l) with
        | error e =>
          rw [hs] at q
          obtain ⟨g, e1, K⟩ := q
          refine ⟨g, ?_, K⟩
          rw [EvCall_open H.c84 rfl, EvFn_eq]
          simp [f84, start, i1, i2, j1, j2, e1]
        | ok v =>
          obtain ⟨n, l'⟩ := v
          rw [hs] at q
          obtain ⟨g, e1, q3, q4⟩ := q
          refine ⟨g, .vs .full 1 (StepA.cs ⟨1, -1, 0, 0, n, []⟩), ?_, growF_one _ _ _, q3, q4⟩
          rw [EvCall_open H.c84 rfl, EvFn_eq]
          simp [f84, start, i1, i2, j1, j2, e1, StepA.cs]
      · rename_i h2
        have h2' : (t.kind == 2) = false := by simpa using h2
        split
        · rename_i h7
          exact left_ok H hx hr D S (by omega) h1' h2' h7
        · rename_i h7
          exact bad h1' h2' (by simpa [isT] using h7)
end Go.Pv
/- The parser's products. Conditions: the functions' codes; theorems. -/
namespace Go.Pv
variable {E : Env} {x sz : Int} {p nest : Nat} {h : AHeap} {l : List Tok} {u : Option Tok}
theorem base_fits {r : Nat} (l : List Tok) (u : Option Tok) : Fits 0 l (baseP x sz (levelP x sz r) l u) := baseP_fits (levelP_fits r) l u
set_option maxHeartbeats 1000000 in
theorem itemB_ok (H : Has 69 E) (hx : 1 ≤ x ∧ x ≤ 5) {r : Nat} (hr : nest + r = 32) (D : Deeper E x sz p nest r) (S : PS x sz (sty x) p h nest l u) (hl : l.length < 900000) (h9 : isT 9 l = false) :
    Tells E x sz (sty x) p h nest 69 [.ref p 0] (itemB x sz (levelP x sz r) l u) := by
  have i9 := is_ok (H.to 82) S 9
  have q := base_ok (H.to 84) hx hr D S hl
  have fit := base_fits (x := x) (sz := sz) (r := r) l u
  unfold itemB
  cases hb : baseP x sz (levelP x sz r) l u with
  | error e =>
    rw [hb] at q
    obtain ⟨g, e1, K⟩ := q
    refine ⟨g, ?_, K⟩
    rw [EvCall_open H.c69 rfl, EvFn_eq]
    simp [f69, start, i9, h9, e1]
  | ok v =>
    obtain ⟨t, l', u'⟩ := v
    rw [hb] at q fit
    simp only [Fits] at fit
    obtain ⟨g, v, e1, q2, q3, q4⟩ := q
    have k9 := is_ok (H.to 82) q3 9
    have no : isT 9 l' = false → noteP (t, l', u') = .ok (t, l', u') := by
      intro hn
      cases l' with
      | nil => rfl
      | cons k m =>
        have : (k.kind == 9) = false := hn
        simp [noteP, this]
    cases hn : isT 9 l' with
    | false =>
      simp only [no hn]
      refine ⟨g, v, ?_, q2, q3, q4⟩
      rw [EvCall_open H.c69 rfl, EvFn_eq]
      simp [f69, start, i9, h9, e1, k9, hn]
    | true =>
      cases l' with
      | nil => cases hn
      | cons k m =>
        have hk : (k.kind == 9) = true := hn
        simp only [noteP, hk, if_true]
        obtain ⟨g2, e2, S2, K2⟩ := take_ok (H.to 83) q3
        have G2 := q2.keep K2
        have K3 := q4.trans K2
        simp only [List.length_cons] at fit
        have hs : sliceCells g2 6 (.vs .full 1 (StepA.cs ⟨6, -1, 0, 0, 0, k.text⟩)) = some (1, StepA.cs ⟨6, -1, 0, 0, 0, k.text⟩) := by simp [sliceCells, StepA.len]
        obtain ⟨ts, v', a1, G3, K4, hts⟩ := growF_app (bytes := 56) G2 rfl K3 S2.rot (by omega) fit.2 (by omega) (by omega) hs (by simp [StepA.len]) (StepA.all _)
        refine ⟨g2.toks_ ts, v', ?_, by simpa using G3, S2.toks hts, K4⟩
        rw [EvCall_open H.c69 rfl, EvFn_eq]
        simp only [StepA.cs] at a1
        simp only [Tok.cs] at e2
        simp [-den, f69, start, i9, h9, e1, k9, hn, e2, a1]
theorem item_ok (H : Has 69 E) (hx : 1 ≤ x ∧ x ≤ 5) {r : Nat} (hr : nest + r = 32) (D : Deeper E x sz p nest r) (S : PS x sz (sty x) p h nest l u) (hl : l.length < 900000) :
    Tells E x sz (sty x) p h nest 69 [.ref p 0] (itemP x sz (levelP x sz r) l u) := by
  cases l with
  | nil => exact itemB_ok H hx hr D S hl rfl
  | cons t l =>
    simp only [itemP]
    split
    · rename_i h9
      have j9 : isT 9 (t :: l) = true := h9
      have i9 := is_ok (H.to 82) S 9
      obtain ⟨g, e1, S1, K1⟩ := take_ok (H.to 83) S
      refine ⟨g, .vs .full 1 (StepA.cs ⟨7, -1, 0, 0, 0, t.text⟩), ?_, growF_one _ _ _, S1, K1⟩
      rw [EvCall_open H.c69 rfl, EvFn_eq]
      simp only [Tok.cs] at e1
      simp [f69, start, i9, j9, e1, StepA.cs]
    · rename_i h9
      exact itemB_ok H hx hr D S hl (by simpa [isT] using h9)
theorem item_fits {r : Nat} (l : List Tok) (u : Option Tok) : Fits 0 l (itemP x sz (levelP x sz r) l u) := itemP_fits (levelP_fits r) l u
def LoopT (E : Env) (x sz : Int) (p : Nat) (h0 h : AHeap) (nest : Nat) (v : AV) : Res (List StepA) → Prop
  | .ok (t, l', u') => ∃ h' v', (∀ F, mask k49_0 F = s49_0 (.ref p 0) v → EvCode E (.loop k49_0 l49_0) F h = some (.exit 0, x49_0 v', h')) ∧ GrowF h0.toks.length h' 6 (t.flatMap StepA.cs) t.length v' ∧ PS x sz (sty x) p h' nest l' u' ∧ Stay p h0 h'
  | .error e => ∃ h' F', (∀ F, mask k49_0 F = s49_0 (.ref p 0) v → EvCode E (.loop k49_0 l49_0) F h = some (.panic (errV e), F', h')) ∧ F'.ds = [] ∧ Stay p h0 h'
set_option maxHeartbeats 2000000 in
theorem loop_ok (H : Has 49 E) (hx : 1 ≤ x ∧ x ≤ 5) {r : Nat} (hr : nest + r = 32) (D : Deeper E x sz p nest r) {h0 : AHeap} : ∀ (f : Nat) (l : List Tok) (t : List StepA) (u : Option Tok) (h : AHeap) (v : AV),
    l.length ≤ f → 1 ≤ t.length → t.length + l.length < 900000 → PS x sz (sty x) p h nest l u → GrowF h0.toks.length h 6 (t.flatMap StepA.cs) t.length v → Stay p h0 h → LoopT E x sz p h0 h nest v (loopP x sz (levelP x sz r) f t l u) := by
  intro f
  induction f with
  | zero =>
    intro l t u h v hf ht hl S G K
    have : l = [] := List.length_eq_zero_iff.1 (by omega)
    subst this
    have m4 := may_not (H.to 68) S (k := 4) rfl
    have m5 := may_not (H.to 68) S (k := 5) rfl
    refine ⟨h, v, fun F hF => ?_, G, S, K⟩
    rw [EvCode_loop, hF]
    simp [l49_0, s49_0, m4, m5, x49_0]
  | succ f ih =>
    intro l t u h v hf ht hl S G K
    cases l with
    | nil =>
      have m4 := may_not (H.to 68) S (k := 4) rfl
      have m5 := may_not (H.to 68) S (k := 5) rfl
      refine ⟨h, v, fun F hF => ?_, G, S, K⟩
      rw [EvCode_loop, hF]
      simp [l49_0, s49_0, m4, m5, x49_0]
    | cons k m =>
      simp only [List.length_cons] at hf hl
      simp only [loopP]
      split
      · rename_i hk
        have one : ∃ (g : AHeap) (o : Int), (if k.kind == 4 then (3 : Int) else 4) = o ∧ PS x sz (sty x) p g nest m u ∧ Stay p h g ∧
            ((o = 3 ∧ EvCall E (.fn (.func 68) [] []) [.ref p 0, .int .i64 4] h = some (.ret (.bool true), g)) ∨
             (o = 4 ∧ EvCall E (.fn (.func 68) [] []) [.ref p 0, .int .i64 4] h = some (.ret (.bool false), h) ∧ EvCall E (.fn (.func 68) [] []) [.ref p 0, .int .i64 5] h = some (.ret (.bool true), g))) := by
          cases h4 : k.kind == 4 with
          | true =>
            obtain ⟨g, e, S1, K1⟩ := may_ok (H.to 68) S (k := 4) (by simpa using h4)
            exact ⟨g, 3, by simp, S1, K1, .inl ⟨rfl, e⟩⟩
          | false =>
            have h5 : (k.kind == 5) = true := by simpa [h4] using hk
            have m4 := may_not (H.to 68) S (k := 4) h4
            obtain ⟨g, e, S1, K1⟩ := may_ok (H.to 68) S (k := 5) (by simpa using h5)
            exact ⟨g, 4, by simp, S1, K1, .inr ⟨rfl, m4, e⟩⟩
        obtain ⟨g, o, ho, S1, K1, hc⟩ := one
        rw [ho]
        have q := item_ok (H.to 69) hx hr D S1 (by omega)
        have fit := item_fits (x := x) (sz := sz) (r := r) m u
        have G1 := G.keep K1
        have KK := K.trans K1
        cases hi : itemP x sz (levelP x sz r) m u with
        | error e =>
          rw [hi] at q
          obtain ⟨g2, e2, K2⟩ := q
          have fin : (∃ F', EvCode E l49_0 (s49_0 (.ref p 0) v) h = some (.panic (errV e), F', g2) ∧ F'.ds = []) := by
            rcases hc with ⟨rfl, c1⟩ | ⟨rfl, c1, c2⟩
            · simp [l49_0, s49_0, c1, e2]
            · simp [l49_0, s49_0, c1, c2, e2]
          obtain ⟨F', b1, b2⟩ := fin
          exact ⟨g2, F', fun F hF => by rw [EvCode_loop, hF, b1]; rfl, b2, KK.trans K2⟩
        | ok w =>
          obtain ⟨t', l', u'⟩ := w
          rw [hi] at q fit
          simp only [Fits] at fit
          obtain ⟨g2, v1, e2, G2, S2, K2⟩ := q
          obtain ⟨hs, hsl⟩ := G2.slice (g := g2)
          obtain ⟨ts, v2, a1, G3, K3, ht1⟩ := growF_app (bytes := 56) (G1.keep K2) rfl (KK.trans K2) S2.rot (by omega) ht (by omega) (by omega) hs hsl (all_flat StepA.all _)
          have S3 := S2.toks ht1
          have hs2 : sliceCells (g2.toks_ ts) 6 (.vs .full 1 (StepA.cs ⟨o, -1, 0, 0, 0, []⟩)) = some (1, StepA.cs ⟨o, -1, 0, 0, 0, []⟩) := by simp [sliceCells, StepA.len]
          obtain ⟨us, v3, a2, G4, K4, ht2⟩ := growF_app (bytes := 56) G3 rfl K3 S3.rot (by omega) (by omega) (by omega) (by omega) hs2 (by simp [StepA.len]) (StepA.all _)
          have S4 := S3.toks ht2
          have L := ih l' (t ++ t' ++ [⟨o, -1, 0, 0, 0, []⟩]) u' ((g2.toks_ ts).toks_ us) v3 (by omega) (by simp only [List.length_append, List.length_cons, List.length_nil]; omega) (by simp only [List.length_append, List.length_cons, List.length_nil]; omega) S4 (by simpa [Nat.add_assoc] using G4) K4
          simp only [StepA.cs] at a2
          show LoopT E x sz p h0 h nest v (loopP x sz (levelP x sz r) f (t ++ t' ++ [⟨o, -1, 0, 0, 0, []⟩]) l' u')
          cases hL : loopP x sz (levelP x sz r) f (t ++ t' ++ [⟨o, -1, 0, 0, 0, []⟩]) l' u' with
          | error e =>
            rw [hL] at L
            obtain ⟨h', F', b1, b2, b3⟩ := L
            refine ⟨h', F', fun F hF => ?_, b2, b3⟩
            rw [EvCode_loop, hF]
            generalize EvCode E (.loop k49_0 l49_0) = lp at b1 ⊢
            rcases hc with ⟨rfl, c1⟩ | ⟨rfl, c1, c2⟩
            · simp [-den, l49_0, s49_0, c1, e2, a1, a2]
              exact b1 _ (by simp [s49_0])
            · simp [-den, l49_0, s49_0, c1, c2, e2, a1, a2]
              exact b1 _ (by simp [s49_0])
          | ok z =>
            obtain ⟨tt, ll, uu⟩ := z
            rw [hL] at L
            obtain ⟨h', v', b1, b2, b3, b4⟩ := L
            refine ⟨h', v', fun F hF => ?_, b2, b3, b4⟩
            rw [EvCode_loop, hF]
            generalize EvCode E (.loop k49_0 l49_0) = lp at b1 ⊢
            rcases hc with ⟨rfl, c1⟩ | ⟨rfl, c1, c2⟩
            · simp [-den, l49_0, s49_0, c1, e2, a1, a2]
              exact b1 _ (by simp [s49_0])
            · simp [-den, l49_0, s49_0, c1, c2, e2, a1, a2]
              exact b1 _ (by simp [s49_0])
      · rename_i hk
        have h4 : isT 4 (k :: m) = false := by
          cases h : isT 4 (k :: m)
          · rfl
          · exact absurd (by simp [show (k.kind == 4) = true from h]) hk
        have h5 : isT 5 (k :: m) = false := by
          cases h : isT 5 (k :: m)
          · rfl
          · exact absurd (by simp [show (k.kind == 5) = true from h]) hk
        have m4 := may_not (H.to 68) S h4
        have m5 := may_not (H.to 68) S h5
        refine ⟨h, v, fun F hF => ?_, G, S, K⟩
        rw [EvCode_loop, hF]
        simp [l49_0, s49_0, m4, m5, x49_0]
theorem main_ok (H : Has 49 E) (hx : 1 ≤ x ∧ x ≤ 5) {r : Nat} (hr : nest + r = 32) (D : Deeper E x sz p nest r) (S : PS x sz (sty x) p h nest l u) (hl : l.length < 900000) :
    Tells E x sz (sty x) p h nest 49 [.ref p 0] (mainP x sz (levelP x sz r) l u) := by
  have start_ : ∃ g b l1, isT 5 l = b ∧ (if isT 5 l then l.tail else l) = l1 ∧ l1.length + (if b then 1 else 0) = l.length ∧ EvCall E (.fn (.func 68) [] []) [.ref p 0, .int .i64 5] h = some (.ret (.bool b), g) ∧ PS x sz (sty x) p g nest l1 u ∧ Stay p h g := by
    cases h5 : isT 5 l with
    | false => exact ⟨h, false, l, rfl, by simp, by simp, may_not (H.to 68) S h5, S, Stay.refl _ _⟩
    | true =>
      cases l with
      | nil => cases h5
      | cons k m =>
        obtain ⟨g, e, S1, K1⟩ := may_ok (H.to 68) S (k := 5) (by simpa [isT] using h5)
        exact ⟨g, true, m, rfl, by simp, by simp, e, S1, K1⟩
  obtain ⟨g, b, l1, h5, hl1, hll, e1, S1, K1⟩ := start_
  have q := item_ok (H.to 69) hx hr D S1 (by omega)
  have fit := item_fits (x := x) (sz := sz) (r := r) l1 u
  unfold mainP
  rw [hl1, h5]
  cases hi : itemP x sz (levelP x sz r) l1 u with
  | error e =>
    rw [hi] at q
    obtain ⟨g2, e2, K2⟩ := q
    refine ⟨g2, ?_, K1.trans K2⟩
    rw [EvCall_open H.c49 rfl, EvFn_eq]
    simp [f49, start, e1, e2]
  | ok w =>
    obtain ⟨t, l', u'⟩ := w
    rw [hi] at q fit
    simp only [Fits] at fit
    obtain ⟨g2, v1, e2, G2, S2, K2⟩ := q
    have KK := K1.trans K2
    have G2' := G2.low (k1 := h.toks.length) K1.tlen
    have mid : ∃ (hh : AHeap) (vv : AV), (∀ (c : Fr → AHeap → Out) (F : Fr), True) ∧ GrowF h.toks.length hh 6 ((if b then t ++ [⟨5, -1, 0, 0, 0, []⟩] else t).flatMap StepA.cs) (if b then t ++ [⟨5, -1, 0, 0, 0, []⟩] else t).length vv ∧ PS x sz (sty x) p hh nest l' u' ∧ Stay p h hh ∧
        ((b = false ∧ hh = g2 ∧ vv = v1) ∨ (b = true ∧ ∃ ts, hh = g2.toks_ ts ∧ appendA 6 56 g2 (den v1) (.vs .full 1 (StepA.cs ⟨5, -1, 0, 0, 0, []⟩)) = some (vv, g2.toks_ ts))) := by
      cases b with
      | false => exact ⟨g2, v1, fun _ _ => trivial, G2', S2, KK, .inl ⟨rfl, rfl, rfl⟩⟩
      | true =>
        have hs2 : sliceCells g2 6 (.vs .full 1 (StepA.cs ⟨5, -1, 0, 0, 0, []⟩)) = some (1, StepA.cs ⟨5, -1, 0, 0, 0, []⟩) := by simp [sliceCells, StepA.len]
        obtain ⟨ts, v2, a1, G3, K3, ht1⟩ := growF_app (bytes := 56) G2' rfl KK S2.rot (by omega) fit.2 (by omega) (by omega) hs2 (by simp [StepA.len]) (StepA.all _)
        exact ⟨g2.toks_ ts, v2, fun _ _ => trivial, by simpa using G3, S2.toks ht1, K3, .inr ⟨rfl, ts, rfl, a1⟩⟩
    obtain ⟨hh, vv, _, G3, S3, K3, hm⟩ := mid
    simp only [StepA.cs] at hm
    have hlen : (if b then t ++ [(⟨5, -1, 0, 0, 0, []⟩ : StepA)] else t).length = t.length + (if b then 1 else 0) := by cases b <;> simp
    have L := loop_ok H hx hr D (h0 := h) l'.length l' _ u' hh vv (Nat.le_refl _) (by rw [hlen]; omega) (by rw [hlen]; omega) S3 G3 K3
    simp only
    cases hL : loopP x sz (levelP x sz r) l'.length (if b then t ++ [⟨5, -1, 0, 0, 0, []⟩] else t) l' u' with
    | error e =>
      rw [hL] at L
      obtain ⟨h', F', b1, b2, b3⟩ := L
      refine ⟨h', ?_, b3⟩
      rw [EvCall_open H.c49 rfl, EvFn_eq]
      rcases hm with ⟨rfl, rfl, rfl⟩ | ⟨rfl, ts, rfl, hm⟩
      · simp [f49, start, e1, e2]
        rw [b1 _ (by simp [s49_0])]
        simp [b2]
      · simp [-den, f49, start, e1, e2, hm]
        rw [b1 _ (by simp [s49_0])]
        simp [b2]
    | ok z =>
      obtain ⟨tt, ll, uu⟩ := z
      rw [hL] at L
      obtain ⟨h', v', b1, b2, b3, b4⟩ := L
      refine ⟨h', v', ?_, b2, b3, b4⟩
      rw [EvCall_open H.c49 rfl, EvFn_eq]
      rcases hm with ⟨rfl, rfl, rfl⟩ | ⟨rfl, ts, rfl, hm⟩
      · simp [f49, start, e1, e2]
        rw [b1 _ (by simp [s49_0])]
        simp [x49_0]
      · simp [-den, f49, start, e1, e2, hm]
        rw [b1 _ (by simp [s49_0])]
        simp [x49_0]
theorem main_any (H : Has 49 E) (hx : 1 ≤ x ∧ x ≤ 5) : ∀ (r nest : Nat), nest + r = 32 → ∀ h l u, PS x sz (sty x) p h nest l u → l.length < 900000 → Tells E x sz (sty x) p h nest 49 [.ref p 0] (mainP x sz (levelP x sz r) l u)
  | 0, nest, hr => fun h l u S hl => main_ok H hx hr (fun r' h0 => by cases h0) S hl
  | r + 1, nest, hr => fun h l u S hl => main_ok H hx hr (fun r' h0 g l u S hl => by
      have : r' = r := by omega
      subst this
      exact main_any H hx r' (nest + 1) (by omega) g l u S hl) S hl
end Go.Pv
/- Tokens: what AppendSeq of a text's tokens comes to. Conditions: the functions' codes; theorems. -/
namespace Go.Pv
variable {E : Env}
theorem seq_round {h : AHeap} {t : List AV} {k : Tok} {done : List Tok} {v : AV} (hl : h.bl 4 = some (.loop .ready none t [7] a31_0 b31_0)) (hro : h.ro = 0) (ht : t.length = 13) (h2 : t[2]? = some (.ref 3 0))
    (h1 : h.bl 3 = some (.cells [v])) (hg : Grow h 4 (done.flatMap Tok.cs) done.length v) (hr : h.rot ≤ h.toks.length) (hd : done.length < 1000000) :
    ∃ ts v', EvCall E (.fn (.yield 4) [] []) (tokArgs k) h = some (.ret (.bool true), ((((h.push (.cells k.cs)).setBlk 4 (.loop .busy none t [7] a31_0 b31_0)).toks_ ts).setBlk 3 (.cells [v'])).setBlk 4 (.loop .ready none t [7] a31_0 b31_0)) ∧
      Grow (h.toks_ ts) 4 ((done ++ [k]).flatMap Tok.cs) (done ++ [k]).length v' ∧ h.toks.length ≤ ts.length := by
  obtain ⟨ts, v', e1, g1, r1⟩ := grow_app (h := (h.push (.cells k.cs)).setBlk 4 (.loop .busy none t [7] a31_0 b31_0)) (bytes := 40) (m := 1) (xs := k.cs) (hg.of_heap (by rfl) (by rfl)) (by exact hr) (by omega) (by omega) (by omega) rfl (Tok.all _)
  refine ⟨ts, v', ?_, ?_, r1⟩
  · have hm1 := g1.cells
    unfold AV.cells? at hm1
    simp only [Tok.cs] at e1
    simp only [tokArgs, Tok.cs]
    rw [EvCall_yield, EvRound_eq (h := h) hl rfl]
    have hne := blk_ne hl
    have hne1 := blk_ne h1
    simp only [a31_0, b31_0] at hl e1
    simp [-den, -getElem?_pos, a31_0, b31_0, setAll, beginRd, endRd, hl, hro, h1, h2, ht, push_set, hne, hne1, e1, hm1, g1.cell, bl_toks, ro_toks]
  · have := g1.of_heap (h' := h.toks_ ts) rfl rfl
    simpa using this
structure SeqGood (x : Int) (s : List UInt8) (t : List AV) (b0 : ABlk) (all rest : List Tok) (h : AHeap) : Prop where
  rec_ : h.bl 4 = some (.loop .ready none t [7] a31_0 b31_0)
  c0 : h.bl 0 = some b0
  c1 : h.bl 1 = some (.cells [.int .i64 x])
  c2 : h.bl 2 = some (.cells [.str s])
  ro : h.ro = 0
  rot : h.rot ≤ h.toks.length
  len : 5 ≤ h.blks.length
  out : ∃ done v, done ++ rest = all ∧ h.bl 3 = some (.cells [v]) ∧ Grow h 4 (done.flatMap Tok.cs) done.length v
theorem seq_yields {x : Int} {s : List UInt8} {t : List AV} {b0 : ABlk} {all : List Tok} (ht : t.length = 13) (h2 : t[2]? = some (.ref 3 0)) (hall : all.length < 1000000) :
    YieldsL E (.fn (.yield 4) [] []) 5 tokArgs (SeqGood x s t b0 all) where
  len := fun l h hg => hg.len
  ro := fun l h hg => by rw [hg.ro]; omega
  call := fun k l h hg => by
    obtain ⟨done, v, hd, h1, hgr⟩ := hg.out
    have hlen : done.length < 1000000 := by
      have := congrArg List.length hd
      simp at this
      omega
    obtain ⟨ts, v', q1, q2, q3⟩ := seq_round (k := k) hg.rec_ hg.ro ht h2 h1 hgr hg.rot hlen
    have hl := hg.len
    refine ⟨_, q1, ⟨?_, ?_, ?_, ?_, hg.ro, ?_, ?_, done ++ [k], v', by simpa using hd, ?_, ?_⟩, ⟨fun j h1 h2 => ?_, ?_, ?_, ?_⟩⟩
    · simp [bl_toks, hg.rec_, blk_ne hg.rec_]
    · simp [bl_toks, hg.c0, blk_ne hg.c0]
    · simp [bl_toks, hg.c1, blk_ne hg.c1]
    · simp [bl_toks, hg.c2, blk_ne hg.c2]
    · exact Nat.le_trans hg.rot q3
    · simp [len_toks]; omega
    · simp [bl_toks, h1, blk_ne h1]
    · exact Grow.of_heap q2 (by rfl) (by rfl)
    · rw [bl_set, if_neg (by omega), bl_set, if_neg (by omega), bl_toks, bl_set, if_neg (by omega), bl_push, if_neg (by omega)]
    · simp [len_toks]
    · rfl
    · rfl
  keep := fun l h h' hg o => ⟨(o.old 4 (by omega)).trans hg.rec_, (o.old 0 (by omega)).trans hg.c0, (o.old 1 (by omega)).trans hg.c1, (o.old 2 (by omega)).trans hg.c2, o.ro.trans hg.ro, by rw [o.rot, o.toks]; exact hg.rot, Nat.le_trans hg.len o.len, by
    obtain ⟨done, v, hd, h1, hgr⟩ := hg.out
    exact ⟨done, v, hd, (o.old 3 (by omega)).trans h1, hgr.of_heap o.toks o.rot⟩⟩
theorem seq_eq (H : Has 31 E) (H46 : Has 46 E) (x : Int) (s : List UInt8) (hs : s.length < 900000) (b0 : ABlk) :
    ∃ h' v, EvCall E (.fn (.func 31) [] []) [.nils, .fn (.func 46) [] [.ref 2 0, .ref 1 0]] (((heap0.push b0).push (.cells [.int .i64 x])).push (.cells [.str s])) = some (.ret v, h') ∧ Grow h' 4 ((lexS x s).1.flatMap Tok.cs) (lexS x s).1.length v ∧ h'.bl 0 = some b0 ∧ h'.ro = 0 ∧ h'.rot ≤ h'.toks.length := by
  rw [EvCall_open H.c31 rfl, EvFn_eq]
  obtain ⟨t, ht⟩ : ∃ t, ([.nils, .fn (.func 46) [] [.ref 2 0, .ref 1 0], .ref 3 0, .junk, .nils, .junk, .fn (.func 46) [] [.ref 2 0, .ref 1 0], .junk, .junk, .junk, .junk, .junk, .junk] : List AV) = t := ⟨_, rfl⟩
  obtain ⟨g, hg⟩ : ∃ g, ((((heap0.push b0).push (.cells [.int .i64 x])).push (.cells [.str s])).push (.cells [.nils])).push (.loop .ready none t [7] a31_0 b31_0) = g := ⟨_, rfl⟩
  have hll := lexF_len x s.length s 0
  have hS : lexF x s.length s 0 = lexS x s := rfl
  rw [hS] at hll
  obtain ⟨h', q1, q2, q3⟩ := each46_range H46 x (seq_yields (x := x) (s := s) (t := t) (b0 := b0) (all := (lexS x s).1) (by rw [← ht]; rfl) (by rw [← ht]; rfl) (by omega)) (fun l h hh => hh.c2) (fun l h hh => hh.c1) hs g
    ⟨by rw [← hg]; simp, by rw [← hg]; simp, by rw [← hg]; simp, by rw [← hg]; simp, by rw [← hg]; rfl, by rw [← hg]; simp [heap0, AHeap.push], by rw [← hg]; simp, [], .nils, rfl, by rw [← hg]; simp, grow_nil _ _⟩
  obtain ⟨done, v, hd, h1, hgr⟩ := q2.out
  rw [List.append_nil] at hd
  subst hd
  have hrec := q2.rec_
  have hro := q2.ro
  refine ⟨h'.setBlk 4 .dead, v, ?_, hgr.of_heap rfl rfl, by simp [q2.c0], hro, q2.rot⟩
  simp [f31, start]
  rw [EvCode_rangeFunc (j := 46) (first := []) (caps := [.ref 2 0, .ref 1 0]) rfl (by simp)]
  simp
  rw [ht, hg, q1]
  simp [endRange, hro, hrec, h1, ← ht]
end Go.Pv
/- The tree of tokens, and of a text. Conditions: the functions' codes; theorems. -/
namespace Go.Pv
variable {E : Env} {x sz : Int}
theorem growF_shut {k0 : Nat} {h : AHeap} {t : List StepA} {v : AV} (g : GrowF k0 h 6 (t.flatMap StepA.cs) t.length v) : shut 0 0 v = some (stepsV t) := by
  have hs := shutL_flat (n := 0) (t := 0) (f := StepA.cs) (fun s => s.shut) t
  rcases g with ⟨h1, rfl, _⟩ | ⟨k, rfl, _, _, _, _, h5⟩
  · have he : t.isEmpty = false := by
      cases t with
      | nil => simp at h1
      | cons a t => rfl
    simp [stepsV, he, hs, h1]
  · have he : t.isEmpty = false := by
      cases t with
      | nil => simp at h5
      | cons a t => rfl
    have h1 : ¬ t.length = 1 := by omega
    simp [stepsV, he, hs, h1]
theorem stepsV_shut (t : List StepA) : shut 0 0 (stepsV t) = some (stepsV t) := by
  have hs := shutL_flat (n := 0) (t := 0) (f := StepA.cs) (fun s => s.shut) t
  unfold stepsV
  split
  · simp
  · split <;> simp [hs]
theorem stepsV_cell (t : List StepA) : (stepsV t).isCell = true := by
  unfold stepsV
  split <;> rfl
theorem def_none (H : Has 48 E) {h : AHeap} (hro : h.ro = 0) : EvDef E 48 [.ref 0 0] none h = some (none, h.push (.cells [.int .i64 0, .int .i64 0])) := by
  rw [EvDef_eq H.c48]
  simp [f48, push_set, hro]
theorem def_some (H : Has 48 E) {h : AHeap} {a b c d : AV} (hb : h.bl 0 = some (.cells [a, b, c, d])) (hro : h.ro = 0) (e : PErr) :
    EvDef E 48 [.ref 0 0] (some (errV e)) h = some (none, (h.push (.cells [.int .i64 e.1, .int .i64 e.2])).setBlk 0 (.cells [.nils, .int .i64 e.1, .int .i64 e.2, .int .i64 0])) := by
  have n0 := blk_ne hb
  rw [EvDef_eq H.c48]
  simp [f48, push_set, hro, errV, n0, hb]
theorem toksV_rest (l : List Tok) : RestV (toksV l) l := by
  cases l with
  | nil => exact .inl ⟨rfl, rfl⟩
  | cons t l => exact .inr rfl
theorem toksV_cell (l : List Tok) : (toksV l).isCell = true := by cases l <;> rfl
theorem toksV_cells (l : List Tok) : (toksV l).cells? = some [toksV l] := by cases l <;> rfl
def heapP (x sz : Int) (lv : AV) : AHeap := ((heap0.push (.cells [.nils, .int .i64 0, .int .i64 0, .int .i64 0])).push (.cells (sty x).cs)).push (parsB x sz 0 (sty x) lv .nilp)
theorem ps_first (l : List Tok) : PS x sz (sty x) 2 (heapP x sz (toksV l)) 0 l none :=
  ⟨⟨toksV l, .nilp, by simp [heapP], toksV_rest l, rfl⟩, rfl, Nat.le_refl _⟩
theorem sty_cl (y : Sty) : y.cs = [.bool y.fold, b8 y.mul, b8 y.div, b8 y.pow, b8 y.opn, b8 y.cls] := rfl
theorem len_eq {y : Sty} {h : AHeap} {l : List Tok} {u : Option Tok} {p n : Nat} (S : PS x sz y p h n l u) : ∃ lv uv, h.bl p = some (.cells [.int .i64 x, .int .i64 sz, .int .i64 n, .bool y.fold, b8 y.mul, b8 y.div, b8 y.pow, b8 y.opn, b8 y.cls, lv, uv]) ∧ ((l = [] ∧ lv = .nils) ∨ lv = restV l) ∧ UnkV p h uv u := by
  obtain ⟨⟨lv, uv, h1, h2, h3⟩, _⟩ := S
  exact ⟨lv, uv, h1, h2, h3⟩
set_option maxHeartbeats 2000000 in
theorem tree_eq (H : Has 33 E) (hx : isN x = true) (l : List Tok) (hl : l.length < 900000) {lv : AV} (hlv : shut 0 0 lv = some (toksV l)) :
    EvClosed E (.fn (.func 33) [] []) [.int .i64 x, lv, .int .i64 sz] = some (.agg (treeP x sz l).cs) := by
  rw [EvClosed_eq H.c33 rfl (vs := [.int .i64 x, toksV l, .int .i64 sz]) (by simp [hlv]), EvFn_eq]
  have hof := of_eq (H.to 44) x
  rw [hx, sty_cl] at hof
  have hx' : 1 ≤ x ∧ x ≤ 5 := by simpa [isN] using hx
  have q := main_any (H.to 49) hx' 32 0 (by omega) _ l none (ps_first (x := x) (sz := sz) l) hl
  have hcl := toksV_cells l
  unfold AV.cells? at hcl
  have hhp : heapP x sz (toksV l) = ((heap0.push (.cells [.nils, .int .i64 0, .int .i64 0, .int .i64 0])).push (.cells [.bool (sty x).fold, b8 (sty x).mul, b8 (sty x).div, b8 (sty x).pow, b8 (sty x).opn, b8 (sty x).cls])).push (.cells [.int .i64 x, .int .i64 sz, .int .i64 0, .bool (sty x).fold, b8 (sty x).mul, b8 (sty x).div, b8 (sty x).pow, b8 (sty x).opn, b8 (sty x).cls, toksV l, .nilp]) := rfl
  have hb0 : (heapP x sz (toksV l)).bl 0 = some (.cells [.nils, .int .i64 0, .int .i64 0, .int .i64 0]) := by simp [heapP]
  have hl0 : 0 < (heapP x sz (toksV l)).blks.length := by simp [heapP]
  unfold treeP
  cases hm : mainP x sz (levelP x sz 32) l none with
  | error e =>
    rw [hm] at q
    obtain ⟨h', e1, K⟩ := q
    have hb : h'.bl 0 = some (.cells [.nils, .int .i64 0, .int .i64 0, .int .i64 0]) := (K.bl 0 (by omega) hl0).trans hb0
    have hro : h'.ro = 0 := K.ro
    have n0 := blk_ne hb
    have hd := def_some (H.to 48) hb hro e
    rw [hhp] at e1
    simp [f33, start, EvCall_closed H.c44 rfl, hof, push_setk, hcl, e1, hd, n0, hb, Psd.cs, stepsV]
  | ok w =>
    obtain ⟨t, l', u'⟩ := w
    rw [hm] at q
    obtain ⟨h', v, e1, G, S, K⟩ := q
    have hb : h'.bl 0 = some (.cells [.nils, .int .i64 0, .int .i64 0, .int .i64 0]) := (K.bl 0 (by omega) hl0).trans hb0
    have hro : h'.ro = 0 := K.ro
    have n0 := blk_ne hb
    rw [hhp] at e1
    obtain ⟨lw, uw, c1, c2, c3⟩ := len_eq S
    have hro2 : ∀ y, (h'.setBlk 0 y).ro = 0 := fun y => hro
    have dn := fun y => def_none (H.to 48) (hro2 y)
    cases l' with
    | cons k m =>
      have mb := must_bad (H.to 50) S
      have hd := def_some (H.to 48) hb hro (14, k.pos)
      have c2' : lw = restV (k :: m) := by
        rcases c2 with ⟨q, _⟩ | q
        · cases q
        · exact q
      subst c2'
      have hlt : ((m.length : Int) + 1 == 0) = false := by simp; omega
      simp only [atT] at mb
      simp only [restV] at c1
      simp [f33, start, EvCall_closed H.c44 rfl, hof, push_setk, hcl, e1, c1, hlt, mb, hd, n0, hb, Psd.cs, stepsV]
    | nil =>
      have mo := must_ok (E := E) (p := 2) (H.to 50) h'
      have hv := growF_shut G
      have hvc := G.cell
      have hvs := G.cells
      unfold AV.cells? at hvs
      have c2' : lw = .nils ∨ lw = .vs .shared 0 [] := by
        rcases c2 with ⟨_, q⟩ | q
        · exact .inl q
        · exact .inr q
      cases u' with
      | none =>
        have c3' : uw = .nilp := c3
        subst c3'
        rcases c2' with rfl | rfl <;> simp [f33, start, EvCall_closed H.c44 rfl, hof, push_setk, hcl, e1, c1, mo, dn, n0, hb, hro, hvc, hvs, hv, Psd.cs]
      | some tk =>
        obtain ⟨b, hb1, hb2, hb3⟩ := c3
        subst hb1
        simp only [Tok.cs] at hb3
        rcases c2' with rfl | rfl <;> simp [f33, start, EvCall_closed H.c44 rfl, hof, push_setk, hcl, e1, c1, mo, dn, n0, hb, hro, hb3, Psd.cs, stepsV]
set_option maxHeartbeats 2000000 in
theorem parse_eq (H : Has 20 E) (x : Int) (s : List UInt8) (hs : s.length < 900000) : EvClosed E (.fn (.func 20) [] []) [.int .i64 x, .str s] = some (.agg (parseP x s).cs) := by
  rw [EvClosed_eq H.c20 rfl (vs := [.int .i64 x, .str s]) (by simp), EvFn_eq]
  have hlx := lex_eq (H.to 30) x s hs
  unfold lexR at hlx
  unfold parseP
  cases hn : isN x with
  | false =>
    rw [hn] at hlx
    simp only [Bool.false_eq_true, if_false] at hlx ⊢
    simp only [toksV, List.isEmpty_nil, if_true] at hlx
    simp [f20, start, EvCall_closed H.c30 rfl, hlx, Psd.cs, stepsV, push_setk]
  | true =>
    rw [hn] at hlx
    simp only [if_true] at hlx ⊢
    by_cases h255 : s.length ≤ 255
    · simp only [if_pos h255] at hlx ⊢
      have hlen := lexF_len x s.length s 0
      have e : lexF x s.length s 0 = lexS x s := rfl
      rw [e] at hlen
      by_cases hend : (lexS x s).2 < s.length
      · simp only [if_pos hend] at hlx ⊢
        simp only [toksV, List.isEmpty_nil, if_true] at hlx
        obtain ⟨h', v, e1, G, hb, hro, hrot⟩ := seq_eq (H.to 31) (H.to 46) x s hs (.cells [.nils, .int .i64 0, .int .i64 0, .int .i64 0])
        have e0 := fun h => each32_eq (H.to 32) (x := x) (s := s) (h := h)
        obtain ⟨ts, v', a1, G2, ht⟩ := grow_app (h := h') (bytes := 40) (m := 1) (xs := Tok.cs ⟨0, (lexS x s).2, [], 0⟩) G hrot (by omega) (by omega) (by omega) rfl (Tok.all _)
        have hsh := grow_shut (l := (lexS x s).1 ++ [⟨0, (lexS x s).2, [], 0⟩]) (by simpa using G2)
        have ht2 := tree_eq (H.to 33) (sz := s.length) hn ((lexS x s).1 ++ [⟨0, (lexS x s).2, [], 0⟩]) (by simp; omega) hsh
        simp only [Tok.cs] at a1
        have n0 := blk_ne hb
        generalize treeP x s.length ((lexS x s).1 ++ [⟨0, (lexS x s).2, [], 0⟩]) = q at ht2 ⊢
        have qs := stepsV_shut q.tree
        have qc := stepsV_cell q.tree
        simp only [Psd.cs] at ht2 ⊢
        simp [-den, f20, start, EvCall_closed H.c30 rfl, EvCall_closed H.c33 rfl, hlx, e0, e1, a1, ht2, bl_toks, ro_toks, hb, hro, qs, qc]
      · simp only [if_neg hend] at hlx ⊢
        have ht2 := tree_eq (H.to 33) (sz := s.length) hn (lexS x s).1 (by omega) (toksV_shut _)
        generalize treeP x s.length (lexS x s).1 = q at ht2 ⊢
        have qs := stepsV_shut q.tree
        have qc := stepsV_cell q.tree
        simp only [Psd.cs] at ht2 ⊢
        simp [f20, start, EvCall_closed H.c30 rfl, EvCall_closed H.c33 rfl, hlx, ht2, qs, qc]
    · simp only [if_neg h255] at hlx ⊢
      simp only [toksV, List.isEmpty_nil, if_true] at hlx
      simp [f20, start, EvCall_closed H.c30 rfl, hlx, Psd.cs, stepsV, push_setk]
end Go.Pv
/- Rows of steps, and whether two of them are the same. Conditions: the functions' codes; theorems. -/
namespace Go.Pv
variable {E : Env} {x : Int}
def TreeV (v : AV) (t : List StepA) : Prop := (v = .nils ∧ t = []) ∨ ∃ own, v = .vs own t.length (t.flatMap StepA.cs)
theorem stepsV_tree (t : List StepA) : TreeV (stepsV t) t := by
  unfold stepsV
  cases t with
  | nil => exact .inl ⟨rfl, rfl⟩
  | cons a t => exact .inr ⟨_, rfl⟩
theorem flat_eq (a b : StepA) : eqCells [.int, .int, .int, .int, .int, .str] a.cs b.cs = some (decide (a = b)) := by
  obtain ⟨a1, a2, a3, a4, a5, a6⟩ := a
  obtain ⟨b1, b2, b3, b4, b5, b6⟩ := b
  simp only [StepA.cs, eqCells, eqCellK, if_true]
  congr 1
  rw [Bool.eq_iff_iff]
  simp only [Bool.and_eq_true, beq_iff_eq, decide_eq_true_eq, StepA.mk.injEq, Bool.and_true]
theorem same_loop (a b : List StepA) {own own2 : Own} (hab : a.length = b.length) (hsm : a.length < 1000000) {h : AHeap} : ∀ (m i : Nat), i + m = a.length → a.take i = b.take i → ∀ F, mask k160_0 F = s160_0 (.vs own a.length (a.flatMap StepA.cs)) (.vs own2 a.length (b.flatMap StepA.cs)) (.int .i64 i) →
    EvCode E (.loop k160_0 l160_0) F h = some (if a = b then (.exit 0, x160_0, h) else (.ret, r160 (.bool false), h))
  | 0, i, hi, ht, F, hF => by
    have : i = a.length := by omega
    subst this
    have hq : a = b := by
      rw [List.take_length] at ht
      rw [ht, hab, List.take_length]
    rw [EvCode_loop, hF, if_pos hq]
    simp [l160_0, s160_0, x160_0]
  | m + 1, i, hi, ht, F, hF => by
    have hlt : i < a.length := by omega
    have hlt2 : i < b.length := by omega
    have ih := same_loop a b (own := own) (own2 := own2) hab hsm (h := h) m (i + 1) (by omega)
    have ea : ((a.flatMap StepA.cs).drop (i * 6)).take 6 = a[i].cs := fm_el StepA.len hlt
    have eb : ((b.flatMap StepA.cs).drop (i * 6)).take 6 = b[i].cs := fm_el StepA.len hlt2
    have la : (a.flatMap StepA.cs).length = a.length * 6 := fm_len StepA.len a
    have lb : (b.flatMap StepA.cs).length = a.length * 6 := by rw [fm_len StepA.len b, hab]
    have hd : decide ((i : Int) < (a.length : Int)) = true := decide_eq_true (by omega)
    have h6 : 6 ≤ a.length * 6 - i * 6 := by omega
    have h60 : i * 6 < a.length * 6 := by omega
    have w : IntKind.i64.wrap ((i : Int) + 1) = (i : Int) + 1 := w64
    have hfe := flat_eq a[i] b[i]
    have hta : ∀ hq : a[i] = b[i], a.take (i + 1) = b.take (i + 1) := fun hq => by rw [List.take_succ_eq_append_getElem hlt, List.take_succ_eq_append_getElem hlt2, ht, hq]
    have hne : a[i] ≠ b[i] → a ≠ b := fun hq hab' => hq (by subst hab'; rfl)
    rw [EvCode_loop, hF]
    generalize a.flatMap StepA.cs = ca at *
    generalize b.flatMap StepA.cs = cb at *
    generalize EvCode E (.loop k160_0 l160_0) = lp at ih ⊢
    by_cases hq : a[i] = b[i]
    · rw [decide_eq_true hq] at hfe
      simp [-eqCells, l160_0, s160_0, hlt, la, lb, h6, h60, ea, eb, hfe, w]
      exact ih (hta hq) _ (by simp [s160_0])
    · rw [decide_eq_false hq] at hfe
      rw [if_neg (hne hq)]
      simp [-eqCells, l160_0, s160_0, hlt, la, lb, h6, h60, ea, eb, hfe, r160]
theorem tree_len {v : AV} {t : List StepA} (hv : TreeV v t) : (v = .nils ∧ t = []) ∨ ∃ own, v = .vs own t.length (t.flatMap StepA.cs) := hv
theorem tree_shut {v : AV} {t : List StepA} (hv : TreeV v t) : ∃ v', shut 0 0 v = some v' ∧ TreeV v' t := by
  have hs := shutL_flat (n := 0) (t := 0) (f := StepA.cs) (fun s => s.shut) t
  rcases hv with ⟨rfl, rfl⟩ | ⟨own, rfl⟩
  · exact ⟨.nils, by simp, .inl ⟨rfl, rfl⟩⟩
  · exact ⟨.vs (match own with | .tok k sz => if k < 0 then .tok k sz else .shared | o => o) t.length (t.flatMap StepA.cs), by cases own <;> simp [hs], .inr ⟨_, rfl⟩⟩
theorem same_eq (H : Has 160 E) {va vb : AV} {a b : List StepA} (ha : TreeV va a) (hb : TreeV vb b) (hla : a.length < 1000000) : EvClosed E (.fn (.func 160) [] []) [va, vb] = some (.bool (decide (a = b))) := by
  obtain ⟨va', sa, ha'⟩ := tree_shut ha
  obtain ⟨vb', sb, hb'⟩ := tree_shut hb
  rw [EvClosed_eq H.c160 rfl (vs := [va', vb']) (by simp [sa, sb]), EvFn_eq]
  by_cases hl : a.length = b.length
  · rcases ha' with ⟨rfl, rfl⟩ | ⟨o1, rfl⟩
    · have : b = [] := List.eq_nil_of_length_eq_zero hl.symm
      subst this
      rcases hb' with ⟨rfl, _⟩ | ⟨o2, rfl⟩
      · simp [f160, start]
        rw [EvCode_loop]
        simp [k160_0, l160_0]
      · simp [f160, start]
        rw [EvCode_loop]
        simp [k160_0, l160_0]
    · rcases hb' with ⟨rfl, rfl⟩ | ⟨o2, rfl⟩
      · have : a = [] := List.eq_nil_of_length_eq_zero hl
        subst this
        simp [f160, start]
        rw [EvCode_loop]
        simp [k160_0, l160_0]
      · rw [← hl]
        simp [f160, start]
        rw [same_loop a b (own := o1) (own2 := o2) hl hla a.length 0 (by omega) rfl _ (by simp [s160_0])]
        by_cases hq : a = b
        · simp [hq, x160_0]
        · simp [hq, r160]
  · have hne : ¬ a = b := fun q => hl (by rw [q])
    have hd : ((a.length : Int) != (b.length : Int)) = true := by simp; omega
    have hd0 : ∀ n : Nat, ¬ a.length = n → (((a.length : Int)) != (n : Int)) = true := fun n h => by simp; omega
    rcases ha' with ⟨rfl, rfl⟩ | ⟨o1, rfl⟩
    · rcases hb' with ⟨rfl, rfl⟩ | ⟨o2, rfl⟩
      · exact absurd rfl hl
      · have h0 : ¬ 0 = b.length := hl
        have hb0 : ¬ (0 : Int) = (b.length : Int) := by omega
        simp [f160, start, hne, hb0]
    · rcases hb' with ⟨rfl, rfl⟩ | ⟨o2, rfl⟩
      · have h0 : ¬ a.length = 0 := hl
        have hb0 : ¬ (a.length : Int) = 0 := by omega
        simp [f160, start, hne]
      · simp [f160, start, hne, hd]
end Go.Pv
