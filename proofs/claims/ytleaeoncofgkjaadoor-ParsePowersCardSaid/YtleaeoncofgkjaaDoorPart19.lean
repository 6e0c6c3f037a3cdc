/- Part 19 of the proof: what functions of the program come to. Conditions: none; definitions and theorems that the statement's proof uses. -/
import Derived.Test.YtleaeoncofgkjaaDoorPart18
/- The parser's products. Conditions: the functions' codes; theorems. -/
namespace Go.Pv
variable {E : Env} {x sz : Int} {p nest : Nat} {h : AHeap} {l : List Tok} {u : Option Tok}

theorem base_fits {r : Nat} (l : List Tok) (u : Option Tok) : Fits 0 l (baseP x sz (levelP x sz r) l u) := baseP_fits (levelP_fits r) l u
set_option maxHeartbeats 1000000 in
theorem itemB_ok (H : Has 69 E) (hx : 1 ≤ x ∧ x ≤ 5) {r : Nat} (hr : nest + r = 32) (D : Deeper E x sz p nest r) (S : PS x sz (sty x) p h nest l u) (hl : l.length < 900000) (h9 : isT 9 l = false) :
    Tells E x sz (sty x) p h nest 69 [.ref p 0] (itemB x sz (levelP x sz r) l u) := by
  have i9 := is_ok (H.to 82) S 9
  have q := base_ok (H.to 84) hx hr D S hl
  have fit := base_fits (x := x) (sz := sz) (r := r) l u
  unfold itemB
  cases hb : baseP x sz (levelP x sz r) l u with
  | error e =>
    rw [hb] at q
    obtain ⟨g, e1, K⟩ := q
    refine ⟨g, ?_, K⟩
    rw [EvCall_open H.c69 rfl, EvFn_eq]
    simp [f69, start, i9, h9, e1]
  | ok v =>
    obtain ⟨t, l', u'⟩ := v
    rw [hb] at q fit
    simp only [Fits] at fit
    obtain ⟨g, v, e1, q2, q3, q4⟩ := q
    have k9 := is_ok (H.to 82) q3 9
    have no : isT 9 l' = false → noteP (t, l', u') = .ok (t, l', u') := by
      intro hn
      cases l' with
      | nil => rfl
      | cons k m =>
        have : (k.kind == 9) = false := hn
        simp [noteP, this]
    cases hn : isT 9 l' with
    | false =>
      simp only [no hn]
      refine ⟨g, v, ?_, q2, q3, q4⟩
      rw [EvCall_open H.c69 rfl, EvFn_eq]
      simp [f69, start, i9, h9, e1, k9, hn]
    | true =>
      cases l' with
      | nil => cases hn
      | cons k m =>
        have hk : (k.kind == 9) = true := hn
        simp only [noteP, hk, if_true]
        obtain ⟨g2, e2, S2, K2⟩ := take_ok (H.to 83) q3
        have G2 := q2.keep K2
        have K3 := q4.trans K2
        simp only [List.length_cons] at fit
        have hs : sliceCells g2 6 (.vs .full 1 (StepA.cs ⟨6, -1, 0, 0, 0, k.text⟩)) = some (1, StepA.cs ⟨6, -1, 0, 0, 0, k.text⟩) := by simp [sliceCells, StepA.len]
        obtain ⟨ts, v', a1, G3, K4, hts⟩ := growF_app (bytes := 56) G2 rfl K3 S2.rot (by omega) fit.2 (by omega) (by omega) hs (by simp [StepA.len]) (StepA.all _)
        refine ⟨g2.toks_ ts, v', ?_, by simpa using G3, S2.toks hts, K4⟩
        rw [EvCall_open H.c69 rfl, EvFn_eq]
        simp only [StepA.cs] at a1
        simp only [Tok.cs] at e2
        simp [-den, f69, start, i9, h9, e1, k9, hn, e2, a1]
theorem item_ok (H : Has 69 E) (hx : 1 ≤ x ∧ x ≤ 5) {r : Nat} (hr : nest + r = 32) (D : Deeper E x sz p nest r) (S : PS x sz (sty x) p h nest l u) (hl : l.length < 900000) :
    Tells E x sz (sty x) p h nest 69 [.ref p 0] (itemP x sz (levelP x sz r) l u) := by
  cases l with
  | nil => exact itemB_ok H hx hr D S hl rfl
  | cons t l =>
    simp only [itemP]
    split
    · rename_i h9
      have j9 : isT 9 (t :: l) = true := h9
      have i9 := is_ok (H.to 82) S 9
      obtain ⟨g, e1, S1, K1⟩ := take_ok (H.to 83) S
      refine ⟨g, .vs .full 1 (StepA.cs ⟨7, -1, 0, 0, 0, t.text⟩), ?_, growF_one _ _ _, S1, K1⟩
      rw [EvCall_open H.c69 rfl, EvFn_eq]
      simp only [Tok.cs] at e1
      simp [f69, start, i9, j9, e1, StepA.cs]
    · rename_i h9
      exact itemB_ok H hx hr D S hl (by simpa [isT] using h9)
theorem item_fits {r : Nat} (l : List Tok) (u : Option Tok) : Fits 0 l (itemP x sz (levelP x sz r) l u) := itemP_fits (levelP_fits r) l u
/-- What the products' loop makes. -/
def LoopT (E : Env) (x sz : Int) (p : Nat) (h0 h : AHeap) (nest : Nat) (v : AV) : Res (List StepA) → Prop
  | .ok (t, l', u') => ∃ h' v', (∀ F, mask k49_0 F = s49_0 (.ref p 0) v → EvCode E (.loop k49_0 l49_0) F h = some (.exit 0, x49_0 v', h')) ∧ GrowF h0.toks.length h' 6 (t.flatMap StepA.cs) t.length v' ∧ PS x sz (sty x) p h' nest l' u' ∧ Stay p h0 h'
  | .error e => ∃ h' F', (∀ F, mask k49_0 F = s49_0 (.ref p 0) v → EvCode E (.loop k49_0 l49_0) F h = some (.panic (errV e), F', h')) ∧ F'.ds = [] ∧ Stay p h0 h'
set_option maxHeartbeats 2000000 in
theorem loop_ok (H : Has 49 E) (hx : 1 ≤ x ∧ x ≤ 5) {r : Nat} (hr : nest + r = 32) (D : Deeper E x sz p nest r) {h0 : AHeap} : ∀ (f : Nat) (l : List Tok) (t : List StepA) (u : Option Tok) (h : AHeap) (v : AV),
    l.length ≤ f → 1 ≤ t.length → t.length + l.length < 900000 → PS x sz (sty x) p h nest l u → GrowF h0.toks.length h 6 (t.flatMap StepA.cs) t.length v → Stay p h0 h → LoopT E x sz p h0 h nest v (loopP x sz (levelP x sz r) f t l u) := by
  intro f
  induction f with
  | zero =>
    intro l t u h v hf ht hl S G K
    have : l = [] := List.length_eq_zero_iff.1 (by omega)
    subst this
    have m4 := may_not (H.to 68) S (k := 4) rfl
    have m5 := may_not (H.to 68) S (k := 5) rfl
    refine ⟨h, v, fun F hF => ?_, G, S, K⟩
    rw [EvCode_loop, hF]
    simp [l49_0, s49_0, m4, m5, x49_0]
  | succ f ih =>
    intro l t u h v hf ht hl S G K
    cases l with
    | nil =>
      have m4 := may_not (H.to 68) S (k := 4) rfl
      have m5 := may_not (H.to 68) S (k := 5) rfl
      refine ⟨h, v, fun F hF => ?_, G, S, K⟩
      rw [EvCode_loop, hF]
      simp [l49_0, s49_0, m4, m5, x49_0]
    | cons k m =>
      simp only [List.length_cons] at hf hl
      simp only [loopP]
      split
      · rename_i hk
        have one : ∃ (g : AHeap) (o : Int), (if k.kind == 4 then (3 : Int) else 4) = o ∧ PS x sz (sty x) p g nest m u ∧ Stay p h g ∧
            ((o = 3 ∧ EvCall E (.fn (.func 68) [] []) [.ref p 0, .int .i64 4] h = some (.ret (.bool true), g)) ∨
             (o = 4 ∧ EvCall E (.fn (.func 68) [] []) [.ref p 0, .int .i64 4] h = some (.ret (.bool false), h) ∧ EvCall E (.fn (.func 68) [] []) [.ref p 0, .int .i64 5] h = some (.ret (.bool true), g))) := by
          cases h4 : k.kind == 4 with
          | true =>
            obtain ⟨g, e, S1, K1⟩ := may_ok (H.to 68) S (k := 4) (by simpa using h4)
            exact ⟨g, 3, by simp, S1, K1, .inl ⟨rfl, e⟩⟩
          | false =>
            have h5 : (k.kind == 5) = true := by simpa [h4] using hk
            have m4 := may_not (H.to 68) S (k := 4) h4
            obtain ⟨g, e, S1, K1⟩ := may_ok (H.to 68) S (k := 5) (by simpa using h5)
            exact ⟨g, 4, by simp, S1, K1, .inr ⟨rfl, m4, e⟩⟩
        obtain ⟨g, o, ho, S1, K1, hc⟩ := one
        rw [ho]
        have q := item_ok (H.to 69) hx hr D S1 (by omega)
        have fit := item_fits (x := x) (sz := sz) (r := r) m u
        have G1 := G.keep K1
        have KK := K.trans K1
        cases hi : itemP x sz (levelP x sz r) m u with
        | error e =>
          rw [hi] at q
          obtain ⟨g2, e2, K2⟩ := q
          have fin : (∃ F', EvCode E l49_0 (s49_0 (.ref p 0) v) h = some (.panic (errV e), F', g2) ∧ F'.ds = []) := by
            rcases hc with ⟨rfl, c1⟩ | ⟨rfl, c1, c2⟩
            · simp [l49_0, s49_0, c1, e2]
            · simp [l49_0, s49_0, c1, c2, e2]
          obtain ⟨F', b1, b2⟩ := fin
          exact ⟨g2, F', fun F hF => by rw [EvCode_loop, hF, b1]; rfl, b2, KK.trans K2⟩
        | ok w =>
          obtain ⟨t', l', u'⟩ := w
          rw [hi] at q fit
          simp only [Fits] at fit
          obtain ⟨g2, v1, e2, G2, S2, K2⟩ := q
          obtain ⟨hs, hsl⟩ := G2.slice (g := g2)
          obtain ⟨ts, v2, a1, G3, K3, ht1⟩ := growF_app (bytes := 56) (G1.keep K2) rfl (KK.trans K2) S2.rot (by omega) ht (by omega) (by omega) hs hsl (all_flat StepA.all _)
          have S3 := S2.toks ht1
          have hs2 : sliceCells (g2.toks_ ts) 6 (.vs .full 1 (StepA.cs ⟨o, -1, 0, 0, 0, []⟩)) = some (1, StepA.cs ⟨o, -1, 0, 0, 0, []⟩) := by simp [sliceCells, StepA.len]
          obtain ⟨us, v3, a2, G4, K4, ht2⟩ := growF_app (bytes := 56) G3 rfl K3 S3.rot (by omega) (by omega) (by omega) (by omega) hs2 (by simp [StepA.len]) (StepA.all _)
          have S4 := S3.toks ht2
          have L := ih l' (t ++ t' ++ [⟨o, -1, 0, 0, 0, []⟩]) u' ((g2.toks_ ts).toks_ us) v3 (by omega) (by simp only [List.length_append, List.length_cons, List.length_nil]; omega) (by simp only [List.length_append, List.length_cons, List.length_nil]; omega) S4 (by simpa [Nat.add_assoc] using G4) K4
          simp only [StepA.cs] at a2
          show LoopT E x sz p h0 h nest v (loopP x sz (levelP x sz r) f (t ++ t' ++ [⟨o, -1, 0, 0, 0, []⟩]) l' u')
          cases hL : loopP x sz (levelP x sz r) f (t ++ t' ++ [⟨o, -1, 0, 0, 0, []⟩]) l' u' with
          | error e =>
            rw [hL] at L
            obtain ⟨h', F', b1, b2, b3⟩ := L
            refine ⟨h', F', fun F hF => ?_, b2, b3⟩
            rw [EvCode_loop, hF]
            generalize EvCode E (.loop k49_0 l49_0) = lp at b1 ⊢
            rcases hc with ⟨rfl, c1⟩ | ⟨rfl, c1, c2⟩
            · simp [-den, l49_0, s49_0, c1, e2, a1, a2]
              exact b1 _ (by simp [s49_0])
            · simp [-den, l49_0, s49_0, c1, c2, e2, a1, a2]
              exact b1 _ (by simp [s49_0])
          | ok z =>
            obtain ⟨tt, ll, uu⟩ := z
            rw [hL] at L
            obtain ⟨h', v', b1, b2, b3, b4⟩ := L
            refine ⟨h', v', fun F hF => ?_, b2, b3, b4⟩
            rw [EvCode_loop, hF]
            generalize EvCode E (.loop k49_0 l49_0) = lp at b1 ⊢
            rcases hc with ⟨rfl, c1⟩ | ⟨rfl, c1, c2⟩
            · simp [-den, l49_0, s49_0, c1, e2, a1, a2]
              exact b1 _ (by simp [s49_0])
            · simp [-den, l49_0, s49_0, c1, c2, e2, a1, a2]
              exact b1 _ (by simp [s49_0])
      · rename_i hk
        have h4 : isT 4 (k :: m) = false := by
          cases h : isT 4 (k :: m)
          · rfl
          · exact absurd (by simp [show (k.kind == 4) = true from h]) hk
        have h5 : isT 5 (k :: m) = false := by
          cases h : isT 5 (k :: m)
          · rfl
          · exact absurd (by simp [show (k.kind == 5) = true from h]) hk
        have m4 := may_not (H.to 68) S h4
        have m5 := may_not (H.to 68) S h5
        refine ⟨h, v, fun F hF => ?_, G, S, K⟩
        rw [EvCode_loop, hF]
        simp [l49_0, s49_0, m4, m5, x49_0]
theorem main_ok (H : Has 49 E) (hx : 1 ≤ x ∧ x ≤ 5) {r : Nat} (hr : nest + r = 32) (D : Deeper E x sz p nest r) (S : PS x sz (sty x) p h nest l u) (hl : l.length < 900000) :
    Tells E x sz (sty x) p h nest 49 [.ref p 0] (mainP x sz (levelP x sz r) l u) := by
  have start_ : ∃ g b l1, isT 5 l = b ∧ (if isT 5 l then l.tail else l) = l1 ∧ l1.length + (if b then 1 else 0) = l.length ∧ EvCall E (.fn (.func 68) [] []) [.ref p 0, .int .i64 5] h = some (.ret (.bool b), g) ∧ PS x sz (sty x) p g nest l1 u ∧ Stay p h g := by
    cases h5 : isT 5 l with
    | false => exact ⟨h, false, l, rfl, by simp, by simp, may_not (H.to 68) S h5, S, Stay.refl _ _⟩
    | true =>
      cases l with
      | nil => cases h5
      | cons k m =>
        obtain ⟨g, e, S1, K1⟩ := may_ok (H.to 68) S (k := 5) (by simpa [isT] using h5)
        exact ⟨g, true, m, rfl, by simp, by simp, e, S1, K1⟩
  obtain ⟨g, b, l1, h5, hl1, hll, e1, S1, K1⟩ := start_
  have q := item_ok (H.to 69) hx hr D S1 (by omega)
  have fit := item_fits (x := x) (sz := sz) (r := r) l1 u
  unfold mainP
  rw [hl1, h5]
  cases hi : itemP x sz (levelP x sz r) l1 u with
  | error e =>
    rw [hi] at q
    obtain ⟨g2, e2, K2⟩ := q
    refine ⟨g2, ?_, K1.trans K2⟩
    rw [EvCall_open H.c49 rfl, EvFn_eq]
    simp [f49, start, e1, e2]
  | ok w =>
    obtain ⟨t, l', u'⟩ := w
    rw [hi] at q fit
    simp only [Fits] at fit
    obtain ⟨g2, v1, e2, G2, S2, K2⟩ := q
    have KK := K1.trans K2
    have G2' := G2.low (k1 := h.toks.length) K1.tlen
    have mid : ∃ (hh : AHeap) (vv : AV), (∀ (c : Fr → AHeap → Out) (F : Fr), True) ∧ GrowF h.toks.length hh 6 ((if b then t ++ [⟨5, -1, 0, 0, 0, []⟩] else t).flatMap StepA.cs) (if b then t ++ [⟨5, -1, 0, 0, 0, []⟩] else t).length vv ∧ PS x sz (sty x) p hh nest l' u' ∧ Stay p h hh ∧
        ((b = false ∧ hh = g2 ∧ vv = v1) ∨ (b = true ∧ ∃ ts, hh = g2.toks_ ts ∧ appendA 6 56 g2 (den v1) (.vs .full 1 (StepA.cs ⟨5, -1, 0, 0, 0, []⟩)) = some (vv, g2.toks_ ts))) := by
      cases b with
      | false => exact ⟨g2, v1, fun _ _ => trivial, G2', S2, KK, .inl ⟨rfl, rfl, rfl⟩⟩
      | true =>
        have hs2 : sliceCells g2 6 (.vs .full 1 (StepA.cs ⟨5, -1, 0, 0, 0, []⟩)) = some (1, StepA.cs ⟨5, -1, 0, 0, 0, []⟩) := by simp [sliceCells, StepA.len]
        obtain ⟨ts, v2, a1, G3, K3, ht1⟩ := growF_app (bytes := 56) G2' rfl KK S2.rot (by omega) fit.2 (by omega) (by omega) hs2 (by simp [StepA.len]) (StepA.all _)
        exact ⟨g2.toks_ ts, v2, fun _ _ => trivial, by simpa using G3, S2.toks ht1, K3, .inr ⟨rfl, ts, rfl, a1⟩⟩
    obtain ⟨hh, vv, _, G3, S3, K3, hm⟩ := mid
    simp only [StepA.cs] at hm
    have hlen : (if b then t ++ [(⟨5, -1, 0, 0, 0, []⟩ : StepA)] else t).length = t.length + (if b then 1 else 0) := by cases b <;> simp
    have L := loop_ok H hx hr D (h0 := h) l'.length l' _ u' hh vv (Nat.le_refl _) (by rw [hlen]; omega) (by rw [hlen]; omega) S3 G3 K3
    simp only
    cases hL : loopP x sz (levelP x sz r) l'.length (if b then t ++ [⟨5, -1, 0, 0, 0, []⟩] else t) l' u' with
    | error e =>
      rw [hL] at L
      obtain ⟨h', F', b1, b2, b3⟩ := L
      refine ⟨h', ?_, b3⟩
      rw [EvCall_open H.c49 rfl, EvFn_eq]
      rcases hm with ⟨rfl, rfl, rfl⟩ | ⟨rfl, ts, rfl, hm⟩
      · simp [f49, start, e1, e2]
        rw [b1 _ (by simp [s49_0])]
        simp [b2]
      · simp [-den, f49, start, e1, e2, hm]
        rw [b1 _ (by simp [s49_0])]
        simp [b2]
    | ok z =>
      obtain ⟨tt, ll, uu⟩ := z
      rw [hL] at L
      obtain ⟨h', v', b1, b2, b3, b4⟩ := L
      refine ⟨h', v', ?_, b2, b3, b4⟩
      rw [EvCall_open H.c49 rfl, EvFn_eq]
      rcases hm with ⟨rfl, rfl, rfl⟩ | ⟨rfl, ts, rfl, hm⟩
      · simp [f49, start, e1, e2]
        rw [b1 _ (by simp [s49_0])]
        simp [x49_0]
      · simp [-den, f49, start, e1, e2, hm]
        rw [b1 _ (by simp [s49_0])]
        simp [x49_0]
theorem main_any (H : Has 49 E) (hx : 1 ≤ x ∧ x ≤ 5) : ∀ (r nest : Nat), nest + r = 32 → ∀ h l u, PS x sz (sty x) p h nest l u → l.length < 900000 → Tells E x sz (sty x) p h nest 49 [.ref p 0] (mainP x sz (levelP x sz r) l u)
  | 0, nest, hr => fun h l u S hl => main_ok H hx hr (fun r' h0 => by cases h0) S hl
  | r + 1, nest, hr => fun h l u S hl => main_ok H hx hr (fun r' h0 g l u S hl => by
      have : r' = r := by omega
      subst this
      exact main_any H hx r' (nest + 1) (by omega) g l u S hl) S hl
end Go.Pv
