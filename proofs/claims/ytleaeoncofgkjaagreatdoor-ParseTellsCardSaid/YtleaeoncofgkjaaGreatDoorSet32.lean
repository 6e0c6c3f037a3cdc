/- A part of the proof: functions of the program in the evaluator's code, and what they come to. Conditions: none; definitions and theorems that the statement's proof uses. -/
import Derived.Test.YtleaeoncofgkjaaGreatDoorSet11
import Derived.Test.YtleaeoncofgkjaaGreatDoorSet9
/- The reference's parser: what stands there, and goes behind it. Conditions: the functions' codes; theorems. -/
namespace Go.Pv
variable {E : Env} {x sz : Int} {p nest : Nat} {h : AHeap} {all l : List Tok} {e : Option PErr} {u : Option Tok}
def nowT (sz : Int) : List Tok → Tok
  | [] => ⟨0, sz, [], 0⟩
  | t :: _ => t
theorem now_pos (sz : Int) (l : List Tok) : (nowT sz l).pos = atT sz l := by cases l <;> rfl
theorem now_kind (sz : Int) (l : List Tok) {k : Int} (hk : k ≠ 0) : ((nowT sz l).kind == k) = isT k l := by
  cases l with
  | nil =>
    show ((0 : Int) == k) = false
    simp
    exact fun q => hk q.symm
  | cons t l => rfl
def unkAt : Option Tok → Int
  | none => 0
  | some t => t.pos
def unkLen : Option Tok → Int
  | none => 0
  | some t => t.text.length
def errNo (e : Option PErr) : Int := (e.map (·.1)).getD 0
def errAt (e : Option PErr) : Int := (e.map (·.2)).getD 0
def refB_ (x sz : Int) (nest i : Nat) (lv : AV) (e : Option PErr) (u : Option Tok) : ABlk :=
  .cells [.int .i64 x, .int .i64 i, .int .i64 sz, .int .i64 nest, lv, .nils, .int .i64 (errNo e), .int .i64 (errAt e), .int .i64 0, .int .i64 (unkAt u), .int .i64 (unkLen u), .bool u.isSome]
structure RS (x sz : Int) (p : Nat) (h : AHeap) (nest : Nat) (all l : List Tok) (e : Option PErr) (u : Option Tok) : Prop where
  ex : ∃ i, i ≤ all.length ∧ all.drop i = l ∧ h.bl p = some (refB_ x sz nest i (toksV all) e u)
  ro : h.ro = 0
  rot : h.rot ≤ h.toks.length
  ne : ∀ q, e = some q → q.1 ≠ 0
  sm : all.length < 900000
theorem RS.lt (S : RS x sz p h nest all l e u) : p < h.blks.length := by
  obtain ⟨⟨i, _, _, h1⟩, _⟩ := S
  exact blk_lt h1
theorem RS.stay {h' : AHeap} (S : RS x sz p h nest all l e u) (K : Stay p h h') (hp : h'.bl p = h.bl p) : RS x sz p h' nest all l e u := by
  obtain ⟨⟨i, h1, h2, h3⟩, h4, h5, h6, h7⟩ := S
  exact ⟨⟨i, h1, h2, hp.trans h3⟩, by rw [K.ro]; exact h4, by rw [K.rot]; exact Nat.le_trans h5 K.tlen, h6, h7⟩
theorem RS.push (S : RS x sz p h nest all l e u) (b : ABlk) : RS x sz p (h.push b) nest all l e u :=
  S.stay (Stay.push p h b) (by rw [bl_push, if_neg (by have := S.lt; omega)])
theorem RS.toks (S : RS x sz p h nest all l e u) {ts : List Nat} (ht : h.toks.length ≤ ts.length) : RS x sz p (h.toks_ ts) nest all l e u := by
  obtain ⟨h1, h2, h3, h4, h5⟩ := S
  exact ⟨h1, h2, Nat.le_trans h3 ht, h4, h5⟩
theorem RS.len (S : RS x sz p h nest all l e u) : l.length ≤ all.length := by
  obtain ⟨⟨i, _, h2, _⟩, _⟩ := S
  rw [← h2, List.length_drop]
  omega
theorem now_cell (H : Has 210 E) {i : Nat} (hi : i ≤ all.length) (hd : all.drop i = l) {x' nest' : AV} {c5 c6 c7 c8 c9 c10 c11 : AV}
    (hb : h.bl p = some (.cells [x', .int .i64 i, .int .i64 sz, nest', toksV all, c5, c6, c7, c8, c9, c10, c11])) : EvCall E (.fn (.func 210) [] []) [.ref p 0] h = some (.ret (.agg (nowT sz l).cs), h) := by
  have n1 := blk_ne hb
  rw [EvCall_reader H.c210 rfl, EvFn_eq]
  cases all with
  | nil =>
    have hi0 : i = 0 := by simpa using hi
    subst hi0
    have : l = [] := by rw [← hd]; rfl
    subst this
    simp [f210, start, hb, n1, nowT, Tok.cs, toksV, push_setk]
  | cons a as =>
    have hv : toksV (a :: as) = .vs .shared (a :: as).length ((a :: as).flatMap Tok.cs) := rfl
    rw [hv] at hb
    have hln : ((a :: as).flatMap Tok.cs).length = (a :: as).length * 4 := fm_len Tok.len _
    generalize hA : a :: as = A at *
    by_cases hlt : i < A.length
    · have hl : l = A[i] :: A.drop (i + 1) := by rw [← hd, List.drop_eq_getElem_cons hlt]
      have hge : decide ((A.length : Int) ≤ (i : Int)) = false := decide_eq_false (by omega)
      have hge2 : ¬ A.length ≤ i := by omega
      have hel : ((A.flatMap Tok.cs).drop (i * 4)).take 4 = A[i].cs := fm_el Tok.len hlt
      have h4 : 4 ≤ (A.flatMap Tok.cs).length - i * 4 := by omega
      have h0 : i * 4 < (A.flatMap Tok.cs).length := by omega
      rw [hl]
      generalize A.flatMap Tok.cs = cs at *
      generalize A[i] = t at *
      simp only [Tok.cs] at hel
      simp [f210, start, hb, n1, nowT, Tok.cs, push_setk, hge2, hlt, hel, h4, h0]
    · have : i = A.length := by omega
      subst this
      have hl : l = [] := by rw [← hd]; simp
      subst hl
      simp [f210, start, hb, n1, nowT, Tok.cs, push_setk]
theorem now_ok (H : Has 210 E) (S : RS x sz p h nest all l e u) : EvCall E (.fn (.func 210) [] []) [.ref p 0] h = some (.ret (.agg (nowT sz l).cs), h) := by
  obtain ⟨⟨i, h1, h2, h3⟩, _⟩ := S
  exact now_cell H h1 h2 h3
theorem isR_ok (H : Has 213 E) (S : RS x sz p h nest all l none u) {k : Int} (hk : k ≠ 0) : EvCall E (.fn (.func 213) [] []) [.ref p 0, .int .i64 k] h = some (.ret (.bool (isT k l)), h) := by
  have hkk := now_kind sz l hk
  obtain ⟨⟨i, h1, h2, h3⟩, _⟩ := S
  simp only [refB_, errNo, Option.map_none, Option.getD_none] at h3
  have hn := now_cell (h := h.still) (sz := sz) (H.to 210) h1 h2 (by simpa using h3)
  simp only [Tok.cs] at hn
  rw [EvCall_reader H.c213 rfl, EvFn_eq]
  simp [f213, start, h3, hn, hkk]
theorem isR_err (H : Has 213 E) {q : PErr} (S : RS x sz p h nest all l (some q) u) (k : Int) : EvCall E (.fn (.func 213) [] []) [.ref p 0, .int .i64 k] h = some (.ret (.bool false), h) := by
  obtain ⟨⟨i, h1, h2, h3⟩, _, _, h6, _⟩ := S
  have hq : (q.1 == 0) = false := by simpa using h6 q rfl
  simp only [refB_, errNo, Option.map_some, Option.getD_some] at h3
  rw [EvCall_reader H.c213 rfl, EvFn_eq]
  simp [f213, start, h3, hq]
theorem mayR_not (H : Has 208 E) (S : RS x sz p h nest all l none u) {k : Int} (hk0 : k ≠ 0) (hk : isT k l = false) : EvCall E (.fn (.func 208) [] []) [.ref p 0, .int .i64 k] h = some (.ret (.bool false), h) := by
  have := isR_ok (H.to 213) S hk0
  rw [EvCall_open H.c208 rfl, EvFn_eq]
  simp [f208, start, this, hk]
theorem mayR_err (H : Has 208 E) {q : PErr} (S : RS x sz p h nest all l (some q) u) (k : Int) : EvCall E (.fn (.func 208) [] []) [.ref p 0, .int .i64 k] h = some (.ret (.bool false), h) := by
  have := isR_err (H.to 213) S k
  rw [EvCall_open H.c208 rfl, EvFn_eq]
  simp [f208, start, this]
theorem RS.next {t : Tok} (S : RS x sz p h nest all (t :: l) e u) : ∃ i : Nat, h.bl p = some (refB_ x sz nest i (toksV all) e u) ∧ (i : Int) < 900000 ∧ RS x sz p (h.setBlk p (refB_ x sz nest (i + 1) (toksV all) e u)) nest all l e u := by
  obtain ⟨⟨i, h1, h2, h3⟩, h4, h5, h6, h7⟩ := S
  have hlt : i < all.length := by
    rcases Nat.lt_or_ge i all.length with q | q
    · exact q
    · rw [List.drop_of_length_le q] at h2
      cases h2
  refine ⟨i, h3, by omega, ⟨i + 1, hlt, ?_, by rw [bl_set, if_pos rfl, h3]; rfl⟩, h4, h5, h6, h7⟩
  rw [List.drop_eq_getElem_cons hlt] at h2
  cases h2
  rfl
theorem mayR_ok (H : Has 208 E) {t : Tok} (S : RS x sz p h nest all (t :: l) none u) {k : Int} (hk0 : k ≠ 0) (hk : t.kind = k) : ∃ h', EvCall E (.fn (.func 208) [] []) [.ref p 0, .int .i64 k] h = some (.ret (.bool true), h') ∧ RS x sz p h' nest all l none u ∧ Stay p h h' := by
  have hi := isR_ok (H.to 213) S hk0
  have ht : isT k (t :: l) = true := by simp [isT, hk]
  obtain ⟨i, h1, h2, S'⟩ := S.next
  have ro := S.ro
  refine ⟨_, ?_, S', Stay.set p h _⟩
  simp only [refB_] at h1 ⊢
  have w : IntKind.i64.wrap ((i : Int) + 1) = (i : Int) + 1 := w64
  have lc := toksV_cell all
  rw [EvCall_open H.c208 rfl, EvFn_eq]
  simp [f208, start, hi, ht, h1, w, ro]
theorem failR_err (H : Has 199 E) {q : PErr} (S : RS x sz p h nest all l (some q) u) (c : Int) : EvCall E (.fn (.func 199) [] []) [.ref p 0, .int .i64 c] h = some (.ret (.tuple []), h) := by
  obtain ⟨⟨i, h1, h2, h3⟩, _, _, h6, _⟩ := S
  have hq := h6 q rfl
  simp only [refB_, errNo, Option.map_some, Option.getD_some] at h3
  rw [EvCall_open H.c199 rfl, EvFn_eq]
  simp [f199, start, h3, hq]
theorem failR_ok (H : Has 199 E) (S : RS x sz p h nest all l none u) {c : Int} (hc : c ≠ 0) : ∃ h', EvCall E (.fn (.func 199) [] []) [.ref p 0, .int .i64 c] h = some (.ret (.tuple []), h') ∧ RS x sz p h' nest all l (some (c, atT sz l)) u ∧ Stay p h h' := by
  obtain ⟨⟨i, h1, h2, h3⟩, h4, h5, h6, h7⟩ := S
  have lc := toksV_cell all
  have hn : ∀ g : AHeap, g.bl p = some (.cells [.int .i64 x, .int .i64 i, .int .i64 sz, .int .i64 nest, toksV all, .nils, .int .i64 c, .int .i64 0, .int .i64 0, .int .i64 (unkAt u), .int .i64 (unkLen u), .bool u.isSome]) → EvCall E (.fn (.func 210) [] []) [.ref p 0] g = some (.ret (.agg (nowT sz l).cs), g) :=
    fun g hg => now_cell (H.to 210) h1 h2 hg
  have hpos := now_pos sz l
  refine ⟨(h.setBlk p (.cells [.int .i64 x, .int .i64 i, .int .i64 sz, .int .i64 nest, toksV all, .nils, .int .i64 c, .int .i64 0, .int .i64 0, .int .i64 (unkAt u), .int .i64 (unkLen u), .bool u.isSome])).setBlk p (refB_ x sz nest i (toksV all) (some (c, atT sz l)) u), ?_, ⟨⟨i, h1, h2, by simp [h3]⟩, h4, h5, fun q hq => by cases hq; exact hc, h7⟩, (Stay.set p h _).trans (Stay.set p _ _)⟩
  simp only [refB_, errNo, errAt, Option.map_none, Option.getD_none, Option.map_some, Option.getD_some] at h3 ⊢
  have hn' := hn (h.setBlk p (.cells [.int .i64 x, .int .i64 i, .int .i64 sz, .int .i64 nest, toksV all, .nils, .int .i64 c, .int .i64 0, .int .i64 0, .int .i64 (unkAt u), .int .i64 (unkLen u), .bool u.isSome])) (by simp [h3])
  simp only [Tok.cs] at hn'
  rw [EvCall_open H.c199 rfl, EvFn_eq]
  simp [f199, start, h3, h4, hn', hpos]
end Go.Pv
/- The reference's parser: numbers, powers, symbols. Conditions: the functions' codes; theorems. -/
namespace Go.Pv
variable {E : Env} {x sz : Int} {p nest : Nat} {h : AHeap} {all l : List Tok} {u : Option Tok}
def NumR (E : Env) (x sz : Int) (p : Nat) (h : AHeap) (nest : Nat) (all : List Tok) (u : Option Tok) (f : Nat) (as : List AV) : Except PErr (Int × List Tok) → Prop
  | .ok (n, l') => ∃ h', EvCall E (.fn (.func f) [] []) as h = some (.ret (.int .i64 n), h') ∧ RS x sz p h' nest all l' none u ∧ Stay p h h'
  | .error q => ∃ h' l', EvCall E (.fn (.func f) [] []) as h = some (.ret (.int .i64 0), h') ∧ RS x sz p h' nest all l' (some q) u ∧ Stay p h h'
theorem numberR_ok (H : Has 216 E) (S : RS x sz p h nest all l none u) (lo hi : Int) : NumR E x sz p h nest all u 216 [.ref p 0, .int .i64 lo, .int .i64 hi] (numP sz lo hi l) := by
  have hn := now_ok (H.to 210) S
  have S1 := S.push (.cells (nowT sz l).cs)
  have K1 := Stay.push p h (.cells (nowT sz l).cs)
  have hi2 := isR_ok (H.to 213) S1 (k := 2) (by omega)
  obtain ⟨g, f1, f2, f3⟩ := failR_ok (H.to 199) S1 (c := 14) (by omega)
  have hp := S.lt
  have n1 : ¬ p = h.blks.length := by omega
  have ro := S.ro
  have bad : (isT 2 l = false ∨ decide ((nowT sz l).n < lo) = true ∨ decide (hi < (nowT sz l).n) = true) → ∃ h' l', EvCall E (.fn (.func 216) [] []) [.ref p 0, .int .i64 lo, .int .i64 hi] h = some (.ret (.int .i64 0), h') ∧ RS x sz p h' nest all l' (some (14, atT sz l)) u ∧ Stay p h h' := by
    intro hb
    refine ⟨g, l, ?_, f2, K1.trans f3⟩
    rw [EvCall_open H.c216 rfl, EvFn_eq]
    simp only [Tok.cs] at hn hi2 f1
    cases hk : isT 2 l
    · simp [f216, start, hn, push_set, hi2, hk, f1, ro]
    · rw [hk] at hb
      cases hlo : decide ((nowT sz l).n < lo)
      · rw [hlo] at hb
        have hhi : decide (hi < (nowT sz l).n) = true := by simpa using hb
        simp [f216, start, hn, push_set, hi2, hk, f1, hlo, hhi, ro]
      · simp [f216, start, hn, push_set, hi2, hk, f1, hlo, ro]
  cases l with
  | nil => exact bad (.inl rfl)
  | cons t r =>
    cases hc : (t.kind == 2 && decide (lo ≤ t.n)) && decide (t.n ≤ hi) with
    | false =>
      simp only [numP, hc, Bool.false_eq_true, if_false]
      refine bad ?_
      simp only [Bool.and_eq_false_iff, decide_eq_false_iff_not] at hc
      rcases hc with (q | q) | q
      · exact .inl q
      · exact .inr (.inl (decide_eq_true (by show t.n < lo; omega)))
      · exact .inr (.inr (decide_eq_true (by show hi < t.n; omega)))
    | true =>
      simp only [Bool.and_eq_true, decide_eq_true_eq] at hc
      simp only [numP, hc, decide_true, Bool.and_self, if_true]
      have hk : isT 2 (t :: r) = true := by simpa [isT] using hc.1.1
      obtain ⟨i, b1, b2, S2⟩ := S1.next
      have w : IntKind.i64.wrap ((i : Int) + 1) = (i : Int) + 1 := w64
      have lc := toksV_cell all
      have hlo : decide (t.n < lo) = false := decide_eq_false (by omega)
      have hhi : decide (hi < t.n) = false := decide_eq_false (by omega)
      refine ⟨_, ?_, S2, K1.trans (Stay.set p _ _)⟩
      rw [EvCall_open H.c216 rfl, EvFn_eq]
      simp only [Tok.cs, refB_] at hn hi2 b1 ⊢
      simp only [nowT] at hn hi2 b1 ⊢
      rw [bl_push, if_neg n1] at b1
      simp [f216, start, hn, push_set, hi2, hk, hlo, hhi, b1, n1, w, ro]
set_option maxHeartbeats 1000000 in
theorem signR_cases (H : Has 218 E) {g : AHeap} {m : List Tok} (S : RS x sz p g nest all m none u) : ∃ (g2 : AHeap) (m2 : List Tok) (sg : Bool),
    EvCall E (.fn (.func 208) [] []) [.ref p 0, .int .i64 3] (g.push (.cells (nowT sz m).cs)) = some (.ret (.bool sg), g2) ∧ sg = isT 3 m ∧
    EvCall E (.fn (.func 213) [] []) [.ref p 0, .int .i64 2] g2 = some (.ret (.bool (isT 2 m2)), g2) ∧ (sg = false → m2 = m) ∧ (sg = true → ∃ t, m = t :: m2) ∧
    RS x sz p g2 nest all m2 none u ∧ Stay p g g2 ∧ g2.bl g.blks.length = some (.cells (nowT sz m).cs) := by
  have S1 := S.push (.cells (nowT sz m).cs)
  have K1 := Stay.push p g (.cells (nowT sz m).cs)
  have hp := S.lt
  have hb : (g.push (.cells (nowT sz m).cs)).bl g.blks.length = some (.cells (nowT sz m).cs) := by simp
  cases h3 : isT 3 m with
  | false =>
    exact ⟨_, m, false, mayR_not (H.to 208) S1 (by omega) h3, rfl, isR_ok (H.to 213) S1 (by omega), fun _ => rfl, (fun q => by cases q), S1, K1, hb⟩
  | true =>
    cases m with
    | nil => cases h3
    | cons t r =>
      obtain ⟨g2, e1, S2, K2⟩ := mayR_ok (H.to 208) S1 (k := 3) (by omega) (by simpa [isT] using h3)
      exact ⟨g2, r, true, e1, rfl, isR_ok (H.to 213) S2 (by omega), (fun q => by cases q), fun _ => ⟨t, rfl⟩, S2, K1.trans K2, (K2.bl _ (by omega) (by simp)).trans hb⟩
theorem powN_eq {m m2 : List Tok} {sg : Bool} (h1 : sg = isT 3 m) (h2 : sg = false → m2 = m) (h3 : sg = true → ∃ t, m = t :: m2) :
    powN sz m = match numP sz 0 99 m2 with | .ok (n, r) => .ok (if sg && (nowT sz m).text == [45] then -n else n, r) | .error q => .error q := by
  cases sg with
  | false =>
    rw [h2 rfl]
    cases m with
    | nil => rfl
    | cons t r =>
      have : (t.kind == 3) = false := h1.symm
      simp only [powN, this, Bool.false_eq_true, if_false, Bool.false_and]
      cases numP sz 0 99 (t :: r) <;> rfl
  | true =>
    obtain ⟨t, rfl⟩ := h3 rfl
    have : (t.kind == 3) = true := h1.symm
    simp only [powN, this, if_true, Bool.true_and, nowT]
    rfl
set_option maxHeartbeats 2000000 in
theorem powerR_ok (H : Has 218 E) (S : RS x sz p h nest all l none u) : NumR E x sz p h nest all u 218 [.ref p 0] (powP ((sty x).pow != 0) sz l) := by
  have hst := refOf_eq (H.to 19) x
  rw [sty_cl] at hst
  have hpw := pow_ne (sty x)
  obtain ⟨i0, j1, j2, j3⟩ := S.ex
  simp only [refB_] at j3
  -- the part behind the power's sign, at a heap
  have tail : ∀ (g : AHeap) (m : List Tok), RS x sz p g nest all m none u → Stay p h g → (isT 3 m = false → isT 2 m = false → ((sty x).pow != 0) = true) →
      (∀ r, (∀ (g2 g' : AHeap) (sg num : Bool) (n : Int), g.ro = 0 → EvCall E (.fn (.func 210) [] []) [.ref p 0] g = some (.ret (.agg (nowT sz m).cs), g) → EvCall E (.fn (.func 208) [] []) [.ref p 0, .int .i64 3] (g.push (.cells (nowT sz m).cs)) = some (.ret (.bool sg), g2) →
          EvCall E (.fn (.func 213) [] []) [.ref p 0, .int .i64 2] g2 = some (.ret (.bool num), g2) → EvCall E (.fn (.func 216) [] []) [.ref p 0, .int .i64 0, .int .i64 99] g2 = some (.ret (.int .i64 n), g') → g'.bl g.blks.length = some (.cells (nowT sz m).cs) →
          (((sty x).pow != 0) = false → sg = false → num = true) → IntKind.i64.wrap (-n) = -n → EvCall E (.fn (.func 218) [] []) [.ref p 0] h = some (.ret (.int .i64 (if sg && (nowT sz m).text == [45] then -n else n)), g')) → r = powN sz m → NumR E x sz p h nest all u 218 [.ref p 0] r) := by
    intro g m Sg Kg hnn r hrun hr
    subst hr
    obtain ⟨g2, m2, sg, e1, e2, e3, e4, e5, S2, K2, hb⟩ := signR_cases H Sg
    have hn := now_ok (H.to 210) Sg
    have q := numberR_ok (H.to 216) S2 0 99
    rw [powN_eq e2 e4 e5]
    have hnum : ((sty x).pow != 0) = false → sg = false → isT 2 m2 = true := by
      intro a b
      have h3 : isT 3 m = false := by rw [← e2]; exact b
      cases h2 : isT 2 m with
      | false =>
        have := hnn h3 h2
        rw [a] at this
        cases this
      | true => rw [e4 b]; exact h2
    have hlt := Sg.lt
    cases hq : numP sz 0 99 m2 with
    | error d =>
      rw [hq] at q
      obtain ⟨g', l', a1, a2, a3⟩ := q
      have hb' : g'.bl g.blks.length = some (.cells (nowT sz m).cs) := (a3.bl _ (by omega) (blk_lt hb)).trans hb
      have := hrun g2 g' sg _ 0 Sg.ro hn e1 e3 a1 hb' hnum w64
      refine ⟨g', l', ?_, a2, (Kg.trans K2).trans a3⟩
      rw [this]
      simp
    | ok v =>
      obtain ⟨n, l'⟩ := v
      rw [hq] at q
      obtain ⟨g', a1, a2, a3⟩ := q
      have hrg := numP_range hq
      have hb' : g'.bl g.blks.length = some (.cells (nowT sz m).cs) := (a3.bl _ (by omega) (blk_lt hb)).trans hb
      exact ⟨g', hrun g2 g' sg _ n Sg.ro hn e1 e3 a1 hb' hnum w64, a2, (Kg.trans K2).trans a3⟩
  cases hp : (sty x).pow != 0 with
  | false =>
    rw [hp] at hpw
    have hpz : (sty x).pow = 0 := by simpa using hp
    cases hb : isT 3 l || isT 2 l with
    | false =>
      simp only [powP, hb, Bool.false_eq_true, if_false]
      simp only [Bool.or_eq_false_iff] at hb
      have S1 := S.push (.cells (nowT sz l).cs)
      have hn := now_ok (H.to 210) S
      have m3 := mayR_not (H.to 208) S1 (k := 3) (by omega) hb.1
      have i2 := isR_ok (H.to 213) S1 (k := 2) (by omega)
      refine ⟨_, ?_, S1, Stay.push p h _⟩
      rw [EvCall_open H.c218 rfl, EvFn_eq]
      simp only [Tok.cs] at hn m3 i2 ⊢
      simp [f218, start, j3, EvCall_closed H.c19 rfl, hst, hpz, hn, push_set, S.ro, m3, i2, hb.2]
    | true =>
      refine tail h l S (Stay.refl p h) (fun a b => by rw [a, b] at hb; cases hb) _ ?_ (by simp only [powP, hb, Bool.false_eq_true, if_false, if_true])
      intro g2 g' sg num n ro hn e1 e3 e4 hb' hnum wn
      have hnum' := hnum hp
      rw [EvCall_open H.c218 rfl, EvFn_eq]
      simp only [Tok.cs] at hn e1 hb'
      cases sg
      · have := hnum' rfl
        subst this
        simp [f218, start, j3, EvCall_closed H.c19 rfl, hst, hpz, hn, push_set, ro, e1, e3, e4]
      · cases ht : (nowT sz l).text == [45] <;> simp [f218, start, j3, EvCall_closed H.c19 rfl, hst, hpz, hn, push_set, ro, e1, e3, e4, hb', ht, wn]
  | true =>
    rw [hp] at hpw
    have hpn : ¬ (sty x).pow = 0 := by simpa using hp
    cases h6 : isT 6 l with
    | false =>
      simp only [powP, h6, Bool.false_eq_true, if_false, if_true]
      have m6 := mayR_not (H.to 208) S (k := 6) (by omega) h6
      refine ⟨h, ?_, S, Stay.refl p h⟩
      rw [EvCall_open H.c218 rfl, EvFn_eq]
      simp [f218, start, j3, EvCall_closed H.c19 rfl, hst, hpw, m6]
    | true =>
      cases l with
      | nil => cases h6
      | cons k m =>
        obtain ⟨g, m6, Sg, Kg⟩ := mayR_ok (H.to 208) S (k := 6) (by omega) (by simpa [isT] using h6)
        refine tail g m Sg Kg (fun _ _ => hp) _ ?_ (by simp only [powP, h6, if_true, List.tail_cons])
        intro g2 g' sg num n ro hn e1 e3 e4 hb' hnum wn
        rw [EvCall_open H.c218 rfl, EvFn_eq]
        simp only [Tok.cs] at hn e1 hb'
        cases sg
        · simp [f218, start, j3, EvCall_closed H.c19 rfl, hst, hpw, m6, hn, push_set, ro, e1, e3, e4]
        · cases ht : (nowT sz m).text == [45] <;> simp [f218, start, j3, EvCall_closed H.c19 rfl, hst, hpw, m6, hn, push_set, ro, e1, e3, e4, hb', ht, wn]
end Go.Pv
/- The reference's parser: symbols, words. Conditions: the functions' codes; theorems. -/
namespace Go.Pv
variable {E : Env} {x sz : Int} {p nest : Nat} {h : AHeap} {all l : List Tok} {u : Option Tok}
def GrowG (k0 : Nat) (h : AHeap) (sz : Nat) (cs : List AV) (len : Nat) (v : AV) : Prop :=
  cs.length = len * sz ∧ ((len = 0 ∧ cs = [] ∧ (v = .nils ∨ v = .vs .full 0 [])) ∨ (v = .vs .full len cs ∧ 0 < len) ∨ ∃ k, v = .vs (.tok k sz) len cs ∧ h.tk k = some cs.length ∧ h.rot ≤ k ∧ k0 ≤ k ∧ 0 < len)
theorem GrowF.g {k0 : Nat} {h : AHeap} {sz : Nat} {cs : List AV} {len : Nat} {v : AV} (g : GrowF k0 h sz cs len v) : GrowG k0 h sz cs len v := by
  rcases g with ⟨rfl, rfl, h1⟩ | ⟨k, rfl, h1, h2, h3, h4, h5⟩
  · exact ⟨by omega, .inr (.inl ⟨rfl, by omega⟩)⟩
  · exact ⟨h1, .inr (.inr ⟨k, rfl, h2, h3, h4, by omega⟩)⟩
theorem GrowG.cell {k0 : Nat} {h : AHeap} {sz : Nat} {cs : List AV} {len : Nat} {v : AV} (g : GrowG k0 h sz cs len v) : v.isCell = true := by
  rcases g.2 with ⟨_, _, rfl | rfl⟩ | ⟨rfl, _⟩ | ⟨k, rfl, _⟩ <;> simp
theorem GrowG.slice {k0 : Nat} {h g : AHeap} {sz : Nat} {cs : List AV} {len : Nat} {v : AV} (q : GrowG k0 h sz cs len v) : sliceCells g sz v = some (len, cs) ∧ cs.length = len * sz := by
  obtain ⟨h1, q⟩ := q
  rcases q with ⟨rfl, rfl, rfl | rfl⟩ | ⟨rfl, _⟩ | ⟨k, rfl, _⟩ <;> simp [sliceCells, h1]
theorem GrowG.keep {k0 p : Nat} {h h' : AHeap} {sz : Nat} {cs : List AV} {len : Nat} {v : AV} (g : GrowG k0 h sz cs len v) (K : Stay p h h') : GrowG k0 h' sz cs len v := by
  obtain ⟨g0, g⟩ := g
  refine ⟨g0, ?_⟩
  rcases g with g | g | ⟨k, g1, g3, g4, g5⟩
  · exact .inl g
  · exact .inr (.inl g)
  · exact .inr (.inr ⟨k, g1, (K.tk k (List.getElem?_eq_some_iff.1 g3).1).trans g3, by rw [K.rot]; exact g4, g5⟩)
theorem GrowG.low {k0 k1 : Nat} {h : AHeap} {sz : Nat} {cs : List AV} {len : Nat} {v : AV} (g : GrowG k0 h sz cs len v) (hk : k1 ≤ k0) : GrowG k1 h sz cs len v := by
  obtain ⟨g0, g⟩ := g
  refine ⟨g0, ?_⟩
  rcases g with g | g | ⟨k, g1, g3, g4, g5, g6⟩
  · exact .inl g
  · exact .inr (.inl g)
  · exact .inr (.inr ⟨k, g1, g3, g4, by omega, g6⟩)
theorem growG_app {k0 p : Nat} {h0 h : AHeap} {sz bytes : Nat} {cs : List AV} {len m : Nat} {v x : AV} {xs : List AV} (g : GrowG k0 h sz cs len v) (hk0 : k0 = h0.toks.length) (K : Stay p h0 h) (hr : h.rot ≤ h.toks.length) (hb : (len + m) * bytes ≤ 140737488355328) (hsz : 0 < sz)
    (hs : sliceCells h sz x = some (m, xs)) (hx : xs.length = m * sz) (hc : xs.all AV.isCell = true) :
    ∃ ts v', appendA sz bytes h (den v) x = some (v', h.toks_ ts) ∧ GrowG k0 (h.toks_ ts) sz (cs ++ xs) (len + m) v' ∧ Stay p h0 (h.toks_ ts) ∧ h.toks.length ≤ ts.length := by
  have hc' := List.all_eq_true.1 hc
  subst hk0
  obtain ⟨g0, g⟩ := g
  have same : Stay p h0 (h.toks_ h.toks) := K.toks (fun i _ => rfl) (Nat.le_refl _)
  rcases Nat.eq_zero_or_pos m with rfl | hm
  · have hxs : xs = [] := List.eq_nil_of_length_eq_zero (by omega)
    subst hxs
    refine ⟨h.toks, den v, ?_, ⟨by simpa using g0, ?_⟩, same, Nat.le_refl _⟩
    · rcases g with ⟨rfl, rfl, rfl | rfl⟩ | ⟨rfl, h2⟩ | ⟨k, rfl, h2, _⟩
      · simp [-sliceCells, appendA, den, hs, hsz, toks_self]
      · simp [-sliceCells, appendA, den, hs, hsz, toks_self]
      · have hb' : len * bytes ≤ 140737488355328 := by simpa using hb
        simp [-sliceCells, appendA, den, hs, hsz, toks_self, g0, hb']
      · have hb' : len * bytes ≤ 140737488355328 := by simpa using hb
        simp [-sliceCells, appendA, den, hs, hsz, toks_self, g0, hb']
    · simp only [List.append_nil, Nat.add_zero]
      rcases g with ⟨h1, h2, rfl | rfl⟩ | ⟨rfl, h2⟩ | ⟨k, rfl, h2⟩
      · exact .inl ⟨h1, h2, .inr rfl⟩
      · exact .inl ⟨h1, h2, .inr rfl⟩
      · exact .inr (.inl ⟨rfl, h2⟩)
      · exact .inr (.inr ⟨k, rfl, h2⟩)
  · have hm0 : ¬ m = 0 := by omega
    have full : ∀ (len : Nat) (cs : List AV), cs.length = len * sz → (len + m) * bytes ≤ 140737488355328 → den v = .vs .full len cs →
        ∃ ts v', appendA sz bytes h (den v) x = some (v', h.toks_ ts) ∧ GrowG h0.toks.length (h.toks_ ts) sz (cs ++ xs) (len + m) v' ∧ Stay p h0 (h.toks_ ts) ∧ h.toks.length ≤ ts.length := by
      intro len cs h1 hb hd
      refine ⟨h.toks ++ [cs.length + xs.length], .vs (.tok h.toks.length sz) (len + m) (cs ++ xs), ?_, ⟨by simp [h1, hx, Nat.add_mul], .inr (.inr ⟨_, rfl, ?_, ?_, K.tlen, by omega⟩)⟩, K.toks (fun i hi => ?_) (by simp), by simp⟩
      · rw [hd]
        simp [-sliceCells, appendA, hs, hx, hb, hsz, hm0, AHeap.toks_, h1]
        exact hc'
      · simp [tk_toks]
      · exact hr
      · rw [List.getElem?_append_left (Nat.lt_of_lt_of_le hi K.tlen)]
        rfl
    rcases g with ⟨rfl, rfl, rfl | rfl⟩ | ⟨rfl, h2⟩ | ⟨k, rfl, h2, h3, h4, h5⟩
    · exact full 0 [] (by simp) hb rfl
    · exact full 0 [] (by simp) hb rfl
    · exact full len cs g0 hb rfl
    · have hkl : k < h.toks.length := (List.getElem?_eq_some_iff.1 h2).1
      refine ⟨h.toks.set k (cs.length + xs.length), .vs (.tok k sz) (len + m) (cs ++ xs), ?_, ⟨by simp [g0, hx, Nat.add_mul], .inr (.inr ⟨k, rfl, ?_, h3, h4, by omega⟩)⟩, K.toks (fun i hi => ?_) (by simp), by simp⟩
      · have hd : den (.vs (.tok k sz) len cs) = .vs (.tok k sz) len cs := rfl
        rw [hd]
        rw [g0] at h2
        simp [-sliceCells, appendA, hs, hx, hb, hsz, hm0, AHeap.toks_, g0, h2, h3]
        exact hc'
      · simp [tk_toks, hkl]
      · rw [List.getElem?_set_ne (by omega)]
        rfl
def bnd (l : List Tok) (nest : Nat) : Nat := l.length + 3 * (33 - nest)
def TellsR (E : Env) (x sz : Int) (p : Nat) (h : AHeap) (nest : Nat) (all l : List Tok) (f : Nat) (as : List AV) : Res (List StepA) → Prop
  | .ok (t, l', u') => ∃ h' v, EvCall E (.fn (.func f) [] []) as h = some (.ret v, h') ∧ GrowF h.toks.length h' 6 (t.flatMap StepA.cs) t.length v ∧ RS x sz p h' nest all l' none u' ∧ Stay p h h'
  | .error q => ∃ (h' : AHeap) (v : AV) (t : List StepA) (l' : List Tok) (u' : Option Tok), EvCall E (.fn (.func f) [] []) as h = some (.ret v, h') ∧ GrowG h.toks.length h' 6 (t.flatMap StepA.cs) t.length v ∧ t.length ≤ bnd l nest ∧ RS x sz p h' nest all l' (some q) u' ∧ Stay p h h'
theorem refFound_eq (H : Has 217 E) (hx : 1 ≤ x ∧ x ≤ 5) (s : List UInt8) : EvClosed E (.fn (.func 217) [] []) [.int .i64 x, .str s] =
    some (.agg [.int .i64 (findB (x - 1).toNat atomsT prefsT s).1, .int .i64 (findB (x - 1).toNat atomsT prefsT s).2.1, .bool (findB (x - 1).toNat atomsT prefsT s).2.2]) := by
  have := refFind217_eq H refB_ok (refTable_eq (H.to 51)) x s
  have hd : decide (1 ≤ x ∧ x ≤ 5) = true := decide_eq_true hx
  rw [if_pos hx, if_pos hx, hd, Bool.true_and] at this
  exact this
set_option maxHeartbeats 2000000 in
theorem symR_ok (H : Has 215 E) (hx : 1 ≤ x ∧ x ≤ 5) {t : Tok} {r : List Tok} (S : RS x sz p h nest all (t :: r) none u) : TellsR E x sz p h nest all (t :: r) 215 [.ref p 0] (symP x sz t r u) := by
  have hn := now_ok (H.to 210) S
  obtain ⟨i, b1, b2, S1⟩ := (S.push (.cells t.cs)).next
  have hf := refFound_eq (H.to 217) hx t.text
  have lc := toksV_cell all
  have ro := S.ro
  have hp := S.lt
  have n1 : ¬ p = h.blks.length := by omega
  have n2 : ¬ p = h.blks.length + 1 := by omega
  have n3 : ¬ h.blks.length + 1 = p := by omega
  have n4 : ¬ h.blks.length = p := by omega
  have w : IntKind.i64.wrap ((i : Int) + 1) = (i : Int) + 1 := w64
  have cn : ((i + 1 : Nat) : Int) = (i : Int) + 1 := by omega
  unfold symP
  generalize hfa : findB (x - 1).toNat atomsT prefsT t.text = f at hf ⊢
  obtain ⟨a, b, c⟩ := f
  have S2 := S1.push (.cells [.int .i64 a, .int .i64 b, .bool c])
  have K1 : Stay p h ((h.push (.cells t.cs)).setBlk p (refB_ x sz nest (i + 1) (toksV all) none u)) := (Stay.push p h _).trans (Stay.set p _ _)
  have K2 := K1.trans (Stay.push p _ (.cells [.int .i64 a, .int .i64 b, .bool c]))
  have c1 : h.bl p = some (refB_ x sz nest i (toksV all) none u) := by
    rw [bl_push, if_neg n1] at b1
    exact b1
  have fin : ∀ (g3 : AHeap) (u3 : Option Tok), RS x sz p g3 nest all r none u3 → Stay p h g3 → g3.bl (h.blks.length + 1) = some (.cells [.int .i64 a, .int .i64 b, .bool c]) →
      (∀ (g' : AHeap) (n : Int), EvCall E (.fn (.func 218) [] []) [.ref p 0] g3 = some (.ret (.int .i64 n), g') → g'.bl (h.blks.length + 1) = some (.cells [.int .i64 a, .int .i64 b, .bool c]) →
        EvCall E (.fn (.func 215) [] []) [.ref p 0] h = some (.ret (.vs .full 1 (StepA.cs ⟨2, a, b, n, 0, []⟩)), g')) →
      TellsR E x sz p h nest all (t :: r) 215 [.ref p 0] (match powP ((sty x).pow != 0) sz r with | .ok (n, r') => .ok ([⟨2, a, b, n, 0, []⟩], r', u3) | .error e => .error e) := by
    intro g3 u3 S3 K3 hb3 hrun
    have q := powerR_ok (H.to 218) S3
    cases hq : powP ((sty x).pow != 0) sz r with
    | error d =>
      rw [hq] at q
      obtain ⟨g', l', q1, q2, q3⟩ := q
      have hb' : g'.bl (h.blks.length + 1) = some (.cells [.int .i64 a, .int .i64 b, .bool c]) := (q3.bl _ (by omega) (blk_lt hb3)).trans hb3
      exact ⟨g', _, [⟨2, a, b, 0, 0, []⟩], l', u3, hrun g' 0 q1 hb', (growF_one _ _ _).g, by simp [bnd]; omega, q2, K3.trans q3⟩
    | ok v =>
      obtain ⟨n, r'⟩ := v
      rw [hq] at q
      obtain ⟨g', q1, q2, q3⟩ := q
      have hb' : g'.bl (h.blks.length + 1) = some (.cells [.int .i64 a, .int .i64 b, .bool c]) := (q3.bl _ (by omega) (blk_lt hb3)).trans hb3
      exact ⟨g', _, hrun g' n q1 hb', growF_one _ _ _, q2, K3.trans q3⟩
  by_cases hu : c = false ∧ u = none
  · obtain ⟨rfl, rfl⟩ := hu
    have S3 : RS x sz p ((((h.push (.cells t.cs)).setBlk p (refB_ x sz nest (i + 1) (toksV all) none none)).push (.cells [.int .i64 a, .int .i64 b, .bool false])).setBlk p (refB_ x sz nest (i + 1) (toksV all) none (some t))) nest all r none (some t) := by
      obtain ⟨⟨j, j1, j2, j3⟩, j4, j5, j6, j7⟩ := S2
      have hj : i + 1 = j := by
        simp [bl_set, bl_push, n1, n2, c1, refB_] at j3
        omega
      subst hj
      refine ⟨⟨i + 1, j1, j2, ?_⟩, j4, j5, j6, j7⟩
      rw [bl_set, if_pos rfl, j3]
      rfl
    refine fin _ _ S3 (K2.trans (Stay.set p _ _)) (by simp [n2]) ?_
    intro g' n q1 hb'
    rw [EvCall_open H.c215 rfl, EvFn_eq]
    simp only [refB_, errNo, errAt, unkAt, unkLen, Option.map_none, Option.getD_none, Option.isSome_none, Option.isSome_some, Tok.cs, nowT] at c1 hn q1
    rw [cn] at q1
    simp [f215, start, hn, push_setk, c1, n1, n2, ro, w, hf, q1, hb', set_set, StepA.cs]
  · have hu' : unkP c t u = u := by
      cases c
      · cases u with
        | none => exact absurd ⟨rfl, rfl⟩ hu
        | some q => rfl
      · rfl
    simp only [hu']
    have hc : c = true ∨ (c = false ∧ u.isSome = true) := by
      cases c
      · cases u with
        | none => exact absurd ⟨rfl, rfl⟩ hu
        | some q => exact .inr ⟨rfl, rfl⟩
      · exact .inl rfl
    refine fin _ _ S2 K2 (by simp) ?_
    intro g' n q1 hb'
    rw [EvCall_open H.c215 rfl, EvFn_eq]
    simp only [refB_, Tok.cs, nowT] at c1 hn q1
    rw [cn] at q1
    rcases hc with rfl | ⟨rfl, hs⟩
    · simp [f215, start, hn, push_setk, c1, n1, ro, w, hf, q1, hb', StepA.cs]
    · rw [hs] at q1 c1
      simp [f215, start, hn, push_setk, c1, n1, n2, ro, w, hf, q1, hb', StepA.cs]
end Go.Pv
/- The reference's parser: words, one of a product. Conditions: the functions' codes; theorems. -/
namespace Go.Pv
variable {E : Env} {x sz : Int} {p nest : Nat} {h : AHeap} {all l : List Tok} {e : Option PErr} {u : Option Tok}
def DeeperR (E : Env) (x sz : Int) (p nest r : Nat) : Prop :=
  ∀ r', r = r' + 1 → ∀ g all l u, RS x sz p g (nest + 1) all l none u → TellsR E x sz p g (nest + 1) all l 198 [.ref p 0] (mainP x sz (levelP x sz r') l u)
theorem RS.at_nest (S : RS x sz p h nest all l e u) (m : Nat) : ∃ i : Nat, h.bl p = some (refB_ x sz nest i (toksV all) e u) ∧ RS x sz p (h.setBlk p (refB_ x sz m i (toksV all) e u)) m all l e u := by
  obtain ⟨⟨i, h1, h2, h3⟩, h4, h5, h6, h7⟩ := S
  exact ⟨i, h3, ⟨i, h1, h2, by rw [bl_set, if_pos rfl, h3]; rfl⟩, h4, h5, h6, h7⟩
theorem grow_none (k0 : Nat) (h : AHeap) : GrowG k0 h 6 (([] : List StepA).flatMap StepA.cs) ([] : List StepA).length .nils := ⟨rfl, .inl ⟨rfl, rfl, .inl rfl⟩⟩
set_option maxHeartbeats 2000000 in
theorem leftR_ok (H : Has 214 E) {r : Nat} (hr : nest + r = 32) (D : DeeperR E x sz p nest r) {t : Tok} (S : RS x sz p h nest all (t :: l) none u) (h1 : (t.kind == 1) = false) (h2 : (t.kind == 2) = false) (h7 : (t.kind == 7) = true) :
    TellsR E x sz p h nest all (t :: l) 214 [.ref p 0] (levelP x sz r (t :: l) u) := by
  have i1 := isR_ok (H.to 213) S (k := 1) (by omega)
  have i2 := isR_ok (H.to 213) S (k := 2) (by omega)
  have i7 := isR_ok (H.to 213) S (k := 7) (by omega)
  have j1 : isT 1 (t :: l) = false := h1
  have j2 : isT 2 (t :: l) = false := h2
  have j7 : isT 7 (t :: l) = true := h7
  obtain ⟨i, c1, _⟩ := S.at_nest 0
  have lc := toksV_cell all
  have ro := S.ro
  cases r with
  | zero =>
    have hn : nest = 32 := by omega
    subst hn
    obtain ⟨g, f1, f2, f3⟩ := failR_ok (H.to 199) S (c := 13) (by omega)
    refine ⟨g, .nils, [], _, _, ?_, grow_none _ _, by simp, f2, f3⟩
    rw [EvCall_open H.c214 rfl, EvFn_eq]
    simp only [refB_] at c1
    simp [f214, start, i1, i2, i7, j1, j2, j7, c1, f1]
  | succ r' =>
    have hn : ¬ (nest : Int) = 32 := by omega
    obtain ⟨i', c1', ci, S1⟩ := S.next
    have e1 : i' = i := by
      rw [c1] at c1'
      simp only [refB_, Option.some.injEq, ABlk.cells.injEq, List.cons.injEq, AV.int.injEq, true_and] at c1'
      omega
    subst e1
    obtain ⟨i2', d1, S2⟩ := S1.at_nest (nest + 1)
    have e2 : i2' = i' + 1 := by
      rw [bl_set, if_pos rfl, c1] at d1
      simp only [refB_, Option.map_some, Option.some.injEq, ABlk.cells.injEq, List.cons.injEq, AV.int.injEq, true_and] at d1
      omega
    subst e2
    have w1 : IntKind.i64.wrap ((nest : Int) + 1) = (nest : Int) + 1 := w64
    have w2 : IntKind.i64.wrap ((i' : Int) + 1) = (i' : Int) + 1 := w64
    have cn : ((nest + 1 : Nat) : Int) = (nest : Int) + 1 := by omega
    have cn2 : ((i' + 1 : Nat) : Int) = (i' : Int) + 1 := by omega
    rw [set_set] at S2
    have q := D r' rfl _ _ _ _ S2
    have K2 := Stay.set p h (refB_ x sz (nest + 1) (i' + 1) (toksV all) none u)
    simp only [levelP, List.tail_cons]
    have fin : ∀ (g2 : AHeap) (v : AV) (l' : List Tok) (e' : Option PErr) (u' : Option Tok) (b : Bool) (g3 g4 : AHeap), EvCall E (.fn (.func 198) [] []) [.ref p 0] (h.setBlk p (refB_ x sz (nest + 1) (i' + 1) (toksV all) none u)) = some (.ret v, g2) →
        EvCall E (.fn (.func 208) [] []) [.ref p 0, .int .i64 8] g2 = some (.ret (.bool b), g3) → (b = false → EvCall E (.fn (.func 199) [] []) [.ref p 0, .int .i64 14] g3 = some (.ret (.tuple []), g4)) → (b = true → g4 = g3) → RS x sz p g4 (nest + 1) all l' e' u' →
        ∃ g5, EvCall E (.fn (.func 214) [] []) [.ref p 0] h = some (.ret v, g5) ∧ RS x sz p g5 nest all l' e' u' ∧ Stay p g4 g5 := by
      intro g2 v l' e' u' b g3 g4 q1 q2 q3 q4 S4
      obtain ⟨i4, d4, S5⟩ := S4.at_nest nest
      have ro4 := S4.ro
      have w3 : IntKind.i64.wrap ((nest : Int) + 1 - 1) = (nest : Int) := by rw [Int.add_sub_cancel]; exact w64
      have w4 : IntKind.i64.wrap (nest : Int) = (nest : Int) := w64
      refine ⟨_, ?_, S5, Stay.set p _ _⟩
      rw [EvCall_open H.c214 rfl, EvFn_eq]
      simp only [refB_] at c1 q1 d4 ⊢
      rw [cn, cn2] at q1
      rw [cn] at d4
      cases b
      · simp [f214, start, i1, i2, i7, j1, j2, j7, c1, hn, w1, w2, ro, set_set, q1, q2, q3 rfl, d4, w4, ro4]
      · have := q4 rfl
        subst this
        simp [f214, start, i1, i2, i7, j1, j2, j7, c1, hn, w1, w2, ro, set_set, q1, q2, d4, w4, ro4]
    have hb : ∀ l' : List Tok, bnd l (nest + 1) ≤ bnd (t :: l) nest := by intro l'; simp [bnd]; omega
    cases hm : mainP x sz (levelP x sz r') l u with
    | error d =>
      rw [hm] at q
      obtain ⟨g2, v, tt, l', u', q1, q2, q3, q4, q5⟩ := q
      have m8 := mayR_err (H.to 208) q4 8
      have f8 := failR_err (H.to 199) q4 14
      obtain ⟨g5, a1, a2, a3⟩ := fin g2 v l' _ u' false g2 g2 q1 m8 (fun _ => f8) (fun q => by cases q) q4
      exact ⟨g5, v, tt, l', u', a1, (q2.low K2.tlen).keep a3, Nat.le_trans q3 (hb l'), a2, (K2.trans q5).trans a3⟩
    | ok w =>
      obtain ⟨tt, l', u'⟩ := w
      rw [hm] at q
      obtain ⟨g2, v, q1, q2, q3, q4⟩ := q
      have fit := mainP_fits (x := x) (sz := sz) (inner := levelP x sz r') (levelP_fits r') l u
      rw [hm] at fit
      simp only [Fits] at fit
      have htl : tt.length ≤ bnd (t :: l) nest := by simp [bnd]; omega
      have bad : isT 8 l' = false → TellsR E x sz p h nest all (t :: l) 214 [.ref p 0] (.error (14, atT sz l')) := by
        intro h8
        have m8 := mayR_not (H.to 208) q3 (k := 8) (by omega) h8
        obtain ⟨g4, f1, f2, f3⟩ := failR_ok (H.to 199) q3 (c := 14) (by omega)
        obtain ⟨g5, a1, a2, a3⟩ := fin g2 v l' _ u' false g2 g4 q1 m8 (fun _ => f1) (fun q => by cases q) f2
        exact ⟨g5, v, tt, l', u', a1, (((q2.g.low K2.tlen).keep f3).keep a3), htl, a2, ((K2.trans q4).trans f3).trans a3⟩
      cases l' with
      | nil => exact bad rfl
      | cons k m =>
        cases hk : k.kind == 8 with
        | false =>
          have := bad hk
          simpa only [closeP, hk, Bool.false_eq_true, if_false, atT] using this
        | true =>
          simp only [closeP, hk, if_true]
          obtain ⟨g3, m8, S3, K3⟩ := mayR_ok (H.to 208) q3 (k := 8) (by omega) (by simpa using hk)
          obtain ⟨g5, a1, a2, a3⟩ := fin g2 v m none u' true g3 g3 q1 m8 (fun q => by cases q) (fun _ => rfl) S3
          exact ⟨g5, v, a1, ((q2.low K2.tlen).keep K3).keep a3, a2, ((K2.trans q4).trans K3).trans a3⟩
set_option maxHeartbeats 1000000 in
theorem baseR_ok (H : Has 214 E) (hx : 1 ≤ x ∧ x ≤ 5) {r : Nat} (hr : nest + r = 32) (D : DeeperR E x sz p nest r) (S : RS x sz p h nest all l none u) :
    TellsR E x sz p h nest all l 214 [.ref p 0] (baseP x sz (levelP x sz r) l u) := by
  have i1 := isR_ok (H.to 213) S (k := 1) (by omega)
  have i2 := isR_ok (H.to 213) S (k := 2) (by omega)
  have i7 := isR_ok (H.to 213) S (k := 7) (by omega)
  have bad : isT 1 l = false → isT 2 l = false → isT 7 l = false → TellsR E x sz p h nest all l 214 [.ref p 0] (.error (14, atT sz l)) := by
    intro j1 j2 j7
    obtain ⟨g, f1, f2, f3⟩ := failR_ok (H.to 199) S (c := 14) (by omega)
    refine ⟨g, .nils, [], l, u, ?_, grow_none _ _, by simp, f2, f3⟩
    rw [EvCall_open H.c214 rfl, EvFn_eq]
    simp [f214, start, i1, i2, i7, j1, j2, j7, f1]
  cases l with
  | nil => exact bad rfl rfl rfl
  | cons t l =>
    simp only [baseP]
    split
    · rename_i h1
      have j1 : isT 1 (t :: l) = true := h1
      have q := symR_ok (H.to 215) hx S
      cases hs : symP x sz t l u with
      | error d =>
        rw [hs] at q
        obtain ⟨g, v, tt, l', u', q1, q2⟩ := q
        refine ⟨g, v, tt, l', u', ?_, q2⟩
        rw [EvCall_open H.c214 rfl, EvFn_eq]
        simp [f214, start, i1, i2, i7, j1, q1]
      | ok v =>
        obtain ⟨tt, l', u'⟩ := v
        rw [hs] at q
        obtain ⟨g, v, q1, q2⟩ := q
        refine ⟨g, v, ?_, q2⟩
        rw [EvCall_open H.c214 rfl, EvFn_eq]
        simp [f214, start, i1, i2, i7, j1, q1]
    · rename_i h1
      have h1' : (t.kind == 1) = false := by simpa using h1
      have j1 : isT 1 (t :: l) = false := h1'
      split
      · rename_i h2
        have j2 : isT 2 (t :: l) = true := h2
        have q := numberR_ok (H.to 216) S 1 maxNum
        unfold maxNum at q ⊢
        cases hs : numP sz 1 9223372036854775807 (t :: l) with
        | error d =>
          rw [hs] at q
          obtain ⟨g, l', q1, q2, q3⟩ := q
          refine ⟨g, .vs .full 1 (StepA.cs ⟨1, -1, 0, 0, 0, []⟩), [⟨1, -1, 0, 0, 0, []⟩], l', u, ?_, (growF_one _ _ _).g, by simp [bnd]; omega, q2, q3⟩
          rw [EvCall_open H.c214 rfl, EvFn_eq]
          simp [f214, start, i1, i2, i7, j1, j2, q1, StepA.cs]
        | ok v =>
          obtain ⟨n, l'⟩ := v
          rw [hs] at q
          obtain ⟨g, q1, q2, q3⟩ := q
          refine ⟨g, .vs .full 1 (StepA.cs ⟨1, -1, 0, 0, n, []⟩), ?_, growF_one _ _ _, q2, q3⟩
          rw [EvCall_open H.c214 rfl, EvFn_eq]
          simp [f214, start, i1, i2, i7, j1, j2, q1, StepA.cs]
      · rename_i h2
        have h2' : (t.kind == 2) = false := by simpa using h2
        split
        · rename_i h7
          exact leftR_ok H hr D S h1' h2' h7
        · rename_i h7
          exact bad h1' h2' (by simpa [isT] using h7)
end Go.Pv
