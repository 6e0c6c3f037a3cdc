/- Part 21 of the proof: what functions of the program come to. Conditions: none; definitions and theorems that the statement's proof uses. -/
import Derived.Test.YtleaeoncofgkjaaDoorPart13
import Derived.Test.YtleaeoncofgkjaaDoorPart20
/- What ranging over all symbols comes to: a round, the range over atoms. Conditions: the functions' codes; theorems. -/
namespace Go.Pv
variable {E : Env} {B : Tb} {n : Nat}

def Tb.book (B : Tb) (n : Nat) : List AV := [B.A, B.P, .int .i64 ((n : Int) + 1)]
theorem round_skip (H : Has 37 E) (ok : B.Ok) (sh : B.Short) (hn : n < 5) {p : Int} (hp : -1 ≤ p) (hp2 : p < B.Q.length) {a : Nat} (ha : a < B.L.length) {h : AHeap} {l b3 c : Nat} {pend : Option AJump} {t : List AV} {x : AV}
    (hl : h.bl l = some (.loop .ready pend t [28, 29] a35_0 b35_0)) (hro : h.ro ≤ l) (ht : t.length = 48) (h3 : t[3]? = some (.ref b3 0)) (h5 : t[5]? = some (.ref c 0))
    (hb3 : h.bl b3 = some (.cells (B.book n))) (hc : h.bl c = some (.cells [.int .i64 p])) (hl3 : ¬ l = b3) (hlc : ¬ l = c)
    (ht0 : toldB n B.L B.Q (symText n B.L B.Q p a) p a = false) :
    EvCall E (.fn (.yield l) [] []) [.int .i64 a, x] h = some (.ret (.bool true), (h.setBlk l (.loop .busy pend t [28, 29] a35_0 b35_0)).setBlk l (.loop .ready none t [28, 29] a35_0 b35_0)) := by
  rw [EvCall_yield, EvRound_eq (h := h) hl rfl]
  have htold := told_eq H ok hn (symText_eq (H.to 55) ok sh hn hp hp2 ha)
  rw [ht0] at htold
  simp only [Tb.bookV] at htold
  simp only [Tb.book] at hb3
  simp [-getElem?_pos, List.getElem?_cons_zero, List.getElem?_cons_succ, a35_0, b35_0, setAll, beginRd, endRd, hl, hro, hb3, hc, h3, h5, ht, EvCall_closed H.c37 rfl, htold, hl3, hlc]
theorem round_told (H : Has 37 E) (ok : B.Ok) (sh : B.Short) (hn : n < 5) {p : Int} (hp : -1 ≤ p) (hp2 : p < B.Q.length) {a : Nat} (ha : a < B.L.length) {h h' : AHeap} {l b2 b3 c : Nat} {pend : Option AJump} {t : List AV} {Y x : AV}
    (hl : h.bl l = some (.loop .ready pend t [28, 29] a35_0 b35_0)) (hro : h.ro ≤ l) (ht : t.length = 48) (h2 : t[2]? = some (.ref b2 0)) (h3 : t[3]? = some (.ref b3 0)) (h5 : t[5]? = some (.ref c 0))
    (hb2 : h.bl b2 = some (.cells [Y])) (hb3 : h.bl b3 = some (.cells (B.book n))) (hc : h.bl c = some (.cells [.int .i64 p]))
    (hl2 : ¬ l = b2) (hl3 : ¬ l = b3) (hlc : ¬ l = c) (ht0 : toldB n B.L B.Q (symText n B.L B.Q p a) p a = true)
    (hY : EvCall E Y [.str (symText n B.L B.Q p a), .agg [.int .i64 a, .int .i64 p]] (h.setBlk l (.loop .busy pend t [28, 29] a35_0 b35_0)) = some (.ret (.bool true), h'))
    (hl' : h'.bl l = some (.loop .busy pend t [28, 29] a35_0 b35_0)) (hro' : h'.ro ≤ l) :
    EvCall E (.fn (.yield l) [] []) [.int .i64 a, x] h = some (.ret (.bool true), h'.setBlk l (.loop .ready none t [28, 29] a35_0 b35_0)) := by
  rw [EvCall_yield, EvRound_eq (h := h) hl rfl]
  have htold := told_eq H ok hn (symText_eq (H.to 55) ok sh hn hp hp2 ha)
  rw [ht0] at htold
  simp only [Tb.bookV] at htold
  simp only [Tb.book] at hb3
  simp only [a35_0, b35_0] at hl hY hl'
  simp [-getElem?_pos, List.getElem?_cons_zero, List.getElem?_cons_succ, a35_0, b35_0, setAll, beginRd, endRd, hl, hro, hb2, hb3, hc, h2, h3, h5, ht, EvCall_closed H.c37 rfl, htold, hl2, hl3, hlc, hY, hl', hro']

/-- The symbols told of a prefix. -/
def toldL (n : Nat) (L : List AtomR) (Q : List PrefR) (p : Int) (l : List (AtomR × Nat)) : List (Nat × Int) := (l.filter fun x => toldB n L Q (symText n L Q p x.2) p x.2).map fun x => (x.2, p)
theorem toldL_cons {L : List AtomR} {Q : List PrefR} {p : Int} {x : AtomR × Nat} {l : List (AtomR × Nat)} : toldL n L Q p (x :: l) = if toldB n L Q (symText n L Q p x.2) p x.2 then (x.2, p) :: toldL n L Q p l else toldL n L Q p l := by
  unfold toldL
  rw [List.filter_cons]
  split <;> simp
def symArgs (n : Nat) (L : List AtomR) (Q : List PrefR) (x : Nat × Int) : List AV := [.str (symText n L Q x.2 x.1), .agg [.int .i64 x.1, .int .i64 x.2]]

structure InGood (n0 l : Nat) (t : List AV) (g : AHeap) (Good : List (Nat × Int) → AHeap → Prop) (n : Nat) (L : List AtomR) (Q : List PrefR) (p : Int) (rest : List (Nat × Int)) (xs : List (AtomR × Nat)) (h : AHeap) : Prop where
  good : Good (toldL n L Q p xs ++ rest) h
  lt_ : ∀ x ∈ xs, x.2 < L.length
  rec_ : h.bl l = some (.loop .ready none t [28, 29] a35_0 b35_0)
  old : ∀ k, n0 ≤ k → k < l → h.bl k = g.bl k
  lt : l < h.blks.length

theorem inner_yields (H : Has 37 E) (ok : B.Ok) (sh : B.Short) (hn : n < 5) {Y : AV} {n0 : Nat} {Good : List (Nat × Int) → AHeap → Prop} (hy : YieldsL E Y n0 (symArgs n B.L B.Q) Good) {p : Int} (hp : -1 ≤ p) (hp2 : p < B.Q.length) {rest : List (Nat × Int)}
    {g : AHeap} {l b2 b3 c : Nat} {t : List AV} (ht : t.length = 48) (h2 : t[2]? = some (.ref b2 0)) (h3 : t[3]? = some (.ref b3 0)) (h5 : t[5]? = some (.ref c 0))
    (hb2 : g.bl b2 = some (.cells [Y])) (hb3 : g.bl b3 = some (.cells (B.book n))) (hc : g.bl c = some (.cells [.int .i64 p]))
    (k2 : n0 ≤ b2 ∧ b2 < l) (k3 : n0 ≤ b3 ∧ b3 < l) (kc : n0 ≤ c ∧ c < l) :
    YieldsL E (.fn (.yield l) [] []) (l + 1) (atomArgs B.ot) (InGood n0 l t g Good n B.L B.Q p rest) where
  len := fun k h hg => hg.lt
  ro := fun k h hg => by have := hy.ro _ _ hg.good; omega
  call := fun x xs h hg => by
    have hj := hg.lt_ x List.mem_cons_self
    have hlt' : ∀ y ∈ xs, y.2 < B.L.length := fun y hy => hg.lt_ y (List.mem_cons_of_mem _ hy)
    have e2 : h.bl b2 = some (.cells [Y]) := (hg.old b2 k2.1 k2.2).trans hb2
    have e3 := (hg.old b3 k3.1 k3.2).trans hb3
    have ec := (hg.old c kc.1 kc.2).trans hc
    have hro : h.ro ≤ l := by have := hy.ro _ _ hg.good; omega
    have hln : n0 ≤ l := by omega
    have hgood := hg.good
    rw [toldL_cons] at hgood
    cases htd : toldB n B.L B.Q (symText n B.L B.Q p x.2) p x.2 with
    | false =>
      rw [htd] at hgood
      simp only [Bool.false_eq_true, if_false] at hgood
      refine ⟨_, round_skip H ok sh hn hp hp2 hj hg.rec_ hro ht h3 h5 e3 ec (by omega) (by omega) htd, ⟨?_, hlt', ?_, ?_, by simpa using hg.lt⟩, ?_⟩
      · exact hy.keep _ _ _ (hy.keep _ _ _ hgood (OwnH.set hln _)) (OwnH.set hln _)
      · simp [hg.rec_]
      · intro k hk1 hk2
        rw [bl_set, if_neg (by omega), bl_set, if_neg (by omega)]
        exact hg.old k hk1 hk2
      · refine ⟨fun k hk1 hk2 => ?_, by simp, rfl, rfl⟩
        rw [bl_set, if_neg (by omega), bl_set, if_neg (by omega)]
    | true =>
      rw [htd] at hgood
      simp only [if_true, List.cons_append] at hgood
      obtain ⟨h', q1, q2, q3⟩ := hy.call _ _ _ (hy.keep _ _ _ hgood (OwnH.set (l := l) hln (.loop .busy none t [28, 29] a35_0 b35_0)))
      have hl' : h'.bl l = some (.loop .busy none t [28, 29] a35_0 b35_0) := by
        rw [q3.mid l hln (by simpa using hg.lt)]
        simp [hg.rec_]
      have hlen' : h.blks.length ≤ h'.blks.length := by simpa using q3.len
      have hro' : h'.ro ≤ l := by have := q3.ro; simp at this; omega
      refine ⟨_, round_told H ok sh hn hp hp2 hj hg.rec_ hro ht h2 h3 h5 e2 e3 ec (by omega) (by omega) (by omega) htd q1 hl' hro', ⟨?_, hlt', ?_, ?_, ?_⟩, ?_⟩
      · exact hy.keep _ _ _ q2 (OwnH.set hln _)
      · simp [hl']
      · intro k hk1 hk2
        rw [bl_set, if_neg (by omega), q3.mid k hk1 (by have := hg.lt; simp; omega), bl_set, if_neg (by omega)]
        exact hg.old k hk1 hk2
      · have := hg.lt
        simp
        omega
      · refine ⟨fun k hk1 hk2 => ?_, by simpa using hlen', ?_, ?_⟩
        · rw [bl_set, if_neg (by omega), q3.mid k (by omega) (by simpa using hk2), bl_set, if_neg (by omega)]
        · have := q3.ro; simpa using this
        · have := q3.rot; simpa using this
  keep := fun j h h' hg o => ⟨hy.keep _ _ _ hg.good (o.weak (by omega)), hg.lt_, (o.old l (by omega)).trans hg.rec_, fun k hk1 hk2 => (o.old k (by omega)).trans (hg.old k hk1 hk2), Nat.lt_of_lt_of_le hg.lt o.len⟩

/-- The range over atoms, whole. -/
theorem inner_range (H : Has 37 E) (H54 : Has 54 E) (ok : B.Ok) (sh : B.Short) (hn : n < 5) {Y : AV} {n0 : Nat} {Good : List (Nat × Int) → AHeap → Prop} (hy : YieldsL E Y n0 (symArgs n B.L B.Q) Good) {p : Int} (hp : -1 ≤ p) (hp2 : p < B.Q.length) {rest : List (Nat × Int)}
    {g : AHeap} {b2 b3 c rb : Nat} {P : AV} {F : Fr} (hr : F.rnd = .call) (ht : F.t.length = 48) (h2 : F.t[2]? = some (.ref b2 0)) (h3 : F.t[3]? = some (.ref b3 0)) (h5 : F.t[5]? = some (.ref c 0)) (h27 : F.t[27]? = some (.fn (.func 54) [] [.ref rb 0]))
    (hb2 : g.bl b2 = some (.cells [Y])) (hb3 : g.bl b3 = some (.cells (B.book n))) (hc : g.bl c = some (.cells [.int .i64 p]))
    (hrb : g.bl rb = some (.cells [B.A, P])) (k2 : n0 ≤ b2) (k3 : n0 ≤ b3) (kc : n0 ≤ c) (hg : Good (toldL n B.L B.Q p (B.L.zipIdx 0) ++ rest) g) :
    ∃ h', EvCode E (.rangeFunc (.tmp 27) [28, 29] a35_0 b35_0) F g = some (.normal, F, h') ∧ (Good rest h' ∧ KeptH n0 g h') := by
  have hf : opd E F (.tmp 27) = .fn (.func 54) [] [.ref rb 0] := by simp [-getElem?_pos, h27]
  rw [EvCode_rangeFunc hf (by simp [hr])]
  have hn0 := hy.len _ _ hg
  have l2 := blk_lt hb2
  have l3 := blk_lt hb3
  have lc := blk_lt hc
  obtain ⟨g', hg'⟩ : ∃ g', g.push (.loop .ready none F.t [28, 29] a35_0 b35_0) = g' := ⟨_, rfl⟩
  have hold : ∀ k, k < g.blks.length → g'.bl k = g.bl k := fun k hk => by rw [← hg', bl_push, if_neg (by omega)]
  have hiy := inner_yields H ok sh hn hy hp hp2 (rest := rest) (g := g') (l := g.blks.length) (t := F.t) ht h2 h3 h5 ((hold _ l2).trans hb2) ((hold _ l3).trans hb3) ((hold _ lc).trans hc) ⟨k2, l2⟩ ⟨k3, l3⟩ ⟨kc, lc⟩
  obtain ⟨h', q1, q2, q3⟩ := each_range H54 ok hiy (P := P) ((hold _ (blk_lt hrb)).trans hrb)
    (h := g') ⟨by rw [← hg']; exact hy.keep _ _ _ hg (OwnH.push hn0 _), fun x hx => by have := List.snd_lt_of_mem_zipIdx hx; omega, by rw [← hg']; simp, fun k _ _ => rfl, by rw [← hg']; simp⟩
  rw [hg', q1]
  have hgd := q2.good
  simp only [toldL, List.filter_nil, List.map_nil, List.nil_append] at hgd
  have hro : h'.ro ≤ g.blks.length := by have := hy.ro _ _ hgd; omega
  have hlen := q2.lt
  refine ⟨h'.setBlk g.blks.length .dead, ?_, hy.keep _ _ _ hgd (OwnH.set hn0 _), fun k h1 h2' => ?_, by simp; omega, ?_, ?_⟩
  · simp only [endRange, hro, if_true, blks_bl, q2.rec_]
  · rw [bl_set, if_neg (by omega), q2.old k h1 h2', hold k h2']
  · have := q3.ro; rw [← hg'] at this; simpa using this
  · have := q3.rot; rw [← hg'] at this; simpa using this
end Go.Pv
/- What ranging over all symbols comes to: all of it. Conditions: the functions' codes; theorems. -/
namespace Go.Pv
variable {E : Env} {B : Tb} {n : Nat}

/-- All symbols told, from a prefix on (0: none). -/
def allFrom (n : Nat) (L : List AtomR) (Q : List PrefR) (i : Nat) : List (Nat × Int) := (List.range' i (Q.length + 1 - i)).flatMap fun (i : Nat) => toldL n L Q ((i : Int) - 1) (L.zipIdx 0)
theorem allFrom_step {L : List AtomR} {Q : List PrefR} {i : Nat} (hi : i < Q.length + 1) : allFrom n L Q i = toldL n L Q ((i : Int) - 1) (L.zipIdx 0) ++ allFrom n L Q (i + 1) := by
  unfold allFrom
  rw [show Q.length + 1 - i = (Q.length + 1 - (i + 1)) + 1 by omega, List.range'_succ, List.flatMap_cons]
theorem allFrom_end {L : List AtomR} {Q : List PrefR} : allFrom n L Q (Q.length + 1) = [] := by simp [allFrom]

theorem all_loop (H : Has 35 E) (ok : B.Ok) (sh : B.Short) (hn : n < 5) {Y : AV} {n0 b2 b3 : Nat} {Good : List (Nat × Int) → AHeap → Prop} (hy : YieldsL E Y n0 (symArgs n B.L B.Q) Good) (k2 : n0 ≤ b2) (k3 : n0 ≤ b3) :
    ∀ (m i : Nat), i + m = B.Q.length + 1 → ∀ (h : AHeap) (c : Nat), Good (allFrom n B.L B.Q i) h → h.bl b2 = some (.cells [Y]) → h.bl b3 = some (.cells (B.book n)) → h.bl c = some (.cells [.int .i64 ((i : Int) - 1)]) → n0 ≤ c →
    ∃ h', (∀ F, mask k35_0 F = s35_0 (.ref b2 0) (.ref b3 0) (.bool true) (.ref c 0) .junk → EvCode E (.loop k35_0 l35_0) F h = some (.exit 0, x35_0, h')) ∧ (Good [] h' ∧ KeptH n0 h h')
  | 0, i, hi, h, c, hg, e2, e3, ec, kc => by
    have hi' : i = B.Q.length + 1 := by omega
    subst hi'
    rw [allFrom_end] at hg
    refine ⟨h, fun F hF => ?_, hg, KeptH.refl _ _⟩
    rw [EvCode_loop, hF]
    simp only [Tb.book, Tb.P] at e3
    have hc : ((B.Q.length + 1 : Nat) : Int) - 1 = B.Q.length := by omega
    rw [hc] at ec
    simp [l35_0, s35_0, x35_0, e3, ec]
  | m + 1, i, hi, h, c, hg, e2, e3, ec, kc => by
    have hn0 := hy.len _ _ hg
    have hlt : i < B.Q.length + 1 := by omega
    have hpl := ok.plen
    rw [allFrom_step hlt] at hg
    have l2 := blk_lt e2
    have l3 := blk_lt e3
    have lc := blk_lt ec
    have hold : ∀ (b : ABlk) k, k < h.blks.length → (h.push b).bl k = h.bl k := fun b k hk => by rw [bl_push, if_neg (by omega)]
    have hir := fun F hr ht h2 h3 h5 h27 => inner_range (H.to 37) (H.to 54) ok sh hn hy (p := (i : Int) - 1) (by omega) (by omega) (rest := allFrom n B.L B.Q (i + 1)) (g := h.push (.cells [B.A, B.P])) (F := F)
      (b2 := b2) (b3 := b3) (c := c) (rb := h.blks.length) (P := B.P) hr ht h2 h3 h5 h27
      ((hold _ _ l2).trans e2) ((hold _ _ l3).trans e3) ((hold _ _ lc).trans ec) (by simp) k2 k3 kc (hy.keep _ _ _ hg (OwnH.push hn0 _))
    obtain ⟨h1, q1, q2, q3⟩ := hir ⟨[.junk, .junk, .ref b2 0, .ref b3 0, .bool true, .ref c 0, .junk, .junk, .junk, .junk, .junk, .junk, .junk, .junk, .bool true, .bool true, .int .i64 ((i : Int) - 1), .ref b3 0, .ref b3 1, B.P, .int .i64 B.Q.length, .bool true, .bool true, .junk,
      .junk, .ref b3 0, .agg [B.A, B.P], .fn (.func 54) [] [.ref h.blks.length 0], .junk, .junk, .junk, .junk, .junk, .junk, .junk, .junk, .junk, .junk, .junk, .junk, .junk, .junk, .junk, .junk, .junk, .junk, .junk, .junk], [], .call⟩ rfl rfl rfl rfl rfl rfl
    have hlen : h.blks.length < h1.blks.length := by
      have := q3.len
      simp only [blks_push_length] at this
      omega
    have c1 : h1.bl c = some (.cells [.int .i64 ((i : Int) - 1)]) := (q3.mid c kc (by simp; omega)).trans ((hold _ _ lc).trans ec)
    have c2 : h1.bl b2 = some (.cells [Y]) := (q3.mid b2 k2 (by simp; omega)).trans ((hold _ _ l2).trans e2)
    have c3 := (q3.mid b3 k3 (by simp; omega)).trans ((hold _ _ l3).trans e3)
    have hro1 := hy.ro _ _ q2
    have hro : h1.ro ≤ h1.blks.length := by omega
    have e : ((i + 1 : Nat) : Int) - 1 = i := by omega
    obtain ⟨h2, p1, p2, p3⟩ := all_loop H ok sh hn hy k2 k3 m (i + 1) (by omega) (h1.push (.cells [.int .i64 (i : Int)])) h1.blks.length (hy.keep _ _ _ q2 (OwnH.push (by omega) _))
      (by rw [bl_push, if_neg (by omega)]; exact c2) (by rw [bl_push, if_neg (by omega)]; exact c3) (by rw [e]; simp) (by omega)
    refine ⟨h2, fun F hF => ?_, p2, (KeptH.push n0 h _).trans (q3.trans ((KeptH.push n0 h1 _).trans p3))⟩
    rw [EvCode_loop, hF]
    have hlq : (i : Int) - 1 < B.Q.length := by omega
    have hw : IntKind.i64.wrap (i : Int) = (i : Int) := w64
    simp only [Tb.book, Tb.P] at e3 q1
    generalize hlp : EvCode E (.loop k35_0 l35_0) = lp at p1 ⊢
    simp [-getElem?_pos, List.getElem?_cons_zero, List.getElem?_cons_succ, l35_0, s35_0, e2, e3, ec, hlq, each_eq (H.to 36), q1, c1, hro, push_set, hw]
    exact p1 _ (by simp [s35_0])
theorem all_range (H : Has 35 E) (ok : B.Ok) (sh : B.Short) (h38 : EvClosed E (.fn (.func 38) [] []) [] = some B.V) (hn : n < 5) {yl n0 nb : Nat} {Good : List (Nat × Int) → AHeap → Prop} (hy : YieldsL E (.fn (.yield yl) [] []) n0 (symArgs n B.L B.Q) Good)
    {h : AHeap} (hnb : h.bl nb = some (.cells [.int .i64 ((n : Int) + 1)])) (hg : Good (allFrom n B.L B.Q 0) h) :
    ∃ h', EvCall E (.fn (.func 35) [] [.ref nb 0]) [.fn (.yield yl) [] []] h = some (.ret (.tuple []), h') ∧ (Good [] h' ∧ KeptH n0 h h') := by
  have hn0 := hy.len _ _ hg
  have hro := hy.ro _ _ hg
  have hop := open_eq (H.to 25) ok h38 ((n : Int) + 1)
  have h1 : decide (1 ≤ (n : Int) + 1) = true := decide_eq_true (by omega)
  have h2 : decide ((n : Int) + 1 ≤ 5) = true := decide_eq_true (by omega)
  simp only [h1, h2, Bool.and_self] at hop
  obtain ⟨g, hgd⟩ : ∃ g, ((h.push (.cells [.fn (.yield yl) [] []])).push (.cells (B.book n))).push (.cells [.int .i64 (-1)]) = g := ⟨_, rfl⟩
  obtain ⟨h', q1, q2, q3⟩ := all_loop H ok sh hn hy (b2 := h.blks.length) (b3 := h.blks.length + 1) hn0 (by omega) (B.Q.length + 1) 0 (by omega) g (h.blks.length + 2)
    (by rw [← hgd]; exact hy.keep _ _ _ (hy.keep _ _ _ (hy.keep _ _ _ hg (OwnH.push hn0 _)) (OwnH.push (by simp; omega) _)) (OwnH.push (by simp; omega) _))
    (by rw [← hgd]; simp; omega) (by rw [← hgd]; simp) (by rw [← hgd]; simp) (by omega)
  refine ⟨h', ?_, q2, (KeptH.push n0 h _).trans ((KeptH.push n0 _ _).trans ((KeptH.push n0 _ _).trans (by rw [hgd]; exact q3)))⟩
  rw [EvCall_open H.c35 rfl, EvFn_eq]
  have ca := @Tb.A_cell B
  have cp := @Tb.P_cell B
  simp only [Tb.book] at hgd
  generalize hlp : EvCode E (.loop k35_0 l35_0) = lp at q1
  simp [f35, start, hnb, blk_ne hnb, EvCall_closed H.c25 rfl, hop, ca, cp, push_set, push_setk, (by omega : h.ro ≤ h.blks.length), (by omega : h.ro ≤ h.blks.length + 1), (by omega : h.ro ≤ h.blks.length + 2), hgd, hlp]
  rw [q1 _ (by simp [s35_0])]
  simp [x35_0]
theorem all_none (H : Has 35 E) (ok : B.Ok) (h38 : EvClosed E (.fn (.func 38) [] []) [] = some B.V) {x : Int} (hx : ¬ (1 ≤ x ∧ x ≤ 5)) {yl nb : Nat} {h : AHeap} (hnb : h.bl nb = some (.cells [.int .i64 x])) (hro : h.ro ≤ h.blks.length) :
    EvCall E (.fn (.func 35) [] [.ref nb 0]) [.fn (.yield yl) [] []] h = some (.ret (.tuple []), ((h.push (.cells [.fn (.yield yl) [] []])).push (.cells [B.A, B.P, .int .i64 x])).push (.cells [.int .i64 (-1)])) := by
  have hop := open_eq (H.to 25) ok h38 x
  have h1 : (decide (1 ≤ x) && decide (x ≤ 5)) = false := by
    cases h : (decide (1 ≤ x) && decide (x ≤ 5))
    · rfl
    · simp at h; exact absurd h hx
  rw [h1] at hop
  rw [EvCall_open H.c35 rfl, EvFn_eq]
  have ca := @Tb.A_cell B
  have cp := @Tb.P_cell B
  simp [f35, start, hnb, blk_ne hnb, EvCall_closed H.c25 rfl, hop, ca, cp, push_set, push_setk, hro, (by omega : h.ro ≤ h.blks.length + 1), (by omega : h.ro ≤ h.blks.length + 2)]
  rw [EvCode_loop]
  simp [l35_0]
end Go.Pv
