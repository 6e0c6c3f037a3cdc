/- Part 12 of the proof: what functions of the program come to. Conditions: none; definitions and theorems that the statement's proof uses. -/
import Derived.Test.YtleaeoncofgkjaaDoorPart11
/- What ranging over all symbols comes to: a round, the range over atoms. Conditions: the functions' codes; theorems. -/
namespace Go.Pv
variable {E : Env} {B : Tb} {n : Nat}

def Tb.book (B : Tb) (n : Nat) : List AV := [B.A, B.P, .int .i64 ((n : Int) + 1)]
theorem round_skip (H : Has 37 E) (ok : B.Ok) (sh : B.Short) (hn : n < 5) {p : Int} (hp : -1 ≤ p) (hp2 : p < B.Q.length) {a : Nat} (ha : a < B.L.length) {h : AHeap} {l b3 c : Nat} {pend : Option AJump} {t : List AV} {x : AV}
    (hl : h.bl l = some (.loop .ready pend t [28, 29] a35_0 b35_0)) (hro : h.ro ≤ l) (ht : t.length = 48) (h3 : t[3]? = some (.ref b3 0)) (h5 : t[5]? = some (.ref c 0))
    (hb3 : h.bl b3 = some (.cells (B.book n))) (hc : h.bl c = some (.cells [.int .i64 p])) (hl3 : ¬ l = b3) (hlc : ¬ l = c)
    (ht0 : toldB n B.L B.Q (symText n B.L B.Q p a) p a = false) :
    EvCall E (.fn (.yield l) [] []) [.int .i64 a, x] h = some (.ret (.bool true), (h.setBlk l (.loop .busy pend t [28, 29] a35_0 b35_0)).setBlk l (.loop .ready none t [28, 29] a35_0 b35_0)) := by
  rw [EvCall_yield, EvRound_eq (h := h) hl rfl]
  have htold := told_eq H ok hn (symText_eq (H.to 55) ok sh hn hp hp2 ha)
  rw [ht0] at htold
  simp only [Tb.bookV] at htold
  simp only [Tb.book] at hb3
  simp [-getElem?_pos, List.getElem?_cons_zero, List.getElem?_cons_succ, a35_0, b35_0, setAll, beginRd, endRd, hl, hro, hb3, hc, h3, h5, ht, EvCall_closed H.c37 rfl, htold, hl3, hlc]
theorem round_told (H : Has 37 E) (ok : B.Ok) (sh : B.Short) (hn : n < 5) {p : Int} (hp : -1 ≤ p) (hp2 : p < B.Q.length) {a : Nat} (ha : a < B.L.length) {h h' : AHeap} {l b2 b3 c : Nat} {pend : Option AJump} {t : List AV} {Y x : AV}
    (hl : h.bl l = some (.loop .ready pend t [28, 29] a35_0 b35_0)) (hro : h.ro ≤ l) (ht : t.length = 48) (h2 : t[2]? = some (.ref b2 0)) (h3 : t[3]? = some (.ref b3 0)) (h5 : t[5]? = some (.ref c 0))
    (hb2 : h.bl b2 = some (.cells [Y])) (hb3 : h.bl b3 = some (.cells (B.book n))) (hc : h.bl c = some (.cells [.int .i64 p]))
    (hl2 : ¬ l = b2) (hl3 : ¬ l = b3) (hlc : ¬ l = c) (ht0 : toldB n B.L B.Q (symText n B.L B.Q p a) p a = true)
    (hY : EvCall E Y [.str (symText n B.L B.Q p a), .agg [.int .i64 a, .int .i64 p]] (h.setBlk l (.loop .busy pend t [28, 29] a35_0 b35_0)) = some (.ret (.bool true), h'))
    (hl' : h'.bl l = some (.loop .busy pend t [28, 29] a35_0 b35_0)) (hro' : h'.ro ≤ l) :
    EvCall E (.fn (.yield l) [] []) [.int .i64 a, x] h = some (.ret (.bool true), h'.setBlk l (.loop .ready none t [28, 29] a35_0 b35_0)) := by
  rw [EvCall_yield, EvRound_eq (h := h) hl rfl]
  have htold := told_eq H ok hn (symText_eq (H.to 55) ok sh hn hp hp2 ha)
  rw [ht0] at htold
  simp only [Tb.bookV] at htold
  simp only [Tb.book] at hb3
  simp only [a35_0, b35_0] at hl hY hl'
  simp [-getElem?_pos, List.getElem?_cons_zero, List.getElem?_cons_succ, a35_0, b35_0, setAll, beginRd, endRd, hl, hro, hb2, hb3, hc, h2, h3, h5, ht, EvCall_closed H.c37 rfl, htold, hl2, hl3, hlc, hY, hl', hro']

/-- The symbols told of a prefix. -/
def toldL (n : Nat) (L : List AtomR) (Q : List PrefR) (p : Int) (l : List (AtomR × Nat)) : List (Nat × Int) := (l.filter fun x => toldB n L Q (symText n L Q p x.2) p x.2).map fun x => (x.2, p)
theorem toldL_cons {L : List AtomR} {Q : List PrefR} {p : Int} {x : AtomR × Nat} {l : List (AtomR × Nat)} : toldL n L Q p (x :: l) = if toldB n L Q (symText n L Q p x.2) p x.2 then (x.2, p) :: toldL n L Q p l else toldL n L Q p l := by
  unfold toldL
  rw [List.filter_cons]
  split <;> simp
def symArgs (n : Nat) (L : List AtomR) (Q : List PrefR) (x : Nat × Int) : List AV := [.str (symText n L Q x.2 x.1), .agg [.int .i64 x.1, .int .i64 x.2]]

structure InGood (n0 l : Nat) (t : List AV) (g : AHeap) (Good : List (Nat × Int) → AHeap → Prop) (n : Nat) (L : List AtomR) (Q : List PrefR) (p : Int) (rest : List (Nat × Int)) (xs : List (AtomR × Nat)) (h : AHeap) : Prop where
  good : Good (toldL n L Q p xs ++ rest) h
  lt_ : ∀ x ∈ xs, x.2 < L.length
  rec_ : h.bl l = some (.loop .ready none t [28, 29] a35_0 b35_0)
  old : ∀ k, n0 ≤ k → k < l → h.bl k = g.bl k
  lt : l < h.blks.length

theorem inner_yields (H : Has 37 E) (ok : B.Ok) (sh : B.Short) (hn : n < 5) {Y : AV} {n0 : Nat} {Good : List (Nat × Int) → AHeap → Prop} (hy : YieldsL E Y n0 (symArgs n B.L B.Q) Good) {p : Int} (hp : -1 ≤ p) (hp2 : p < B.Q.length) {rest : List (Nat × Int)}
    {g : AHeap} {l b2 b3 c : Nat} {t : List AV} (ht : t.length = 48) (h2 : t[2]? = some (.ref b2 0)) (h3 : t[3]? = some (.ref b3 0)) (h5 : t[5]? = some (.ref c 0))
    (hb2 : g.bl b2 = some (.cells [Y])) (hb3 : g.bl b3 = some (.cells (B.book n))) (hc : g.bl c = some (.cells [.int .i64 p]))
    (k2 : n0 ≤ b2 ∧ b2 < l) (k3 : n0 ≤ b3 ∧ b3 < l) (kc : n0 ≤ c ∧ c < l) :
    YieldsL E (.fn (.yield l) [] []) (l + 1) (atomArgs B.ot) (InGood n0 l t g Good n B.L B.Q p rest) where
  len := fun k h hg => hg.lt
  ro := fun k h hg => by have := hy.ro _ _ hg.good; omega
  call := fun x xs h hg => by
    have hj := hg.lt_ x List.mem_cons_self
    have hlt' : ∀ y ∈ xs, y.2 < B.L.length := fun y hy => hg.lt_ y (List.mem_cons_of_mem _ hy)
    have e2 : h.bl b2 = some (.cells [Y]) := (hg.old b2 k2.1 k2.2).trans hb2
    have e3 := (hg.old b3 k3.1 k3.2).trans hb3
    have ec := (hg.old c kc.1 kc.2).trans hc
    have hro : h.ro ≤ l := by have := hy.ro _ _ hg.good; omega
    have hln : n0 ≤ l := by omega
    have hgood := hg.good
    rw [toldL_cons] at hgood
    cases htd : toldB n B.L B.Q (symText n B.L B.Q p x.2) p x.2 with
    | false =>
      rw [htd] at hgood
      simp only [Bool.false_eq_true, if_false] at hgood
      refine ⟨_, round_skip H ok sh hn hp hp2 hj hg.rec_ hro ht h3 h5 e3 ec (by omega) (by omega) htd, ⟨?_, hlt', ?_, ?_, by simpa using hg.lt⟩, ?_⟩
      · exact hy.keep _ _ _ (hy.keep _ _ _ hgood (OwnH.set hln _)) (OwnH.set hln _)
      · simp [hg.rec_]
      · intro k hk1 hk2
        rw [bl_set, if_neg (by omega), bl_set, if_neg (by omega)]
        exact hg.old k hk1 hk2
      · refine ⟨fun k hk1 hk2 => ?_, by simp, rfl, rfl⟩
        rw [bl_set, if_neg (by omega), bl_set, if_neg (by omega)]
    | true =>
      rw [htd] at hgood
      simp only [if_true, List.cons_append] at hgood
      obtain ⟨h', q1, q2, q3⟩ := hy.call _ _ _ (hy.keep _ _ _ hgood (OwnH.set (l := l) hln (.loop .busy none t [28, 29] a35_0 b35_0)))
      have hl' : h'.bl l = some (.loop .busy none t [28, 29] a35_0 b35_0) := by
        rw [q3.mid l hln (by simpa using hg.lt)]
        simp [hg.rec_]
      have hlen' : h.blks.length ≤ h'.blks.length := by simpa using q3.len
      have hro' : h'.ro ≤ l := by have := q3.ro; simp at this; omega
      refine ⟨_, round_told H ok sh hn hp hp2 hj hg.rec_ hro ht h2 h3 h5 e2 e3 ec (by omega) (by omega) (by omega) htd q1 hl' hro', ⟨?_, hlt', ?_, ?_, ?_⟩, ?_⟩
      · exact hy.keep _ _ _ q2 (OwnH.set hln _)
      · simp [hl']
      · intro k hk1 hk2
        rw [bl_set, if_neg (by omega), q3.mid k hk1 (by have := hg.lt; simp; omega), bl_set, if_neg (by omega)]
        exact hg.old k hk1 hk2
      · have := hg.lt
        simp
        omega
      · refine ⟨fun k hk1 hk2 => ?_, by simpa using hlen', ?_, ?_⟩
        · rw [bl_set, if_neg (by omega), q3.mid k (by omega) (by simpa using hk2), bl_set, if_neg (by omega)]
        · have := q3.ro; simpa using this
        · have := q3.rot; simpa using this
  keep := fun j h h' hg o => ⟨hy.keep _ _ _ hg.good (o.weak (by omega)), hg.lt_, (o.old l (by omega)).trans hg.rec_, fun k hk1 hk2 => (o.old k (by omega)).trans (hg.old k hk1 hk2), Nat.lt_of_lt_of_le hg.lt o.len⟩

/-- The range over atoms, whole. -/
theorem inner_range (H : Has 37 E) (H54 : Has 54 E) (ok : B.Ok) (sh : B.Short) (hn : n < 5) {Y : AV} {n0 : Nat} {Good : List (Nat × Int) → AHeap → Prop} (hy : YieldsL E Y n0 (symArgs n B.L B.Q) Good) {p : Int} (hp : -1 ≤ p) (hp2 : p < B.Q.length) {rest : List (Nat × Int)}
    {g : AHeap} {b2 b3 c rb : Nat} {P : AV} {F : Fr} (hr : F.rnd = .call) (ht : F.t.length = 48) (h2 : F.t[2]? = some (.ref b2 0)) (h3 : F.t[3]? = some (.ref b3 0)) (h5 : F.t[5]? = some (.ref c 0)) (h27 : F.t[27]? = some (.fn (.func 54) [] [.ref rb 0]))
    (hb2 : g.bl b2 = some (.cells [Y])) (hb3 : g.bl b3 = some (.cells (B.book n))) (hc : g.bl c = some (.cells [.int .i64 p]))
    (hrb : g.bl rb = some (.cells [B.A, P])) (k2 : n0 ≤ b2) (k3 : n0 ≤ b3) (kc : n0 ≤ c) (hg : Good (toldL n B.L B.Q p (B.L.zipIdx 0) ++ rest) g) :
    ∃ h', EvCode E (.rangeFunc (.tmp 27) [28, 29] a35_0 b35_0) F g = some (.normal, F, h') ∧ (Good rest h' ∧ KeptH n0 g h') := by
  have hf : opd E F (.tmp 27) = .fn (.func 54) [] [.ref rb 0] := by simp [-getElem?_pos, h27]
  rw [EvCode_rangeFunc hf (by simp [hr])]
  have hn0 := hy.len _ _ hg
  have l2 := blk_lt hb2
  have l3 := blk_lt hb3
  have lc := blk_lt hc
  obtain ⟨g', hg'⟩ : ∃ g', g.push (.loop .ready none F.t [28, 29] a35_0 b35_0) = g' := ⟨_, rfl⟩
  have hold : ∀ k, k < g.blks.length → g'.bl k = g.bl k := fun k hk => by rw [← hg', bl_push, if_neg (by omega)]
  have hiy := inner_yields H ok sh hn hy hp hp2 (rest := rest) (g := g') (l := g.blks.length) (t := F.t) ht h2 h3 h5 ((hold _ l2).trans hb2) ((hold _ l3).trans hb3) ((hold _ lc).trans hc) ⟨k2, l2⟩ ⟨k3, l3⟩ ⟨kc, lc⟩
  obtain ⟨h', q1, q2, q3⟩ := each_range H54 ok hiy (P := P) ((hold _ (blk_lt hrb)).trans hrb)
    (h := g') ⟨by rw [← hg']; exact hy.keep _ _ _ hg (OwnH.push hn0 _), fun x hx => by have := List.snd_lt_of_mem_zipIdx hx; omega, by rw [← hg']; simp, fun k _ _ => rfl, by rw [← hg']; simp⟩
  rw [hg', q1]
  have hgd := q2.good
  simp only [toldL, List.filter_nil, List.map_nil, List.nil_append] at hgd
  have hro : h'.ro ≤ g.blks.length := by have := hy.ro _ _ hgd; omega
  have hlen := q2.lt
  refine ⟨h'.setBlk g.blks.length .dead, ?_, hy.keep _ _ _ hgd (OwnH.set hn0 _), fun k h1 h2' => ?_, by simp; omega, ?_, ?_⟩
  · simp only [endRange, hro, if_true, blks_bl, q2.rec_]
  · rw [bl_set, if_neg (by omega), q2.old k h1 h2', hold k h2']
  · have := q3.ro; rw [← hg'] at this; simpa using this
  · have := q3.rot; rw [← hg'] at this; simpa using this
end Go.Pv
