/- Part 13 of the proof: what functions of the program come to. Conditions: none; definitions and theorems that the statement's proof uses. -/
import Derived.Test.YtleaeoncofgkjaaDoorPart12
/- What ranging over all symbols comes to: all of it. Conditions: the functions' codes; theorems. -/
namespace Go.Pv
variable {E : Env} {B : Tb} {n : Nat}

/-- All symbols told, from a prefix on (0: none). -/
def allFrom (n : Nat) (L : List AtomR) (Q : List PrefR) (i : Nat) : List (Nat × Int) := (List.range' i (Q.length + 1 - i)).flatMap fun (i : Nat) => toldL n L Q ((i : Int) - 1) (L.zipIdx 0)
theorem allFrom_step {L : List AtomR} {Q : List PrefR} {i : Nat} (hi : i < Q.length + 1) : allFrom n L Q i = toldL n L Q ((i : Int) - 1) (L.zipIdx 0) ++ allFrom n L Q (i + 1) := by
  unfold allFrom
  rw [show Q.length + 1 - i = (Q.length + 1 - (i + 1)) + 1 by omega, List.range'_succ, List.flatMap_cons]
theorem allFrom_end {L : List AtomR} {Q : List PrefR} : allFrom n L Q (Q.length + 1) = [] := by simp [allFrom]

theorem all_loop (H : Has 35 E) (ok : B.Ok) (sh : B.Short) (hn : n < 5) {Y : AV} {n0 b2 b3 : Nat} {Good : List (Nat × Int) → AHeap → Prop} (hy : YieldsL E Y n0 (symArgs n B.L B.Q) Good) (k2 : n0 ≤ b2) (k3 : n0 ≤ b3) :
    ∀ (m i : Nat), i + m = B.Q.length + 1 → ∀ (h : AHeap) (c : Nat), Good (allFrom n B.L B.Q i) h → h.bl b2 = some (.cells [Y]) → h.bl b3 = some (.cells (B.book n)) → h.bl c = some (.cells [.int .i64 ((i : Int) - 1)]) → n0 ≤ c →
    ∃ h', (∀ F, mask k35_0 F = s35_0 (.ref b2 0) (.ref b3 0) (.bool true) (.ref c 0) .junk → EvCode E (.loop k35_0 l35_0) F h = some (.exit 0, x35_0, h')) ∧ (Good [] h' ∧ KeptH n0 h h')
  | 0, i, hi, h, c, hg, e2, e3, ec, kc => by
    have hi' : i = B.Q.length + 1 := by omega
    subst hi'
    rw [allFrom_end] at hg
    refine ⟨h, fun F hF => ?_, hg, KeptH.refl _ _⟩
    rw [EvCode_loop, hF]
    simp only [Tb.book, Tb.P] at e3
    have hc : ((B.Q.length + 1 : Nat) : Int) - 1 = B.Q.length := by omega
    rw [hc] at ec
    simp [l35_0, s35_0, x35_0, e3, ec]
  | m + 1, i, hi, h, c, hg, e2, e3, ec, kc => by
    have hn0 := hy.len _ _ hg
    have hlt : i < B.Q.length + 1 := by omega
    have hpl := ok.plen
    rw [allFrom_step hlt] at hg
    have l2 := blk_lt e2
    have l3 := blk_lt e3
    have lc := blk_lt ec
    have hold : ∀ (b : ABlk) k, k < h.blks.length → (h.push b).bl k = h.bl k := fun b k hk => by rw [bl_push, if_neg (by omega)]
    have hir := fun F hr ht h2 h3 h5 h27 => inner_range (H.to 37) (H.to 54) ok sh hn hy (p := (i : Int) - 1) (by omega) (by omega) (rest := allFrom n B.L B.Q (i + 1)) (g := h.push (.cells [B.A, B.P])) (F := F)
      (b2 := b2) (b3 := b3) (c := c) (rb := h.blks.length) (P := B.P) hr ht h2 h3 h5 h27
      ((hold _ _ l2).trans e2) ((hold _ _ l3).trans e3) ((hold _ _ lc).trans ec) (by simp) k2 k3 kc (hy.keep _ _ _ hg (OwnH.push hn0 _))
    obtain ⟨h1, q1, q2, q3⟩ := hir ⟨[.junk, .junk, .ref b2 0, .ref b3 0, .bool true, .ref c 0, .junk, .junk, .junk, .junk, .junk, .junk, .junk, .junk, .bool true, .bool true, .int .i64 ((i : Int) - 1), .ref b3 0, .ref b3 1, B.P, .int .i64 B.Q.length, .bool true, .bool true, .junk,
      .junk, .ref b3 0, .agg [B.A, B.P], .fn (.func 54) [] [.ref h.blks.length 0], .junk, .junk, .junk, .junk, .junk, .junk, .junk, .junk, .junk, .junk, .junk, .junk, .junk, .junk, .junk, .junk, .junk, .junk, .junk, .junk], [], .call⟩ rfl rfl rfl rfl rfl rfl
    have hlen : h.blks.length < h1.blks.length := by
      have := q3.len
      simp only [blks_push_length] at this
      omega
    have c1 : h1.bl c = some (.cells [.int .i64 ((i : Int) - 1)]) := (q3.mid c kc (by simp; omega)).trans ((hold _ _ lc).trans ec)
    have c2 : h1.bl b2 = some (.cells [Y]) := (q3.mid b2 k2 (by simp; omega)).trans ((hold _ _ l2).trans e2)
    have c3 := (q3.mid b3 k3 (by simp; omega)).trans ((hold _ _ l3).trans e3)
    have hro1 := hy.ro _ _ q2
    have hro : h1.ro ≤ h1.blks.length := by omega
    have e : ((i + 1 : Nat) : Int) - 1 = i := by omega
    obtain ⟨h2, p1, p2, p3⟩ := all_loop H ok sh hn hy k2 k3 m (i + 1) (by omega) (h1.push (.cells [.int .i64 (i : Int)])) h1.blks.length (hy.keep _ _ _ q2 (OwnH.push (by omega) _))
      (by rw [bl_push, if_neg (by omega)]; exact c2) (by rw [bl_push, if_neg (by omega)]; exact c3) (by rw [e]; simp) (by omega)
    refine ⟨h2, fun F hF => ?_, p2, (KeptH.push n0 h _).trans (q3.trans ((KeptH.push n0 h1 _).trans p3))⟩
    rw [EvCode_loop, hF]
    have hlq : (i : Int) - 1 < B.Q.length := by omega
    have hw : IntKind.i64.wrap (i : Int) = (i : Int) := w64
    simp only [Tb.book, Tb.P] at e3 q1
    generalize hlp : EvCode E (.loop k35_0 l35_0) = lp at p1 ⊢
    simp [-getElem?_pos, List.getElem?_cons_zero, List.getElem?_cons_succ, l35_0, s35_0, e2, e3, ec, hlq, each_eq (H.to 36), q1, c1, hro, push_set, hw]
    exact p1 _ (by simp [s35_0])
theorem all_range (H : Has 35 E) (ok : B.Ok) (sh : B.Short) (h38 : EvClosed E (.fn (.func 38) [] []) [] = some B.V) (hn : n < 5) {yl n0 nb : Nat} {Good : List (Nat × Int) → AHeap → Prop} (hy : YieldsL E (.fn (.yield yl) [] []) n0 (symArgs n B.L B.Q) Good)
    {h : AHeap} (hnb : h.bl nb = some (.cells [.int .i64 ((n : Int) + 1)])) (hg : Good (allFrom n B.L B.Q 0) h) :
    ∃ h', EvCall E (.fn (.func 35) [] [.ref nb 0]) [.fn (.yield yl) [] []] h = some (.ret (.tuple []), h') ∧ (Good [] h' ∧ KeptH n0 h h') := by
  have hn0 := hy.len _ _ hg
  have hro := hy.ro _ _ hg
  have hop := open_eq (H.to 25) ok h38 ((n : Int) + 1)
  have h1 : decide (1 ≤ (n : Int) + 1) = true := decide_eq_true (by omega)
  have h2 : decide ((n : Int) + 1 ≤ 5) = true := decide_eq_true (by omega)
  simp only [h1, h2, Bool.and_self] at hop
  obtain ⟨g, hgd⟩ : ∃ g, ((h.push (.cells [.fn (.yield yl) [] []])).push (.cells (B.book n))).push (.cells [.int .i64 (-1)]) = g := ⟨_, rfl⟩
  obtain ⟨h', q1, q2, q3⟩ := all_loop H ok sh hn hy (b2 := h.blks.length) (b3 := h.blks.length + 1) hn0 (by omega) (B.Q.length + 1) 0 (by omega) g (h.blks.length + 2)
    (by rw [← hgd]; exact hy.keep _ _ _ (hy.keep _ _ _ (hy.keep _ _ _ hg (OwnH.push hn0 _)) (OwnH.push (by simp; omega) _)) (OwnH.push (by simp; omega) _))
    (by rw [← hgd]; simp; omega) (by rw [← hgd]; simp) (by rw [← hgd]; simp) (by omega)
  refine ⟨h', ?_, q2, (KeptH.push n0 h _).trans ((KeptH.push n0 _ _).trans ((KeptH.push n0 _ _).trans (by rw [hgd]; exact q3)))⟩
  rw [EvCall_open H.c35 rfl, EvFn_eq]
  have ca := @Tb.A_cell B
  have cp := @Tb.P_cell B
  simp only [Tb.book] at hgd
  generalize hlp : EvCode E (.loop k35_0 l35_0) = lp at q1
  simp [f35, start, hnb, blk_ne hnb, EvCall_closed H.c25 rfl, hop, ca, cp, push_set, push_setk, (by omega : h.ro ≤ h.blks.length), (by omega : h.ro ≤ h.blks.length + 1), (by omega : h.ro ≤ h.blks.length + 2), hgd, hlp]
  rw [q1 _ (by simp [s35_0])]
  simp [x35_0]
theorem all_none (H : Has 35 E) (ok : B.Ok) (h38 : EvClosed E (.fn (.func 38) [] []) [] = some B.V) {x : Int} (hx : ¬ (1 ≤ x ∧ x ≤ 5)) {yl nb : Nat} {h : AHeap} (hnb : h.bl nb = some (.cells [.int .i64 x])) (hro : h.ro ≤ h.blks.length) :
    EvCall E (.fn (.func 35) [] [.ref nb 0]) [.fn (.yield yl) [] []] h = some (.ret (.tuple []), ((h.push (.cells [.fn (.yield yl) [] []])).push (.cells [B.A, B.P, .int .i64 x])).push (.cells [.int .i64 (-1)])) := by
  have hop := open_eq (H.to 25) ok h38 x
  have h1 : (decide (1 ≤ x) && decide (x ≤ 5)) = false := by
    cases h : (decide (1 ≤ x) && decide (x ≤ 5))
    · rfl
    · simp at h; exact absurd h hx
  rw [h1] at hop
  rw [EvCall_open H.c35 rfl, EvFn_eq]
  have ca := @Tb.A_cell B
  have cp := @Tb.P_cell B
  simp [f35, start, hnb, blk_ne hnb, EvCall_closed H.c25 rfl, hop, ca, cp, push_set, push_setk, hro, (by omega : h.ro ≤ h.blks.length + 1), (by omega : h.ro ≤ h.blks.length + 2)]
  rw [EvCode_loop]
  simp [l35_0]
end Go.Pv
