/- Part 20 of the proof: what functions of the program come to. Conditions: none; definitions and theorems that the statement's proof uses. -/
import Derived.Test.YtleaeoncofgkjaaDoorPart14
import Derived.Test.YtleaeoncofgkjaaDoorPart19
/- Tokens: what AppendSeq of a text's tokens comes to. Conditions: the functions' codes; theorems. -/
namespace Go.Pv
variable {E : Env}

theorem seq_round {h : AHeap} {t : List AV} {k : Tok} {done : List Tok} {v : AV} (hl : h.bl 4 = some (.loop .ready none t [7] a31_0 b31_0)) (hro : h.ro = 0) (ht : t.length = 13) (h2 : t[2]? = some (.ref 3 0))
    (h1 : h.bl 3 = some (.cells [v])) (hg : Grow h 4 (done.flatMap Tok.cs) done.length v) (hr : h.rot ≤ h.toks.length) (hd : done.length < 1000000) :
    ∃ ts v', EvCall E (.fn (.yield 4) [] []) (tokArgs k) h = some (.ret (.bool true), ((((h.push (.cells k.cs)).setBlk 4 (.loop .busy none t [7] a31_0 b31_0)).toks_ ts).setBlk 3 (.cells [v'])).setBlk 4 (.loop .ready none t [7] a31_0 b31_0)) ∧
      Grow (h.toks_ ts) 4 ((done ++ [k]).flatMap Tok.cs) (done ++ [k]).length v' ∧ h.toks.length ≤ ts.length := by
  obtain ⟨ts, v', e1, g1, r1⟩ := grow_app (h := (h.push (.cells k.cs)).setBlk 4 (.loop .busy none t [7] a31_0 b31_0)) (bytes := 40) (m := 1) (xs := k.cs) (hg.of_heap (by rfl) (by rfl)) (by exact hr) (by omega) (by omega) (by omega) rfl (Tok.all _)
  refine ⟨ts, v', ?_, ?_, r1⟩
  · have hm1 := g1.cells
    unfold AV.cells? at hm1
    simp only [Tok.cs] at e1
    simp only [tokArgs, Tok.cs]
    rw [EvCall_yield, EvRound_eq (h := h) hl rfl]
    have hne := blk_ne hl
    have hne1 := blk_ne h1
    simp only [a31_0, b31_0] at hl e1
    simp [-den, -getElem?_pos, List.getElem?_cons_zero, List.getElem?_cons_succ, a31_0, b31_0, setAll, beginRd, endRd, hl, hro, h1, h2, ht, push_set, hne, hne1, e1, hm1, g1.cell, bl_toks, ro_toks, len_toks]
  · have := g1.of_heap (h' := h.toks_ ts) rfl rfl
    simpa using this
structure SeqGood (x : Int) (s : List UInt8) (t : List AV) (b0 : ABlk) (all rest : List Tok) (h : AHeap) : Prop where
  rec_ : h.bl 4 = some (.loop .ready none t [7] a31_0 b31_0)
  c0 : h.bl 0 = some b0
  c1 : h.bl 1 = some (.cells [.int .i64 x])
  c2 : h.bl 2 = some (.cells [.str s])
  ro : h.ro = 0
  rot : h.rot ≤ h.toks.length
  len : 5 ≤ h.blks.length
  out : ∃ done v, done ++ rest = all ∧ h.bl 3 = some (.cells [v]) ∧ Grow h 4 (done.flatMap Tok.cs) done.length v
theorem seq_yields {x : Int} {s : List UInt8} {t : List AV} {b0 : ABlk} {all : List Tok} (ht : t.length = 13) (h2 : t[2]? = some (.ref 3 0)) (hall : all.length < 1000000) :
    YieldsL E (.fn (.yield 4) [] []) 5 tokArgs (SeqGood x s t b0 all) where
  len := fun l h hg => hg.len
  ro := fun l h hg => by rw [hg.ro]; omega
  call := fun k l h hg => by
    obtain ⟨done, v, hd, h1, hgr⟩ := hg.out
    have hlen : done.length < 1000000 := by
      have := congrArg List.length hd
      simp at this
      omega
    obtain ⟨ts, v', q1, q2, q3⟩ := seq_round (k := k) hg.rec_ hg.ro ht h2 h1 hgr hg.rot hlen
    have hl := hg.len
    refine ⟨_, q1, ⟨?_, ?_, ?_, ?_, hg.ro, ?_, ?_, done ++ [k], v', by simpa using hd, ?_, ?_⟩, ⟨fun j h1 h2 => ?_, ?_, ?_, ?_⟩⟩
    · simp [bl_toks, hg.rec_, blk_ne hg.rec_]
    · simp [bl_toks, hg.c0, blk_ne hg.c0]
    · simp [bl_toks, hg.c1, blk_ne hg.c1]
    · simp [bl_toks, hg.c2, blk_ne hg.c2]
    · exact Nat.le_trans hg.rot q3
    · simp [len_toks]; omega
    · simp [bl_toks, h1, blk_ne h1]
    · exact Grow.of_heap q2 (by rfl) (by rfl)
    · rw [bl_set, if_neg (by omega), bl_set, if_neg (by omega), bl_toks, bl_set, if_neg (by omega), bl_push, if_neg (by omega)]
    · simp [len_toks]
    · rfl
    · rfl
  keep := fun l h h' hg o => ⟨(o.old 4 (by omega)).trans hg.rec_, (o.old 0 (by omega)).trans hg.c0, (o.old 1 (by omega)).trans hg.c1, (o.old 2 (by omega)).trans hg.c2, o.ro.trans hg.ro, by rw [o.rot, o.toks]; exact hg.rot, Nat.le_trans hg.len o.len, by
    obtain ⟨done, v, hd, h1, hgr⟩ := hg.out
    exact ⟨done, v, hd, (o.old 3 (by omega)).trans h1, hgr.of_heap o.toks o.rot⟩⟩
theorem seq_eq (H : Has 31 E) (H46 : Has 46 E) (x : Int) (s : List UInt8) (hs : s.length < 900000) (b0 : ABlk) :
    ∃ h' v, EvCall E (.fn (.func 31) [] []) [.nils, .fn (.func 46) [] [.ref 2 0, .ref 1 0]] (((heap0.push b0).push (.cells [.int .i64 x])).push (.cells [.str s])) = some (.ret v, h') ∧ Grow h' 4 ((lexS x s).1.flatMap Tok.cs) (lexS x s).1.length v ∧ h'.bl 0 = some b0 ∧ h'.ro = 0 ∧ h'.rot ≤ h'.toks.length := by
  rw [EvCall_open H.c31 rfl, EvFn_eq]
  obtain ⟨t, ht⟩ : ∃ t, ([.nils, .fn (.func 46) [] [.ref 2 0, .ref 1 0], .ref 3 0, .junk, .nils, .junk, .fn (.func 46) [] [.ref 2 0, .ref 1 0], .junk, .junk, .junk, .junk, .junk, .junk] : List AV) = t := ⟨_, rfl⟩
  obtain ⟨g, hg⟩ : ∃ g, ((((heap0.push b0).push (.cells [.int .i64 x])).push (.cells [.str s])).push (.cells [.nils])).push (.loop .ready none t [7] a31_0 b31_0) = g := ⟨_, rfl⟩
  have hll := lexF_len x s.length s 0
  have hS : lexF x s.length s 0 = lexS x s := rfl
  rw [hS] at hll
  obtain ⟨h', q1, q2, q3⟩ := each46_range H46 x (seq_yields (x := x) (s := s) (t := t) (b0 := b0) (all := (lexS x s).1) (by rw [← ht]; rfl) (by rw [← ht]; rfl) (by omega)) (fun l h hh => hh.c2) (fun l h hh => hh.c1) hs g
    ⟨by rw [← hg]; simp, by rw [← hg]; simp, by rw [← hg]; simp, by rw [← hg]; simp, by rw [← hg]; rfl, by rw [← hg]; simp [heap0, AHeap.push], by rw [← hg]; simp, [], .nils, rfl, by rw [← hg]; simp, grow_nil _ _⟩
  obtain ⟨done, v, hd, h1, hgr⟩ := q2.out
  rw [List.append_nil] at hd
  subst hd
  have hrec := q2.rec_
  have hro := q2.ro
  refine ⟨h'.setBlk 4 .dead, v, ?_, hgr.of_heap rfl rfl, by simp [q2.c0], hro, q2.rot⟩
  simp [f31, start]
  rw [EvCode_rangeFunc (j := 46) (first := []) (caps := [.ref 2 0, .ref 1 0]) rfl (by simp)]
  simp
  rw [ht, hg, q1]
  simp [endRange, hro, hrec, h1, ← ht]
end Go.Pv
/- The tree of tokens, and of a text. Conditions: the functions' codes; theorems. -/
namespace Go.Pv
variable {E : Env} {x sz : Int}

theorem growF_shut {k0 : Nat} {h : AHeap} {t : List StepA} {v : AV} (g : GrowF k0 h 6 (t.flatMap StepA.cs) t.length v) : shut 0 0 v = some (stepsV t) := by
  have hs := shutL_flat (n := 0) (t := 0) (f := StepA.cs) (fun s => s.shut) t
  rcases g with ⟨h1, rfl, _⟩ | ⟨k, rfl, _, _, _, _, h5⟩
  · have he : t.isEmpty = false := by
      cases t with
      | nil => simp at h1
      | cons a t => rfl
    simp [stepsV, he, hs, h1]
  · have he : t.isEmpty = false := by
      cases t with
      | nil => simp at h5
      | cons a t => rfl
    have h1 : ¬ t.length = 1 := by omega
    simp [stepsV, he, hs, h1]
theorem stepsV_shut (t : List StepA) : shut 0 0 (stepsV t) = some (stepsV t) := by
  have hs := shutL_flat (n := 0) (t := 0) (f := StepA.cs) (fun s => s.shut) t
  unfold stepsV
  split
  · simp
  · split <;> simp [hs]
theorem stepsV_cell (t : List StepA) : (stepsV t).isCell = true := by
  unfold stepsV
  split <;> rfl
theorem def_none (H : Has 48 E) {h : AHeap} (hro : h.ro = 0) : EvDef E 48 [.ref 0 0] none h = some (none, h.push (.cells [.int .i64 0, .int .i64 0])) := by
  rw [EvDef_eq H.c48]
  simp [f48, push_set, hro]
theorem def_some (H : Has 48 E) {h : AHeap} {a b c d : AV} (hb : h.bl 0 = some (.cells [a, b, c, d])) (hro : h.ro = 0) (e : PErr) :
    EvDef E 48 [.ref 0 0] (some (errV e)) h = some (none, (h.push (.cells [.int .i64 e.1, .int .i64 e.2])).setBlk 0 (.cells [.nils, .int .i64 e.1, .int .i64 e.2, .int .i64 0])) := by
  have n0 := blk_ne hb
  rw [EvDef_eq H.c48]
  simp [f48, push_set, hro, errV, n0, hb]
theorem toksV_rest (l : List Tok) : RestV (toksV l) l := by
  cases l with
  | nil => exact .inl ⟨rfl, rfl⟩
  | cons t l => exact .inr rfl
theorem toksV_cell (l : List Tok) : (toksV l).isCell = true := by cases l <;> rfl
theorem toksV_cells (l : List Tok) : (toksV l).cells? = some [toksV l] := by cases l <;> rfl
/-- The heap as a parser meets it. -/
def heapP (x sz : Int) (lv : AV) : AHeap := ((heap0.push (.cells [.nils, .int .i64 0, .int .i64 0, .int .i64 0])).push (.cells (sty x).cs)).push (parsB x sz 0 (sty x) lv .nilp)
theorem ps_first (l : List Tok) : PS x sz (sty x) 2 (heapP x sz (toksV l)) 0 l none :=
  ⟨⟨toksV l, .nilp, by simp [heapP], toksV_rest l, rfl⟩, rfl, Nat.le_refl _⟩
theorem sty_cl (y : Sty) : y.cs = [.bool y.fold, b8 y.mul, b8 y.div, b8 y.pow, b8 y.opn, b8 y.cls] := rfl
theorem len_eq {y : Sty} {h : AHeap} {l : List Tok} {u : Option Tok} {p n : Nat} (S : PS x sz y p h n l u) : ∃ lv uv, h.bl p = some (.cells [.int .i64 x, .int .i64 sz, .int .i64 n, .bool y.fold, b8 y.mul, b8 y.div, b8 y.pow, b8 y.opn, b8 y.cls, lv, uv]) ∧ ((l = [] ∧ lv = .nils) ∨ lv = restV l) ∧ UnkV p h uv u := by
  obtain ⟨⟨lv, uv, h1, h2, h3⟩, _⟩ := S
  exact ⟨lv, uv, h1, h2, h3⟩
set_option maxHeartbeats 2000000 in
theorem tree_eq (H : Has 33 E) (hx : isN x = true) (l : List Tok) (hl : l.length < 900000) {lv : AV} (hlv : shut 0 0 lv = some (toksV l)) :
    EvClosed E (.fn (.func 33) [] []) [.int .i64 x, lv, .int .i64 sz] = some (.agg (treeP x sz l).cs) := by
  rw [EvClosed_eq H.c33 rfl (vs := [.int .i64 x, toksV l, .int .i64 sz]) (by simp [hlv]), EvFn_eq]
  have hof := of_eq (H.to 44) x
  rw [hx, sty_cl] at hof
  have hx' : 1 ≤ x ∧ x ≤ 5 := by simpa [isN] using hx
  have q := main_any (H.to 49) hx' 32 0 (by omega) _ l none (ps_first (x := x) (sz := sz) l) hl
  have hcl := toksV_cells l
  unfold AV.cells? at hcl
  have hhp : heapP x sz (toksV l) = ((heap0.push (.cells [.nils, .int .i64 0, .int .i64 0, .int .i64 0])).push (.cells [.bool (sty x).fold, b8 (sty x).mul, b8 (sty x).div, b8 (sty x).pow, b8 (sty x).opn, b8 (sty x).cls])).push (.cells [.int .i64 x, .int .i64 sz, .int .i64 0, .bool (sty x).fold, b8 (sty x).mul, b8 (sty x).div, b8 (sty x).pow, b8 (sty x).opn, b8 (sty x).cls, toksV l, .nilp]) := rfl
  have hb0 : (heapP x sz (toksV l)).bl 0 = some (.cells [.nils, .int .i64 0, .int .i64 0, .int .i64 0]) := by simp [heapP]
  have hl0 : 0 < (heapP x sz (toksV l)).blks.length := by simp [heapP]
  unfold treeP
  cases hm : mainP x sz (levelP x sz 32) l none with
  | error e =>
    rw [hm] at q
    obtain ⟨h', e1, K⟩ := q
    have hb : h'.bl 0 = some (.cells [.nils, .int .i64 0, .int .i64 0, .int .i64 0]) := (K.bl 0 (by omega) hl0).trans hb0
    have hro : h'.ro = 0 := K.ro
    have n0 := blk_ne hb
    have hd := def_some (H.to 48) hb hro e
    rw [hhp] at e1
    simp [f33, start, EvCall_closed H.c44 rfl, hof, push_setk, hcl, e1, hd, n0, hb, Psd.cs, stepsV]
  | ok w =>
    obtain ⟨t, l', u'⟩ := w
    rw [hm] at q
    obtain ⟨h', v, e1, G, S, K⟩ := q
    have hb : h'.bl 0 = some (.cells [.nils, .int .i64 0, .int .i64 0, .int .i64 0]) := (K.bl 0 (by omega) hl0).trans hb0
    have hro : h'.ro = 0 := K.ro
    have n0 := blk_ne hb
    rw [hhp] at e1
    obtain ⟨lw, uw, c1, c2, c3⟩ := len_eq S
    have hro2 : ∀ y, (h'.setBlk 0 y).ro = 0 := fun y => hro
    have dn := fun y => def_none (H.to 48) (hro2 y)
    cases l' with
    | cons k m =>
      have mb := must_bad (H.to 50) S
      have hd := def_some (H.to 48) hb hro (14, k.pos)
      have c2' : lw = restV (k :: m) := by
        rcases c2 with ⟨q, _⟩ | q
        · cases q
        · exact q
      subst c2'
      have hlt : ((m.length : Int) + 1 == 0) = false := by simp; omega
      simp only [atT] at mb
      simp only [restV] at c1
      simp [f33, start, EvCall_closed H.c44 rfl, hof, push_setk, hcl, e1, c1, hlt, mb, hd, n0, hb, Psd.cs, stepsV]
    | nil =>
      have mo := must_ok (E := E) (p := 2) (H.to 50) h'
      have hv := growF_shut G
      have hvc := G.cell
      have hvs := G.cells
      unfold AV.cells? at hvs
      have c2' : lw = .nils ∨ lw = .vs .shared 0 [] := by
        rcases c2 with ⟨_, q⟩ | q
        · exact .inl q
        · exact .inr q
      cases u' with
      | none =>
        have c3' : uw = .nilp := c3
        subst c3'
        rcases c2' with rfl | rfl <;> simp [f33, start, EvCall_closed H.c44 rfl, hof, push_setk, hcl, e1, c1, mo, dn, n0, hb, hro, hvc, hvs, hv, Psd.cs]
      | some tk =>
        obtain ⟨b, hb1, hb2, hb3⟩ := c3
        subst hb1
        simp only [Tok.cs] at hb3
        rcases c2' with rfl | rfl <;> simp [f33, start, EvCall_closed H.c44 rfl, hof, push_setk, hcl, e1, c1, mo, dn, n0, hb, hro, hb3, Psd.cs, stepsV]
set_option maxHeartbeats 2000000 in
theorem parse_eq (H : Has 20 E) (x : Int) (s : List UInt8) (hs : s.length < 900000) : EvClosed E (.fn (.func 20) [] []) [.int .i64 x, .str s] = some (.agg (parseP x s).cs) := by
  rw [EvClosed_eq H.c20 rfl (vs := [.int .i64 x, .str s]) (by simp), EvFn_eq]
  have hlx := lex_eq (H.to 30) x s hs
  unfold lexR at hlx
  unfold parseP
  cases hn : isN x with
  | false =>
    rw [hn] at hlx
    simp only [Bool.false_eq_true, if_false] at hlx ⊢
    simp only [toksV, List.isEmpty_nil, if_true] at hlx
    simp [f20, start, EvCall_closed H.c30 rfl, hlx, Psd.cs, stepsV, push_setk]
  | true =>
    rw [hn] at hlx
    simp only [if_true] at hlx ⊢
    by_cases h255 : s.length ≤ 255
    · simp only [if_pos h255] at hlx ⊢
      have hlen := lexF_len x s.length s 0
      have e : lexF x s.length s 0 = lexS x s := rfl
      rw [e] at hlen
      by_cases hend : (lexS x s).2 < s.length
      · simp only [if_pos hend] at hlx ⊢
        simp only [toksV, List.isEmpty_nil, if_true] at hlx
        obtain ⟨h', v, e1, G, hb, hro, hrot⟩ := seq_eq (H.to 31) (H.to 46) x s hs (.cells [.nils, .int .i64 0, .int .i64 0, .int .i64 0])
        have e0 := fun h => each32_eq (H.to 32) (x := x) (s := s) (h := h)
        obtain ⟨ts, v', a1, G2, ht⟩ := grow_app (h := h') (bytes := 40) (m := 1) (xs := Tok.cs ⟨0, (lexS x s).2, [], 0⟩) G hrot (by omega) (by omega) (by omega) rfl (Tok.all _)
        have hsh := grow_shut (l := (lexS x s).1 ++ [⟨0, (lexS x s).2, [], 0⟩]) (by simpa using G2)
        have ht2 := tree_eq (H.to 33) (sz := s.length) hn ((lexS x s).1 ++ [⟨0, (lexS x s).2, [], 0⟩]) (by simp; omega) hsh
        simp only [Tok.cs] at a1
        have n0 := blk_ne hb
        generalize treeP x s.length ((lexS x s).1 ++ [⟨0, (lexS x s).2, [], 0⟩]) = q at ht2 ⊢
        have qs := stepsV_shut q.tree
        have qc := stepsV_cell q.tree
        simp only [Psd.cs] at ht2 ⊢
        simp [-den, f20, start, EvCall_closed H.c30 rfl, EvCall_closed H.c33 rfl, hlx, e0, e1, a1, ht2, bl_toks, ro_toks, hb, hro, qs, qc]
      · simp only [if_neg hend] at hlx ⊢
        have ht2 := tree_eq (H.to 33) (sz := s.length) hn (lexS x s).1 (by omega) (toksV_shut _)
        generalize treeP x s.length (lexS x s).1 = q at ht2 ⊢
        have qs := stepsV_shut q.tree
        have qc := stepsV_cell q.tree
        simp only [Psd.cs] at ht2 ⊢
        simp [f20, start, EvCall_closed H.c30 rfl, EvCall_closed H.c33 rfl, hlx, ht2, qs, qc]
    · simp only [if_neg h255] at hlx ⊢
      simp only [toksV, List.isEmpty_nil, if_true] at hlx
      simp [f20, start, EvCall_closed H.c30 rfl, hlx, Psd.cs, stepsV, push_setk]
end Go.Pv
