/- Part 22 of the proof: what functions of the program come to. Conditions: none; definitions and theorems that the statement's proof uses. -/
import Derived.Test.YtleaeoncofgkjaaDoorPart21
import Derived.Test.YtleaeoncofgkjaaDoorPart8
/- What a row of symbols comes to. Conditions: the functions' codes; theorems. -/
namespace Go.Pv
variable {E : Env} {B : Tb} {n : Nat}

theorem row_first {h : AHeap} {t : List AV} {s : List UInt8} {x : AV} (hl : h.bl 2 = some (.loop .ready none t [7, 8] a11_0 b11_0)) (hro : h.ro = 0) (ht : t.length = 14) (h3 : t[3]? = some (.ref 0 0)) (h0 : h.bl 0 = some (.cells [.nils])) :
    EvCall E (.fn (.yield 2) [] []) [.str s, x] h =
      some (.ret (.bool true), ((((h.setBlk 2 (.loop .busy none t [7, 8] a11_0 b11_0)).toks_ (h.toks ++ [1])).setBlk 0 (.cells [.vs (.tok h.toks.length 1) 1 [.str s]])).setBlk 2 (.loop .ready none t [7, 8] a11_0 b11_0))) := by
  rw [EvCall_yield, EvRound_eq (h := h) hl rfl]
  simp [-getElem?_pos, List.getElem?_cons_zero, List.getElem?_cons_succ, a11_0, b11_0, setAll, beginRd, endRd, hl, hro, h0, h3, ht, appendA, AV.isCell, bl_mk, AHeap.toks_]
theorem row_next {h : AHeap} {t : List AV} {s : List UInt8} {x : AV} {k m : Nat} {cs : List AV} (hl : h.bl 2 = some (.loop .ready none t [7, 8] a11_0 b11_0)) (hro : h.ro = 0) (hrot : h.rot = 0) (ht : t.length = 14) (h3 : t[3]? = some (.ref 0 0)) (h0 : h.bl 0 = some (.cells [.vs (.tok k 1) m cs]))
    (hm : cs.length = m) (hm2 : m < 5000) (hk : h.tk k = some m) :
    EvCall E (.fn (.yield 2) [] []) [.str s, x] h =
      some (.ret (.bool true), ((((h.setBlk 2 (.loop .busy none t [7, 8] a11_0 b11_0)).toks_ (h.toks.set k (m + 1))).setBlk 0 (.cells [.vs (.tok k 1) (m + 1) (cs ++ [.str s])])).setBlk 2 (.loop .ready none t [7, 8] a11_0 b11_0))) := by
  rw [EvCall_yield, EvRound_eq (h := h) hl rfl]
  have hb : (m + 1) * 16 ≤ 140737488355328 := by omega
  simp [-getElem?_pos, List.getElem?_cons_zero, List.getElem?_cons_succ, a11_0, b11_0, setAll, beginRd, endRd, hl, hro, hrot, h0, h3, ht, appendA, AV.isCell, bl_mk, AHeap.toks_, hm, hb, hk]

def symTxt (n : Nat) (L : List AtomR) (Q : List PrefR) (x : Nat × Int) : List UInt8 := symText n L Q x.2 x.1
structure RowGood (n : Nat) (L : List AtomR) (Q : List PrefR) (all : List (Nat × Int)) (t : List AV) (rest : List (Nat × Int)) (h : AHeap) : Prop where
  rec_ : h.bl 2 = some (.loop .ready none t [7, 8] a11_0 b11_0)
  ro : h.ro = 0
  rot : h.rot = 0
  len : 3 ≤ h.blks.length
  out : ∃ done, done ++ rest = all ∧ ((done = [] ∧ h.bl 0 = some (.cells [.nils])) ∨ (done ≠ [] ∧ ∃ k, h.bl 0 = some (.cells [.vs (.tok k 1) done.length (done.map fun x => .str (symTxt n L Q x))]) ∧ h.tk k = some done.length))
theorem row_yields {all : List (Nat × Int)} {t : List AV} (hall : all.length < 5000) (ht : t.length = 14) (h3 : t[3]? = some (.ref 0 0)) : YieldsL E (.fn (.yield 2) [] []) 3 (symArgs n B.L B.Q) (RowGood n B.L B.Q all t) where
  len := fun l h hg => hg.len
  ro := fun l h hg => by rw [hg.ro]; omega
  call := fun x l h hg => by
    obtain ⟨done, hd, ho⟩ := hg.out
    rcases ho with ⟨rfl, h0⟩ | ⟨hne, k, h0, hk⟩
    · refine ⟨_, row_first hg.rec_ hg.ro ht h3 h0, ⟨?_, hg.ro, hg.rot, by simpa [len_toks] using hg.len, [x], by simpa using hd, .inr ⟨by simp, h.toks.length, ?_, ?_⟩⟩, ⟨fun j h1 _ => ?_, by simp [len_toks], rfl, rfl⟩⟩
      · simp [bl_toks, hg.rec_]
      · simp [bl_toks, h0, symTxt]
      · simp [tk_set, tk_toks]
      · rw [bl_set, if_neg (by omega), bl_set, if_neg (by omega), bl_toks, bl_set, if_neg (by omega)]
    · have hlen : done.length < 5000 := by
        have := congrArg List.length hd
        simp at this
        omega
      refine ⟨_, row_next hg.rec_ hg.ro hg.rot ht h3 h0 (by simp) hlen hk, ⟨?_, hg.ro, hg.rot, by simpa [len_toks] using hg.len, done ++ [x], by simpa using hd, .inr ⟨by simp, k, ?_, ?_⟩⟩, ⟨fun j h1 _ => ?_, by simp [len_toks], rfl, rfl⟩⟩
      · simp [bl_toks, hg.rec_]
      · simp [bl_toks, h0, symTxt]
      · have hkl : k < h.toks.length := (List.getElem?_eq_some_iff.1 hk).1
        simp [tk_set, tk_toks, hkl]
      · rw [bl_set, if_neg (by omega), bl_set, if_neg (by omega), bl_toks, bl_set, if_neg (by omega)]
  keep := fun l h h' hg o => ⟨(o.old 2 (by omega)).trans hg.rec_, o.ro.trans hg.ro, o.rot.trans hg.rot, Nat.le_trans hg.len o.len, by
    obtain ⟨done, hd, ho⟩ := hg.out
    refine ⟨done, hd, ?_⟩
    rcases ho with ⟨h1, h0⟩ | ⟨hne, k, h0, hk⟩
    · exact .inl ⟨h1, (o.old 0 (by omega)).trans h0⟩
    · exact .inr ⟨hne, k, (o.old 0 (by omega)).trans h0, by simp only [AHeap.tk, o.toks]; exact hk⟩⟩

/-- A row of texts. -/
def textsV (l : List (List UInt8)) : AV := if l.isEmpty then .nils else .vs .shared l.length (l.map .str)
/-- A notation's symbols, told. -/
def rowL (B : Tb) (x : Int) : List (Nat × Int) := if 1 ≤ x ∧ x ≤ 5 then allFrom (x - 1).toNat B.L B.Q 0 else []
def rowT (B : Tb) (x : Int) : List (List UInt8) := (rowL B x).map (symTxt (x - 1).toNat B.L B.Q)
theorem row_eq (H : Has 11 E) (ok : B.Ok) (sh : B.Short) (h38 : EvClosed E (.fn (.func 38) [] []) [] = some B.V) (hall : ∀ n, (allFrom n B.L B.Q 0).length < 5000) (x : Int) :
    EvClosed E (.fn (.func 11) [] []) [.int .i64 x] = some (textsV (rowT B x)) := by
  rw [EvClosed_eq H.c11 rfl (vs := [.int .i64 x]) (by simp), EvFn_eq]
  obtain ⟨t, ht⟩ : ∃ t, ([.int .i64 x, .junk, .nils, .ref 0 0, .junk, .int .i64 x, .fn (.func 35) [] [.ref 1 0], .junk, .junk, .junk, .junk, .junk, .junk, .junk] : List AV) = t := ⟨_, rfl⟩
  obtain ⟨g, hg⟩ : ∃ g, ((heap0.push (.cells [.nils])).push (.cells [.int .i64 x])).push (.loop .ready none t [7, 8] a11_0 b11_0) = g := ⟨_, rfl⟩
  by_cases hx : 1 ≤ x ∧ x ≤ 5
  · obtain ⟨n, hn, rfl⟩ : ∃ n : Nat, n < 5 ∧ x = (n : Int) + 1 := ⟨(x - 1).toNat, by omega, by omega⟩
    have e : (((n : Int) + 1) - 1).toNat = n := by omega
    simp only [rowT, rowL, if_pos hx, e]
    obtain ⟨h', q1, q2, q3⟩ := all_range (H.to 35) ok sh h38 hn (row_yields (n := n) (B := B) (all := allFrom n B.L B.Q 0) (t := t) (hall n) (by rw [← ht]; rfl) (by rw [← ht]; rfl)) (h := g) (nb := 1) (by rw [← hg]; simp)
      ⟨by rw [← hg]; simp, by rw [← hg]; rfl, by rw [← hg]; rfl, by rw [← hg]; simp, [], rfl, .inl ⟨rfl, by rw [← hg]; simp⟩⟩
    obtain ⟨done, hd, ho⟩ := q2.out
    rw [List.append_nil] at hd
    subst hd
    have hrec := q2.rec_
    have hro := q2.ro
    simp [f11, start, all_eq (H.to 23)]
    rw [EvCode_rangeFunc (j := 35) (first := []) (caps := [.ref 1 0]) rfl (by simp)]
    simp
    rw [ht, hg, q1]
    have hsh := shutL_map (n := 0) (t := 0) (fun x => shut_str (symTxt n B.L B.Q x)) (allFrom n B.L B.Q 0)
    rcases ho with ⟨h1, h0⟩ | ⟨hne, k, h0, hk⟩
    · rw [h1]
      simp [endRange, hro, hrec, h0, textsV, ← ht]
    · have he : (allFrom n B.L B.Q 0).isEmpty = false := by simpa using hne
      have hc : List.map (AV.str ∘ symTxt n B.L B.Q) (allFrom n B.L B.Q 0) = List.map (fun x => AV.str (symTxt n B.L B.Q x)) (allFrom n B.L B.Q 0) := rfl
      simp [endRange, hro, hrec, h0, textsV, ← ht, he, hsh, hc]
  · have hn := all_none (E := E) (H.to 35) ok h38 hx (yl := 2) (nb := 1) (h := g) (by rw [← hg]; simp) (by rw [← hg]; simp)
    simp [f11, start, all_eq (H.to 23)]
    rw [EvCode_rangeFunc (j := 35) (first := []) (caps := [.ref 1 0]) rfl (by simp)]
    simp
    rw [ht, hg, hn]
    simp [endRange, ← hg, rowT, rowL, hx, textsV, ← ht]
end Go.Pv
/- What the ranks of symbols come to, a rank, a rank's symbol. Conditions: the functions' codes; theorems. -/
namespace Go.Pv
variable {E : Env} {B : Tb} {n : Nat}

/-- A row's texts by their places, as a map has them. -/
def entV : List (List UInt8) → Nat → List (AV × AV)
  | [], _ => []
  | s :: l, i => (.str s, .int .i64 i) :: entV l (i + 1)
theorem entV_len : ∀ (l : List (List UInt8)) (i : Nat), (entV l i).length = l.length
  | [], _ => rfl
  | s :: l, i => by simp [entV, entV_len l]
theorem entV_snoc : ∀ (l : List (List UInt8)) (i : Nat) (s : List UInt8), entV (l ++ [s]) i = entV l i ++ [(.str s, .int .i64 ((i + l.length : Nat) : Int))]
  | [], _, s => by simp [entV]
  | x :: l, i, s => by
    simp [entV, entV_snoc l]
    omega
/-- A text's place in a row. -/
def rankOf (l : List (List UInt8)) (s : List UInt8) : Int := idxV (· == s) l
theorem findKey_ent : ∀ (l : List (List UInt8)) (i : Nat) (s : List UInt8), findKeyA (.str s) (entV l i) = some (if rankOf l s = -1 then none else some (.int .i64 (i + rankOf l s)))
  | [], _, s => by simp [entV, findKeyA, rankOf, idxV]
  | x :: l, i, s => by
    have ih := findKey_ent l (i + 1) s
    have hr : rankOf (x :: l) s = if x == s then 0 else if rankOf l s = -1 then -1 else rankOf l s + 1 := idxV_cons _ _ _
    simp only [entV, findKeyA, eqCell]
    rw [hr]
    cases h : (x == s)
    · have h' : (s == x) = false := by rw [BEq.comm]; exact h
      rw [h', ih]
      have : rankOf l s = -1 ∨ ∃ i : Nat, i < l.length ∧ rankOf l s = i := idxV_range _ _
      rcases this with hq | ⟨k, _, hq⟩
      · simp [hq]
      · rw [hq, if_neg (by omega), if_neg (by simp; omega)]
        simp only [Bool.false_eq_true, if_false]
        rw [if_neg (by omega)]
        congr 3
        omega
    · have h' : (s == x) = true := by rw [BEq.comm]; exact h
      simp [h']
theorem setKey_ent : ∀ (l : List (List UInt8)) (i : Nat) (s : List UInt8) (v : AV), s ∉ l → setKeyA (.str s) v (entV l i) = entV l i ++ [(.str s, v)]
  | [], _, s, v, _ => by simp [entV, setKeyA]
  | x :: l, i, s, v, h => by
    simp only [List.mem_cons, not_or] at h
    have h' : (s == x) = false := by simpa using h.1
    simp [entV, setKeyA, eqCell, h', setKey_ent l (i + 1) s v h.2]
theorem rankOf_none {l : List (List UInt8)} {s : List UInt8} (h : s ∉ l) : rankOf l s = -1 := by
  unfold rankOf idxV
  rw [if_neg]
  simp
  exact h

theorem rank_round {h : AHeap} {t : List AV} {s : List UInt8} {x : AV} {done : List (List UInt8)} (hl : h.bl 3 = some (.loop .ready none t [8, 9] a24_0 b24_0)) (hro : h.ro = 0) (ht : t.length = 15) (h3 : t[3]? = some (.ref 1 0)) (h1 : h.bl 1 = some (.cells [.map 0])) (h0 : h.bl 0 = some (.map (entV done 0))) (hs : s ∉ done) :
    EvCall E (.fn (.yield 3) [] []) [.str s, x] h =
      some (.ret (.bool true), (((h.setBlk 3 (.loop .busy none t [8, 9] a24_0 b24_0)).setBlk 0 (.map (entV (done ++ [s]) 0))).setBlk 3 (.loop .ready none t [8, 9] a24_0 b24_0))) := by
  rw [EvCall_yield, EvRound_eq (h := h) hl rfl]
  simp [-getElem?_pos, List.getElem?_cons_zero, List.getElem?_cons_succ, a24_0, b24_0, setAll, beginRd, endRd, hl, hro, h0, h1, h3, ht, entV_len, entV_snoc, fitsKey, findKey_ent, rankOf_none hs, setKey_ent _ _ _ _ hs]
structure RankGood (n : Nat) (L : List AtomR) (Q : List PrefR) (all : List (Nat × Int)) (t : List AV) (rest : List (Nat × Int)) (h : AHeap) : Prop where
  rec_ : h.bl 3 = some (.loop .ready none t [8, 9] a24_0 b24_0)
  ro : h.ro = 0
  one : h.bl 1 = some (.cells [.map 0])
  len : 4 ≤ h.blks.length
  out : ∃ done, done ++ rest = all ∧ h.bl 0 = some (.map (entV (done.map (symTxt n L Q)) 0))
theorem rank_yields {all : List (Nat × Int)} {t : List AV} (hall : (all.map (symTxt n B.L B.Q)).Nodup) (ht : t.length = 15) (h3 : t[3]? = some (.ref 1 0)) : YieldsL E (.fn (.yield 3) [] []) 4 (symArgs n B.L B.Q) (RankGood n B.L B.Q all t) where
  len := fun l h hg => hg.len
  ro := fun l h hg => by rw [hg.ro]; omega
  call := fun x l h hg => by
    obtain ⟨done, hd, h0⟩ := hg.out
    have hs : symTxt n B.L B.Q x ∉ done.map (symTxt n B.L B.Q) := by
      rw [← hd, List.map_append, List.nodup_append] at hall
      intro hm
      exact hall.2.2 _ hm _ (by simp) rfl
    refine ⟨_, rank_round hg.rec_ hg.ro ht h3 hg.one h0 hs, ⟨?_, hg.ro, ?_, by simpa using hg.len, done ++ [x], by simpa using hd, ?_⟩, ⟨fun j h1 _ => ?_, by simp, rfl, rfl⟩⟩
    · simp [hg.rec_]
    · simp [hg.one]
    · simp [h0]
      rfl
    · rw [bl_set, if_neg (by omega), bl_set, if_neg (by omega), bl_set, if_neg (by omega)]
  keep := fun l h h' hg o => ⟨(o.old 3 (by omega)).trans hg.rec_, o.ro.trans hg.ro, (o.old 1 (by omega)).trans hg.one, Nat.le_trans hg.len o.len, by
    obtain ⟨done, hd, h0⟩ := hg.out
    exact ⟨done, hd, (o.old 0 (by omega)).trans h0⟩⟩

theorem ranks_eq (H : Has 24 E) (ok : B.Ok) (sh : B.Short) (h38 : EvClosed E (.fn (.func 38) [] []) [] = some B.V) (hall : ∀ x, (rowT B x).Nodup) (x : Int) :
    ∃ h', EvCall E (.fn (.func 24) [] []) [.int .i64 x] heap0 = some (.ret (.map 0), h') ∧ h'.bl 0 = some (.map (entV (rowT B x) 0)) ∧ h'.ro = 0 := by
  rw [EvCall_open H.c24 rfl, EvFn_eq]
  obtain ⟨t, ht⟩ : ∃ t, ([.int .i64 x, .junk, .nilmap, .ref 1 0, .junk, .map 0, .int .i64 x, .fn (.func 35) [] [.ref 2 0], .junk, .junk, .junk, .junk, .junk, .junk, .junk] : List AV) = t := ⟨_, rfl⟩
  obtain ⟨g, hg⟩ : ∃ g, (((heap0.push (.map [])).push (.cells [.map 0])).push (.cells [.int .i64 x])).push (.loop .ready none t [8, 9] a24_0 b24_0) = g := ⟨_, rfl⟩
  by_cases hx : 1 ≤ x ∧ x ≤ 5
  · have hnd := hall x
    obtain ⟨n, hn, rfl⟩ : ∃ n : Nat, n < 5 ∧ x = (n : Int) + 1 := ⟨(x - 1).toNat, by omega, by omega⟩
    have e : (((n : Int) + 1) - 1).toNat = n := by omega
    simp only [rowT, rowL, if_pos hx, e] at hnd ⊢
    obtain ⟨h', q1, q2, q3⟩ := all_range (H.to 35) ok sh h38 hn (rank_yields (n := n) (B := B) (all := allFrom n B.L B.Q 0) (t := t) hnd (by rw [← ht]; rfl) (by rw [← ht]; rfl)) (h := g) (nb := 2) (by rw [← hg]; simp)
      ⟨by rw [← hg]; simp, by rw [← hg]; rfl, by rw [← hg]; simp, by rw [← hg]; simp, [], rfl, by rw [← hg]; simp [entV]⟩
    obtain ⟨done, hd, ho⟩ := q2.out
    rw [List.append_nil] at hd
    subst hd
    have hrec := q2.rec_
    have hro := q2.ro
    have h1 := q2.one
    refine ⟨h'.setBlk 3 .dead, ?_, by simp [ho], hro⟩
    simp [f24, start, all_eq (H.to 23), push_set, push_setk]
    rw [EvCode_rangeFunc (j := 35) (first := []) (caps := [.ref 2 0]) rfl (by simp)]
    simp
    rw [ht, hg, q1]
    simp [endRange, hro, hrec, h1, ← ht]
  · have hn := all_none (E := E) (H.to 35) ok h38 hx (yl := 3) (nb := 2) (h := g) (by rw [← hg]; simp) (by rw [← hg]; simp)
    simp only [rowT, rowL, if_neg hx, List.map_nil]
    refine ⟨((((g.push (.cells [.fn (.yield 3) [] []])).push (.cells [B.A, B.P, .int .i64 x])).push (.cells [.int .i64 (-1)])).setBlk 3 .dead), ?_, ?_⟩
    · simp [f24, start, all_eq (H.to 23), push_set, push_setk]
      rw [EvCode_rangeFunc (j := 35) (first := []) (caps := [.ref 2 0]) rfl (by simp)]
      simp
      rw [ht, hg, hn]
      simp [endRange, ← hg, ← ht]
    · simp [← hg, entV]
theorem rank_eq (H : Has 12 E) (ok : B.Ok) (sh : B.Short) (h38 : EvClosed E (.fn (.func 38) [] []) [] = some B.V) (hall : ∀ x, (rowT B x).Nodup) (x : Int) (s : List UInt8) :
    EvClosed E (.fn (.func 12) [] []) [.int .i64 x, .str s] = some (.tuple [.int .i64 (if rankOf (rowT B x) s = -1 then 0 else rankOf (rowT B x) s), .bool (rankOf (rowT B x) s != -1)]) := by
  rw [EvClosed_eq H.c12 rfl (vs := [.int .i64 x, .str s]) (by simp), EvFn_eq]
  obtain ⟨h', q1, q2, q3⟩ := ranks_eq (H.to 24) ok sh h38 hall x
  by_cases hr : rankOf (rowT B x) s = -1
  · simp [f12, start, q1, q2, fitsKey, findKey_ent, hr]
  · have hr' : (rankOf (rowT B x) s != -1) = true := by simpa using hr
    simp [f12, start, q1, q2, fitsKey, findKey_ent, hr, hr']
def atOf (l : List (List UInt8)) (r : Int) : List UInt8 × Bool := if 0 ≤ r ∧ r < l.length then (l.getD r.toNat [], true) else ([], false)
theorem at_eq (H : Has 14 E) {x r : Int} {l : List (List UInt8)} (hrow : EvClosed E (.fn (.func 11) [] []) [.int .i64 x] = some (textsV l)) :
    EvClosed E (.fn (.func 14) [] []) [.int .i64 x, .int .i64 r] = some (.tuple [.str (atOf l r).1, .bool (atOf l r).2]) := by
  rw [EvClosed_eq H.c14 rfl (vs := [.int .i64 x, .int .i64 r]) (by simp), EvFn_eq]
  by_cases h : 0 ≤ r ∧ r < l.length
  · obtain ⟨i, rfl⟩ : ∃ i : Nat, r = i := ⟨r.toNat, by omega⟩
    have hi : i < l.length := by omega
    have he : l.isEmpty = false := by
      cases l with
      | nil => simp at hi
      | cons x l => rfl
    simp only [textsV, he, Bool.false_eq_true, if_false] at hrow
    have h1 : ¬ (l.length ≤ i) := by omega
    simp [f14, start, EvCall_closed H.c11 rfl, hrow, hi, h1, decide_eq_false (by omega : ¬ ((i : Int) < 0)), decide_eq_false (by omega : ¬ ((l.length : Int) ≤ i)), map_at hi, atOf, (by omega : 1 ≤ l.length - i)]
  · have ha : atOf l r = ([], false) := if_neg h
    rw [ha]
    by_cases h1 : r < 0
    · unfold textsV at hrow
      split at hrow <;> simp [f14, start, EvCall_closed H.c11 rfl, hrow, h1]
    · have h2 : (l.length : Int) ≤ r := by omega
      unfold textsV at hrow
      split at hrow
      · rename_i hl
        have : l = [] := by simpa using hl
        subst this
        simp [f14, start, EvCall_closed H.c11 rfl, hrow, h1, (by omega : 0 ≤ r)]
      · simp [f14, start, EvCall_closed H.c11 rfl, hrow, h1, h2]
end Go.Pv
