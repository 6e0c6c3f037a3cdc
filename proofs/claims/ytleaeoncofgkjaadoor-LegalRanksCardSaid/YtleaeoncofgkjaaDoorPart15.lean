/- Part 15 of the proof: what functions of the program come to. Conditions: none; definitions and theorems that the statement's proof uses. -/
import Derived.Test.YtleaeoncofgkjaaDoorPart13
import Derived.Test.YtleaeoncofgkjaaDoorPart14
/- What a row of symbols comes to. Conditions: the functions' codes; theorems. -/
namespace Go.Pv
variable {E : Env} {B : Tb} {n : Nat}

theorem row_first {h : AHeap} {t : List AV} {s : List UInt8} {x : AV} (hl : h.bl 2 = some (.loop .ready none t [7, 8] a11_0 b11_0)) (hro : h.ro = 0) (ht : t.length = 14) (h3 : t[3]? = some (.ref 0 0)) (h0 : h.bl 0 = some (.cells [.nils])) :
    EvCall E (.fn (.yield 2) [] []) [.str s, x] h =
      some (.ret (.bool true), ((((h.setBlk 2 (.loop .busy none t [7, 8] a11_0 b11_0)).toks_ (h.toks ++ [1])).setBlk 0 (.cells [.vs (.tok h.toks.length 1) 1 [.str s]])).setBlk 2 (.loop .ready none t [7, 8] a11_0 b11_0))) := by
  rw [EvCall_yield, EvRound_eq (h := h) hl rfl]
  simp [-getElem?_pos, List.getElem?_cons_zero, List.getElem?_cons_succ, a11_0, b11_0, setAll, beginRd, endRd, hl, hro, h0, h3, ht, appendA, AV.isCell, bl_mk, AHeap.toks_]
theorem row_next {h : AHeap} {t : List AV} {s : List UInt8} {x : AV} {k m : Nat} {cs : List AV} (hl : h.bl 2 = some (.loop .ready none t [7, 8] a11_0 b11_0)) (hro : h.ro = 0) (hrot : h.rot = 0) (ht : t.length = 14) (h3 : t[3]? = some (.ref 0 0)) (h0 : h.bl 0 = some (.cells [.vs (.tok k 1) m cs]))
    (hm : cs.length = m) (hm2 : m < 5000) (hk : h.tk k = some m) :
    EvCall E (.fn (.yield 2) [] []) [.str s, x] h =
      some (.ret (.bool true), ((((h.setBlk 2 (.loop .busy none t [7, 8] a11_0 b11_0)).toks_ (h.toks.set k (m + 1))).setBlk 0 (.cells [.vs (.tok k 1) (m + 1) (cs ++ [.str s])])).setBlk 2 (.loop .ready none t [7, 8] a11_0 b11_0))) := by
  rw [EvCall_yield, EvRound_eq (h := h) hl rfl]
  have hb : (m + 1) * 16 ≤ 140737488355328 := by omega
  simp [-getElem?_pos, List.getElem?_cons_zero, List.getElem?_cons_succ, a11_0, b11_0, setAll, beginRd, endRd, hl, hro, hrot, h0, h3, ht, appendA, AV.isCell, bl_mk, AHeap.toks_, hm, hb, hk]

def symTxt (n : Nat) (L : List AtomR) (Q : List PrefR) (x : Nat × Int) : List UInt8 := symText n L Q x.2 x.1
structure RowGood (n : Nat) (L : List AtomR) (Q : List PrefR) (all : List (Nat × Int)) (t : List AV) (rest : List (Nat × Int)) (h : AHeap) : Prop where
  rec_ : h.bl 2 = some (.loop .ready none t [7, 8] a11_0 b11_0)
  ro : h.ro = 0
  rot : h.rot = 0
  len : 3 ≤ h.blks.length
  out : ∃ done, done ++ rest = all ∧ ((done = [] ∧ h.bl 0 = some (.cells [.nils])) ∨ (done ≠ [] ∧ ∃ k, h.bl 0 = some (.cells [.vs (.tok k 1) done.length (done.map fun x => .str (symTxt n L Q x))]) ∧ h.tk k = some done.length))
theorem row_yields {all : List (Nat × Int)} {t : List AV} (hall : all.length < 5000) (ht : t.length = 14) (h3 : t[3]? = some (.ref 0 0)) : YieldsL E (.fn (.yield 2) [] []) 3 (symArgs n B.L B.Q) (RowGood n B.L B.Q all t) where
  len := fun l h hg => hg.len
  ro := fun l h hg => by rw [hg.ro]; omega
  call := fun x l h hg => by
    obtain ⟨done, hd, ho⟩ := hg.out
    rcases ho with ⟨rfl, h0⟩ | ⟨hne, k, h0, hk⟩
    · refine ⟨_, row_first hg.rec_ hg.ro ht h3 h0, ⟨?_, hg.ro, hg.rot, by simpa [len_toks] using hg.len, [x], by simpa using hd, .inr ⟨by simp, h.toks.length, ?_, ?_⟩⟩, ⟨fun j h1 _ => ?_, by simp [len_toks], rfl, rfl⟩⟩
      · simp [bl_toks, hg.rec_]
      · simp [bl_toks, h0, symTxt]
      · simp [tk_set, tk_toks]
      · rw [bl_set, if_neg (by omega), bl_set, if_neg (by omega), bl_toks, bl_set, if_neg (by omega)]
    · have hlen : done.length < 5000 := by
        have := congrArg List.length hd
        simp at this
        omega
      refine ⟨_, row_next hg.rec_ hg.ro hg.rot ht h3 h0 (by simp) hlen hk, ⟨?_, hg.ro, hg.rot, by simpa [len_toks] using hg.len, done ++ [x], by simpa using hd, .inr ⟨by simp, k, ?_, ?_⟩⟩, ⟨fun j h1 _ => ?_, by simp [len_toks], rfl, rfl⟩⟩
      · simp [bl_toks, hg.rec_]
      · simp [bl_toks, h0, symTxt]
      · have hkl : k < h.toks.length := (List.getElem?_eq_some_iff.1 hk).1
        simp [tk_set, tk_toks, hkl]
      · rw [bl_set, if_neg (by omega), bl_set, if_neg (by omega), bl_toks, bl_set, if_neg (by omega)]
  keep := fun l h h' hg o => ⟨(o.old 2 (by omega)).trans hg.rec_, o.ro.trans hg.ro, o.rot.trans hg.rot, Nat.le_trans hg.len o.len, by
    obtain ⟨done, hd, ho⟩ := hg.out
    refine ⟨done, hd, ?_⟩
    rcases ho with ⟨h1, h0⟩ | ⟨hne, k, h0, hk⟩
    · exact .inl ⟨h1, (o.old 0 (by omega)).trans h0⟩
    · exact .inr ⟨hne, k, (o.old 0 (by omega)).trans h0, by simp only [AHeap.tk, o.toks]; exact hk⟩⟩

/-- A row of texts. -/
def textsV (l : List (List UInt8)) : AV := if l.isEmpty then .nils else .vs .shared l.length (l.map .str)
/-- A notation's symbols, told. -/
def rowL (B : Tb) (x : Int) : List (Nat × Int) := if 1 ≤ x ∧ x ≤ 5 then allFrom (x - 1).toNat B.L B.Q 0 else []
def rowT (B : Tb) (x : Int) : List (List UInt8) := (rowL B x).map (symTxt (x - 1).toNat B.L B.Q)
theorem row_eq (H : Has 11 E) (ok : B.Ok) (sh : B.Short) (h38 : EvClosed E (.fn (.func 38) [] []) [] = some B.V) (hall : ∀ n, (allFrom n B.L B.Q 0).length < 5000) (x : Int) :
    EvClosed E (.fn (.func 11) [] []) [.int .i64 x] = some (textsV (rowT B x)) := by
  rw [EvClosed_eq H.c11 rfl (vs := [.int .i64 x]) (by simp), EvFn_eq]
  obtain ⟨t, ht⟩ : ∃ t, ([.int .i64 x, .junk, .nils, .ref 0 0, .junk, .int .i64 x, .fn (.func 35) [] [.ref 1 0], .junk, .junk, .junk, .junk, .junk, .junk, .junk] : List AV) = t := ⟨_, rfl⟩
  obtain ⟨g, hg⟩ : ∃ g, ((heap0.push (.cells [.nils])).push (.cells [.int .i64 x])).push (.loop .ready none t [7, 8] a11_0 b11_0) = g := ⟨_, rfl⟩
  by_cases hx : 1 ≤ x ∧ x ≤ 5
  · obtain ⟨n, hn, rfl⟩ : ∃ n : Nat, n < 5 ∧ x = (n : Int) + 1 := ⟨(x - 1).toNat, by omega, by omega⟩
    have e : (((n : Int) + 1) - 1).toNat = n := by omega
    simp only [rowT, rowL, if_pos hx, e]
    obtain ⟨h', q1, q2, q3⟩ := all_range (H.to 35) ok sh h38 hn (row_yields (n := n) (B := B) (all := allFrom n B.L B.Q 0) (t := t) (hall n) (by rw [← ht]; rfl) (by rw [← ht]; rfl)) (h := g) (nb := 1) (by rw [← hg]; simp)
      ⟨by rw [← hg]; simp, by rw [← hg]; rfl, by rw [← hg]; rfl, by rw [← hg]; simp, [], rfl, .inl ⟨rfl, by rw [← hg]; simp⟩⟩
    obtain ⟨done, hd, ho⟩ := q2.out
    rw [List.append_nil] at hd
    subst hd
    have hrec := q2.rec_
    have hro := q2.ro
    simp [f11, start, all_eq (H.to 23)]
    rw [EvCode_rangeFunc (j := 35) (first := []) (caps := [.ref 1 0]) rfl (by simp)]
    simp
    rw [ht, hg, q1]
    have hsh := shutL_map (n := 0) (t := 0) (fun x => shut_str (symTxt n B.L B.Q x)) (allFrom n B.L B.Q 0)
    rcases ho with ⟨h1, h0⟩ | ⟨hne, k, h0, hk⟩
    · rw [h1]
      simp [endRange, hro, hrec, h0, textsV, ← ht]
    · have he : (allFrom n B.L B.Q 0).isEmpty = false := by simpa using hne
      have hc : List.map (AV.str ∘ symTxt n B.L B.Q) (allFrom n B.L B.Q 0) = List.map (fun x => AV.str (symTxt n B.L B.Q x)) (allFrom n B.L B.Q 0) := rfl
      simp [endRange, hro, hrec, h0, textsV, ← ht, he, hsh, hc]
  · have hn := all_none (E := E) (H.to 35) ok h38 hx (yl := 2) (nb := 1) (h := g) (by rw [← hg]; simp) (by rw [← hg]; simp)
    simp [f11, start, all_eq (H.to 23)]
    rw [EvCode_rangeFunc (j := 35) (first := []) (caps := [.ref 1 0]) rfl (by simp)]
    simp
    rw [ht, hg, hn]
    simp [endRange, ← hg, rowT, rowL, hx, textsV, ← ht]
end Go.Pv
