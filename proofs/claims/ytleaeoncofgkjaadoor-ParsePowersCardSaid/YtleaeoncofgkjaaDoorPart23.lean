/- Part 23 of the proof: what functions of the program come to. Conditions: none; definitions and theorems that the statement's proof uses. -/
import Derived.Test.YtleaeoncofgkjaaDoorPart22
/- What the reference's texts of symbols come to, all of them, their row, a rank. Conditions: the functions' codes; theorems. -/
namespace Go.Pv
variable {E : Env} {B : Tb} {n : Nat}

set_option maxHeartbeats 2000000 in
theorem refText_eq (H : Has 53 E) (ok : B.Ok) (sh : B.Short) (hn : n < 5) {p : Int} (hp : -1 ≤ p) (hp2 : p < B.Q.length) {i : Nat} (hi : i < B.L.length) : EvClosed E (.fn (.func 53) [] []) [B.V, .int .i64 ((n : Int) + 1), .int .i64 p, .int .i64 i] = some (.str (symText n B.L B.Q p i)) := by
  rw [EvClosed_eq H.c53 rfl (vs := [B.V, .int .i64 ((n : Int) + 1), .int .i64 p, .int .i64 i]) (by simp [Tb.V, Tb.A_shut ok, Tb.P_shut ok]), EvFn_eq]
  have hw : IntKind.i64.wrap (n : Int) = n := w64
  have hn5 : (n : Int) < 5 := by omega
  have hi1 := decide_eq_false (by omega : ¬ ((i : Int) < 0))
  have hi2 := decide_eq_false (by omega : ¬ ((B.L.length : Int) ≤ i))
  have hi3 : ¬ (B.L.length ≤ i) := by omega
  have hp1 := decide_eq_false (by omega : ¬ (p < -1))
  have hp3 := decide_eq_false (by omega : ¬ ((B.Q.length : Int) ≤ p))
  have hc : (B.L[i].code n).length ≤ 1000 := sh.a _ (List.getElem_mem hi) n
  have ca := code_at B.ot hn hi
  have cm := metric_at B.ot hi
  cases h1 : (B.L[i].code n).isEmpty
  · by_cases hpp : p = -1
    · subst hpp
      simp [f53, start, Tb.V, Tb.A, Tb.P, hi, hi1, hi2, hi3, hp1, hp3, hw, hn5, fm_len (acs_len B.ot), lt_at hi, le_off hi, lt_off hi, (by omega : n < 12), (by omega : n + 1 ≤ 12), ca, h1, symText, textA]
    · obtain ⟨j, rfl⟩ : ∃ j : Nat, p = j := ⟨p.toNat, by omega⟩
      have hj : j < B.Q.length := by omega
      have hj3 : ¬ (B.Q.length ≤ j) := by omega
      have hj4 : ((j : Int) == -1) = false := by simp
      have hj5 : ¬ ((j : Int) = -1) := by omega
      have hq : (B.Q[j].code n).length ≤ 1000 := sh.p _ (List.getElem_mem hj) n
      have hs3 : (B.Q[j].code n).length + (B.L[i].code n).length ≤ 9223372036854775807 := by omega
      have cp := pref_at hn hj
      cases h2 : (B.Q[j].code n).isEmpty
      · cases h3 : B.L[i].metric <;> simp [f53, start, Tb.V, Tb.A, Tb.P, hi, hi1, hi2, hi3, hp1, hp3, hw, hn5, fm_len (acs_len B.ot), lt_at hi, le_off hi, lt_off hi, (by omega : n < 12), (by omega : n + 1 ≤ 12), ca, cm, h1, h2, h3, hj, hj3, hj4, hj5, cp, fm_len PrefR.len, lt_at hj, le_off hj, lt_off hj, (by omega : n < 6), (by omega : n + 1 ≤ 6), hs3, symText, textP]
      · simp [f53, start, Tb.V, Tb.A, Tb.P, hi, hi1, hi2, hi3, hp1, hp3, hw, hn5, fm_len (acs_len B.ot), lt_at hi, le_off hi, lt_off hi, (by omega : n < 12), (by omega : n + 1 ≤ 12), ca, cm, h1, h2, hj, hj3, hj4, hj5, cp, fm_len PrefR.len, lt_at hj, le_off hj, lt_off hj, (by omega : n < 6), (by omega : n + 1 ≤ 6), hs3, symText, textP]
  · have h1' : B.L[i].code n = [] := by simpa using h1
    have hs : symText n B.L B.Q p i = [] := by
      unfold symText textA textP
      split
      · simp [hi, h1']
      · simp only [List.getElem?_eq_getElem hi]
        split
        · rename_i a q e1 e2
          cases e1
          simp [h1']
        · rfl
    rw [hs]
    simp [f53, start, Tb.V, Tb.A, Tb.P, hi, hi1, hi2, hi3, hp1, hp3, hw, hn5, fm_len (acs_len B.ot), lt_at hi, le_off hi, lt_off hi, (by omega : n < 12), (by omega : n + 1 ≤ 12), ca, h1, h1']
theorem refTold_eq (H : Has 52 E) (ok : B.Ok) (sh : B.Short) (hn : n < 5) {p : Int} (hp : -1 ≤ p) (hp2 : p < B.Q.length) {i : Nat} (hi : i < B.L.length) : EvClosed E (.fn (.func 52) [] []) [B.V, .int .i64 ((n : Int) + 1), .int .i64 p, .int .i64 i] = some (.bool (toldB n B.L B.Q (symText n B.L B.Q p i) p i)) := by
  rw [EvClosed_eq H.c52 rfl (vs := [B.V, .int .i64 ((n : Int) + 1), .int .i64 p, .int .i64 i]) (by simp [Tb.V, Tb.A_shut ok, Tb.P_shut ok]), EvFn_eq]
  have ht := refText_eq (H.to 53) ok sh hn hp hp2 hi
  have hf := refFind_eq (H.to 74) ok hn (symText n B.L B.Q p i)
  generalize symText n B.L B.Q p i = s at ht hf ⊢
  simp only [Tb.V] at ht hf
  have ca := @Tb.A_cell B
  have cp := @Tb.P_cell B
  cases h1 : s.isEmpty
  · cases h2 : (findB n B.L B.Q s).2.2
    · simp [f52, start, Tb.V, ca, cp, push_set, EvCall_closed H.c53 rfl, EvCall_closed H.c74 rfl, ht, hf, toldB, h1, h2]
    · cases h3 : ((findB n B.L B.Q s).1 == p) <;> simp [f52, start, Tb.V, ca, cp, push_set, EvCall_closed H.c53 rfl, EvCall_closed H.c74 rfl, ht, hf, toldB, h1, h2, h3]
  · simp [f52, start, Tb.V, ca, cp, push_set, EvCall_closed H.c53 rfl, EvCall_closed H.c74 rfl, ht, hf, toldB, h1]
end Go.Pv
/- What all symbols of the reference come to, their row, a rank. Conditions: the functions' codes; theorems. -/
namespace Go.Pv
variable {E : Env} {B : Tb} {n : Nat}

def itemCs (n : Nat) (L : List AtomR) (Q : List PrefR) (x : Nat × Int) : List AV := [.str (symText n L Q x.2 x.1), .int .i64 x.2, .int .i64 x.1]
theorem toldL_len (L : List AtomR) (Q : List PrefR) (p : Int) (l : List (AtomR × Nat)) : (toldL n L Q p l).length ≤ l.length := by
  unfold toldL
  rw [List.length_map]
  exact List.length_filter_le _ _
theorem refAll_inner (H : Has 34 E) (ok : B.Ok) (sh : B.Short) (hn : n < 5) {p : Int} (hp : -1 ≤ p) (hp2 : p < B.Q.length) : ∀ (m i : Nat), i + m = B.L.length → ∀ (h : AHeap) (done : List (Nat × Int)) (v : AV),
    Grow h 3 (done.flatMap (itemCs n B.L B.Q)) done.length v → h.rot ≤ h.toks.length → h.bl 0 = some (.cells [B.A, B.P]) → done.length + m ≤ 2000000 →
    ∃ ts v', (∀ F, mask k34_0 F = s34_0 (.int .i64 ((n : Int) + 1)) v (.ref 0 0) (.int .i64 p) (.int .i64 i) → EvCode E (.loop k34_0 l34_0) F h = some (.exit 2, x34_2 (.int .i64 ((n : Int) + 1)) v' (.ref 0 0) (.int .i64 p), h.toks_ ts)) ∧
      Grow (h.toks_ ts) 3 ((done ++ toldL n B.L B.Q p ((B.L.drop i).zipIdx i)).flatMap (itemCs n B.L B.Q)) (done ++ toldL n B.L B.Q p ((B.L.drop i).zipIdx i)).length v' ∧ h.toks.length ≤ ts.length
  | 0, i, hi, h, done, v, hg, hr, hb, hd => by
    have hi' : i = B.L.length := by omega
    subst hi'
    refine ⟨h.toks, v, fun F hF => ?_, ?_, Nat.le_refl _⟩
    · rw [EvCode_loop, hF]
      simp only [Tb.A, Tb.P] at hb
      simp [l34_0, s34_0, x34_2, hb, toks_self]
    · simpa [toldL, toks_self] using hg
  | m + 1, i, hi, h, done, v, hg, hr, hb, hd => by
    have hlt : i < B.L.length := by omega
    have hpl := ok.len
    have htd := refTold_eq (H.to 52) ok sh hn hp hp2 hlt
    have htx := refText_eq (H.to 53) ok sh hn hp hp2 hlt
    have hA : B.A = .vs B.o1 B.L.length (B.L.flatMap (acs B.ot)) := rfl
    have hb' := hb
    rw [List.drop_eq_getElem_cons hlt, List.zipIdx_cons, toldL_cons]
    simp only
    simp only [Tb.V] at htd htx
    cases hto : toldB n B.L B.Q (symText n B.L B.Q p i) p i
    · simp only [Bool.false_eq_true, if_false]
      obtain ⟨ts, v', q1, q2, q3⟩ := refAll_inner H ok sh hn hp hp2 m (i + 1) (by omega) h done v hg hr hb (by omega)
      refine ⟨ts, v', fun F hF => ?_, q2, q3⟩
      rw [hto] at htd
      rw [EvCode_loop, hF]
      simp only [hA] at hb' htd
      generalize EvCode E (.loop k34_0 l34_0) = lp at q1 ⊢
      simp [l34_0, s34_0, hlt, hb', EvCall_closed H.c52 rfl, htd, w64 (n := (i : Int) + 1)]
      exact q1 _ (by simp [s34_0])
    · simp only [if_true]
      obtain ⟨t1, v1, e1, g1, r1⟩ := grow_app (bytes := 32) (m := 1) (xs := itemCs n B.L B.Q (i, p)) hg hr (by omega) (by omega) (by omega) rfl (by simp [itemCs])
      obtain ⟨ts, v', q1, q2, q3⟩ := refAll_inner H ok sh hn hp hp2 m (i + 1) (by omega) (h.toks_ t1) (done ++ [(i, p)]) v1 (by simpa using g1) (by simp only [rot_toks]; exact Nat.le_trans hr r1) (by rw [bl_toks]; exact hb) (by simp; omega)
      refine ⟨ts, v', fun F hF => ?_, by simpa [toks_toks] using q2, Nat.le_trans r1 q3⟩
      rw [hto] at htd
      rw [EvCode_loop, hF]
      simp only [hA] at hb' htd htx
      simp only [itemCs] at e1
      simp only [toks_toks] at q1
      generalize EvCode E (.loop k34_0 l34_0) = lp at q1 ⊢
      simp [-den, l34_0, s34_0, hlt, hb', EvCall_closed H.c52 rfl, EvCall_closed H.c53 rfl, htd, htx, e1, w64 (n := (i : Int) + 1)]
      exact q1 _ (by simp [s34_0])

theorem refAll_outer (H : Has 34 E) (ok : B.Ok) (sh : B.Short) (hn : n < 5) : ∀ (m i : Nat), i + m = B.Q.length + 1 → ∀ (h : AHeap) (done : List (Nat × Int)) (v : AV),
    Grow h 3 (done.flatMap (itemCs n B.L B.Q)) done.length v → h.rot ≤ h.toks.length → h.bl 0 = some (.cells [B.A, B.P]) → done.length + m * 1000 ≤ 1900000 →
    ∃ ts v', (∀ F, mask k34_1 F = s34_1 (.int .i64 ((n : Int) + 1)) v (.ref 0 0) (.int .i64 ((i : Int) - 1)) → EvCode E (.loop k34_1 l34_1) F h = some (.exit 0, x34_0 v', h.toks_ ts)) ∧
      Grow (h.toks_ ts) 3 ((done ++ allFrom n B.L B.Q i).flatMap (itemCs n B.L B.Q)) (done ++ allFrom n B.L B.Q i).length v'
  | 0, i, hi, h, done, v, hg, hr, hb, hd => by
    have hi' : i = B.Q.length + 1 := by omega
    subst hi'
    refine ⟨h.toks, v, fun F hF => ?_, ?_⟩
    · rw [EvCode_loop, hF]
      have e : ((B.Q.length + 1 : Nat) : Int) - 1 = B.Q.length := by omega
      simp only [Tb.A, Tb.P] at hb
      rw [e]
      simp [l34_1, s34_1, x34_0, hb, toks_self]
    · rw [allFrom_end]
      simpa [toks_self] using hg
  | m + 1, i, hi, h, done, v, hg, hr, hb, hd => by
    have hlt : i < B.Q.length + 1 := by omega
    have hpl := ok.plen
    have hll := ok.len
    obtain ⟨t1, v1, p1, p2, p3⟩ := refAll_inner H ok sh hn (p := (i : Int) - 1) (by omega) (by omega) B.L.length 0 (by omega) h done v hg hr hb (by omega)
    rw [List.drop_zero] at p2
    have hlen : (toldL n B.L B.Q ((i : Int) - 1) (B.L.zipIdx 0)).length ≤ 1000 := by
      have := toldL_len (n := n) B.L B.Q ((i : Int) - 1) (B.L.zipIdx 0)
      simp at this
      omega
    obtain ⟨ts, v', q1, q2⟩ := refAll_outer H ok sh hn m (i + 1) (by omega) (h.toks_ t1) (done ++ toldL n B.L B.Q ((i : Int) - 1) (B.L.zipIdx 0)) v1 p2 (by simp only [rot_toks]; exact Nat.le_trans hr p3) (by rw [bl_toks]; exact hb) (by simp; omega)
    refine ⟨ts, v', fun F hF => ?_, by rw [allFrom_step hlt]; simpa [toks_toks] using q2⟩
    have e : ((i + 1 : Nat) : Int) - 1 = i := by omega
    rw [e] at q1
    simp only [toks_toks] at q1
    rw [EvCode_loop, hF]
    have h1 : (i : Int) - 1 < B.Q.length := by omega
    have h2 : decide (1 ≤ (n : Int) + 1) = true := decide_eq_true (by omega)
    have h3 : decide ((n : Int) + 1 ≤ 5) = true := decide_eq_true (by omega)
    simp only [Tb.A, Tb.P] at hb
    generalize EvCode E (.loop k34_1 l34_1) = lp at q1 ⊢
    generalize hlp : EvCode E (.loop k34_0 l34_0) = lp0 at p1
    simp [l34_1, s34_1, hb, h1, h2, h3, hlp]
    rw [p1 _ (by simp [s34_0])]
    simp [x34_2, w64 (n := (i : Int))]
    exact q1 _ (by simp [s34_1])
/-- The reference's row of items, as it is told. -/
def itemsV (B : Tb) (x : Int) : AV := if (rowL B x).isEmpty then .nils else .vs .shared (rowL B x).length ((rowL B x).flatMap (itemCs (x - 1).toNat B.L B.Q))
theorem item_shut (x : Nat × Int) : shutL 0 0 (itemCs n B.L B.Q x) = some (itemCs n B.L B.Q x) := by simp [itemCs]
theorem refAll_eq (H : Has 34 E) (ok : B.Ok) (sh : B.Short) (h51 : EvClosed E (.fn (.func 51) [] []) [] = some B.V) (x : Int) : EvClosed E (.fn (.func 34) [] []) [.int .i64 x] = some (itemsV B x) := by
  rw [EvClosed_eq H.c34 rfl (vs := [.int .i64 x]) (by simp), EvFn_eq]
  simp only [Tb.V] at h51
  by_cases hx : 1 ≤ x ∧ x ≤ 5
  · obtain ⟨n, hn, rfl⟩ : ∃ n : Nat, n < 5 ∧ x = (n : Int) + 1 := ⟨(x - 1).toNat, by omega, by omega⟩
    have e : (((n : Int) + 1) - 1).toNat = n := by omega
    have hpl := ok.plen
    obtain ⟨ts, v', q1, q2⟩ := refAll_outer H ok sh hn (B.Q.length + 1) 0 (by omega) (heap0.push (.cells [B.A, B.P])) [] .nils (grow_nil _ _) (by simp [heap0, AHeap.push]) (by simp) (by simp; omega)
    have ca := @Tb.A_cell B
    have cp := @Tb.P_cell B
    generalize hlp : EvCode E (.loop k34_1 l34_1) = lp at q1
    simp [f34, start, EvCall_closed H.c51 rfl, h51, push_set, push_setk, ca, cp, hlp]
    rw [q1 _ (by simp [s34_1])]
    simp only [List.nil_append] at q2
    have hs := shutL_flat (n := 0) (t := 0) (f := itemCs n B.L B.Q) (item_shut (B := B)) (allFrom n B.L B.Q 0)
    rcases q2 with ⟨rfl, h1, h2⟩ | ⟨k, rfl, h1, h2, h3, h4⟩
    · have : allFrom n B.L B.Q 0 = [] := List.length_eq_zero_iff.1 h2
      simp [x34_0, itemsV, rowL, hx, e, this]
    · have hne : (allFrom n B.L B.Q 0).isEmpty = false ∨ (allFrom n B.L B.Q 0).isEmpty = true := by cases (allFrom n B.L B.Q 0).isEmpty <;> simp
      rcases hne with he | he
      · simp [x34_0, itemsV, rowL, hx, e, he, hs]
      · have h0 : allFrom n B.L B.Q 0 = [] := by simpa using he
        rw [h0] at h4
        simp at h4
  · have ca := @Tb.A_cell B
    have cp := @Tb.P_cell B
    by_cases h1 : 1 ≤ x
    · have h2 : ¬ (x ≤ 5) := by omega
      simp [f34, start, EvCall_closed H.c51 rfl, h51, push_set, push_setk, ca, cp]
      rw [EvCode_loop]
      cases hq : decide ((-1 : Int) < B.Q.length)
      · simp at hq; omega
      · simp only [Tb.A, Tb.P]
        simp [l34_1, hq, h1, h2, itemsV, rowL, hx]
    · simp [f34, start, EvCall_closed H.c51 rfl, h51, push_set, push_setk, ca, cp]
      rw [EvCode_loop]
      cases hq : decide ((-1 : Int) < B.Q.length)
      · simp at hq; omega
      · simp only [Tb.A, Tb.P]
        simp [l34_1, hq, h1, itemsV, rowL, hx]

theorem refRow_loop (x : Int) : ∀ (m i : Nat), i + m = (rowL B x).length → ∀ (h : AHeap) (v : AV),
    Grow h 1 (((rowT B x).take i).map .str) i v → h.rot ≤ h.toks.length → (rowL B x).length ≤ 2000000 →
    ∃ ts v', (∀ F, mask k21_0 F = s21_0 (itemsV B x) v (.int .i64 i) → EvCode E (.loop k21_0 l21_0) F h = some (.exit 0, x21_0 v', h.toks_ ts)) ∧
      Grow (h.toks_ ts) 1 ((rowT B x).map .str) (rowL B x).length v'
  | 0, i, hi, h, v, hg, hr, hb => by
    have hi' : i = (rowL B x).length := by omega
    subst hi'
    refine ⟨h.toks, v, fun F hF => ?_, ?_⟩
    · rw [EvCode_loop, hF]
      unfold itemsV
      split
      · rename_i he
        have : rowL B x = [] := by simpa using he
        simp [l21_0, s21_0, x21_0, toks_self, this]
      · simp [l21_0, s21_0, x21_0, toks_self]
    · rw [List.take_of_length_le (by simp [rowT])] at hg
      exact hg
  | m + 1, i, hi, h, v, hg, hr, hb => by
    have hlt : i < (rowL B x).length := by omega
    have he : (rowL B x).isEmpty = false := by
      cases hq : rowL B x with
      | nil => rw [hq] at hlt; simp at hlt
      | cons a l => rfl
    have hl3 : ∀ y, (itemCs (x - 1).toNat B.L B.Q y).length = 3 := fun y => rfl
    have hat : (((rowL B x).flatMap (itemCs (x - 1).toNat B.L B.Q)).drop (i * 3)).take 1 = [.str (symTxt (x - 1).toNat B.L B.Q (rowL B x)[i])] := by
      rw [fm_at0 hl3 hlt (by omega)]
      rfl
    obtain ⟨t1, v1, e1, g1, r1⟩ := grow_app (bytes := 16) (m := 1) (xs := [.str (symTxt (x - 1).toNat B.L B.Q (rowL B x)[i])]) hg hr (by omega) (by omega) (by omega) rfl (by simp)
    have htk : ((rowT B x).take i).map AV.str ++ [.str (symTxt (x - 1).toNat B.L B.Q (rowL B x)[i])] = ((rowT B x).take (i + 1)).map .str := by
      rw [List.take_succ_eq_append_getElem (by simpa [rowT] using hlt)]
      simp [rowT]
    rw [htk] at g1
    obtain ⟨ts, v', q1, q2⟩ := refRow_loop x m (i + 1) (by omega) (h.toks_ t1) v1 g1 (by simp only [rot_toks]; exact Nat.le_trans hr r1) hb
    refine ⟨ts, v', fun F hF => ?_, by simpa [toks_toks] using q2⟩
    simp only [toks_toks] at q1
    rw [EvCode_loop, hF]
    simp only [itemsV, he, Bool.false_eq_true, if_false] at q1 ⊢
    obtain ⟨nn, hnn⟩ : ∃ nn, (x - 1).toNat = nn := ⟨_, rfl⟩
    rw [hnn] at hl3 hat e1
    simp only [hnn] at q1 ⊢
    generalize EvCode E (.loop k21_0 l21_0) = lp at q1 ⊢
    simp [-den, l21_0, s21_0, hlt, fm_len hl3, lt_at hlt, (by omega : 0 < (rowL B x).length * 3 - i * 3), (by omega : 1 ≤ (rowL B x).length * 3 - i * 3), hat, e1, w64 (n := (i : Int) + 1)]
    refine q1 _ ?_
    simp [s21_0]
theorem refRow_eq (H : Has 21 E) (ok : B.Ok) (sh : B.Short) (h51 : EvClosed E (.fn (.func 51) [] []) [] = some B.V) (hall : ∀ n, (allFrom n B.L B.Q 0).length < 5000) (x : Int) : EvClosed E (.fn (.func 21) [] []) [.int .i64 x] = some (textsV (rowT B x)) := by
  rw [EvClosed_eq H.c21 rfl (vs := [.int .i64 x]) (by simp), EvFn_eq]
  have ha := refAll_eq (H.to 34) ok sh h51 x
  have hb : (rowL B x).length ≤ 2000000 := by
    unfold rowL
    split
    · have := hall (x - 1).toNat; omega
    · simp
  obtain ⟨ts, v', q1, q2⟩ := refRow_loop (B := B) (E := E) x (rowL B x).length 0 (by omega) heap0 .nils (by simpa using grow_nil _ _) (by simp [heap0]) hb
  simp [f21, start, EvCall_closed H.c34 rfl, ha]
  rw [q1 _ (by simp [s21_0])]
  have hs := shutL_map (n := 0) (t := 0) shut_str (rowT B x)
  have hl : (rowT B x).length = (rowL B x).length := by simp [rowT]
  rcases q2 with ⟨rfl, h1, h2⟩ | ⟨k, rfl, h1, h2, h3, h4⟩
  · have : rowT B x = [] := List.length_eq_zero_iff.1 (hl.trans h2)
    simp [x21_0, textsV, this]
  · have he : (rowT B x).isEmpty = false := by
      cases hq : rowT B x with
      | nil => rw [hq] at hl; simp at hl; omega
      | cons a l => rfl
    simp [x21_0, textsV, he, hs, hl]
end Go.Pv
