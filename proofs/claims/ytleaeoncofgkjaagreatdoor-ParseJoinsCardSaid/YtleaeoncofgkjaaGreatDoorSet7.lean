/- A part of the proof: functions of the program in the evaluator's code, and what they come to. Conditions: none; definitions and theorems that the statement's proof uses. -/
import Derived.Test.YtleaeoncofgkjaaGreatDoorSet6
/- Rows of bytes of one kind, numbers, notes: what the functions come to. Conditions: the functions' codes; theorems. -/
namespace Go.Pv
variable {E : Env}
def runL (x k : Int) : List UInt8 → Nat
  | [] => 0
  | c :: s => if kind x c == k then runL x k s + 1 else 0
theorem runL_le (x k : Int) : ∀ s, runL x k s ≤ s.length
  | [] => Nat.le_refl _
  | c :: s => by
    simp only [runL]
    have := runL_le x k s
    split <;> simp <;> omega
theorem kindC_eq (H : Has 62 E) (x : Int) (c : UInt8) (h : AHeap) : EvCall E (.fn (.func 62) [] []) [.int .i64 x, b8 c] h = some (.ret (.int .i64 (kind x c)), h) := by
  rw [EvCall_closed H.c62 rfl, kind_eq H]
  rfl
theorem refKindC_eq (H : Has 193 E) (x : Int) (c : UInt8) (h : AHeap) : EvCall E (.fn (.func 193) [] []) [.int .i64 x, b8 c] h = some (.ret (.int .i64 (kind x c)), h) := by
  rw [EvCall_closed H.c193 rfl, refKind_eq H]
  rfl
theorem run1_eq (H : Has 76 E) {h : AHeap} {x k : Int} {a b : Nat} (ha : h.bl a = some (.cells [.int .i64 x])) (hb : h.bl b = some (.cells [.int .i64 k])) (c : UInt8) :
    EvCall E (.fn (.func 76) [] [.ref a 0, .ref b 0]) [b8 c] h = some (.ret (.bool (kind x c != k)), h) := by
  rw [EvCall_reader H.c76 rfl, EvFn_eq]
  simp [f76, start, ha, hb, kind_eq (H.to 62)]
theorem run_loop (H : Has 63 E) {x k : Int} {h : AHeap} (h0 : h.bl 0 = some (.cells [.int .i64 x])) (h1 : h.bl 1 = some (.cells [.int .i64 k])) : ∀ (rest pre : List UInt8), pre.length + rest.length < 1000000 → ∀ F, mask k63_0 F = s63_0 (.str (pre ++ rest)) (.fn (.func 76) [] [.ref 0 0, .ref 1 0]) (.int .i64 pre.length) →
    EvCode E (.loop k63_0 l63_0) F h = some (.exit 0, x63_0 (.int .i64 (pre.length + runL x k rest : Nat)), h)
  | [], pre, hlen, F, hF => by
    rw [EvCode_loop, hF]
    simp [l63_0, s63_0, x63_0, runL]
  | c :: rest, pre, hlen, F, hF => by
    have ih := run_loop H h0 h1 rest (pre ++ [c]) (by simp at hlen ⊢; omega)
    rw [EvCode_loop, hF]
    generalize EvCode E (.loop k63_0 l63_0) = lp at ih ⊢
    simp only [List.length_cons] at hlen
    have hr := run1_eq (H.to 76) h0 h1 c
    have hlt : (pre.length : Int) < (pre.length : Int) + ((rest.length : Int) + 1) := by omega
    cases hk : (kind x c == k)
    · have hk' : (kind x c != k) = true := by simp [bne, hk]
      rw [hk'] at hr
      simp [l63_0, s63_0, hlt, hr, x63_0, runL, hk]
    · have hk' : (kind x c != k) = false := by simp [bne, hk]
      rw [hk'] at hr
      simp [l63_0, s63_0, hlt, hr, runL, hk, w64 (n := (pre.length : Int) + 1)]
      rw [ih _ (by simp [s63_0])]
      simp [x63_0]
      omega
theorem run_eq (H : Has 63 E) (x k : Int) (s : List UInt8) (hs : s.length < 1000000) : EvClosed E (.fn (.func 63) [] []) [.int .i64 x, .str s, .int .i64 k] = some (.int .i64 (runL x k s)) := by
  rw [EvClosed_eq H.c63 rfl (vs := [.int .i64 x, .str s, .int .i64 k]) (by simp), EvFn_eq]
  have hl := fun h h0 h1 => run_loop (E := E) H (x := x) (k := k) (h := h) h0 h1 s [] (by simp; omega)
  simp only [List.nil_append, List.length_nil, Nat.zero_add] at hl
  simp [f63, start]
  rw [hl _ (by simp) (by simp) _ (by simp [s63_0])]
  simp [x63_0]
theorem goes_loop (H : Has 194 E) {x k : Int} {h : AHeap} (ahead : List UInt8) : ∀ (rest pre : List UInt8), ahead.length + pre.length + rest.length < 1000000 → ∀ F, mask k194_0 F = s194_0 (.int .i64 x) (.str (ahead ++ (pre ++ rest))) (.int .i64 ahead.length) (.int .i64 k) (.int .i64 pre.length) →
    EvCode E (.loop k194_0 l194_0) F h = some (.exit 0, x194_0 (.int .i64 (pre.length + runL x k rest : Nat)), h)
  | [], pre, hlen, F, hF => by
    rw [EvCode_loop, hF]
    simp only [List.length_nil] at hlen
    simp [l194_0, s194_0, x194_0, runL, w64 (n := (ahead.length : Int) + pre.length)]
  | c :: rest, pre, hlen, F, hF => by
    have ih := goes_loop H (x := x) (k := k) (h := h) ahead rest (pre ++ [c]) (by simp at hlen ⊢; omega)
    rw [EvCode_loop, hF]
    generalize EvCode E (.loop k194_0 l194_0) = lp at ih ⊢
    simp only [List.length_cons] at hlen
    have hr := refKindC_eq (H.to 193) x c h
    have hlt : (ahead.length : Int) + (pre.length : Int) < (ahead.length : Int) + ((pre.length : Int) + ((rest.length : Int) + 1)) := by omega
    have hn : ((ahead.length : Int) + (pre.length : Int)).toNat = ahead.length + pre.length := by omega
    have hnn : (0 : Int) ≤ (ahead.length : Int) + (pre.length : Int) := by omega
    have hget : (ahead ++ (pre ++ c :: rest))[ahead.length + pre.length]? = some c := by
      rw [← List.append_assoc, List.getElem?_append_right (by simp)]
      simp
    cases hk : (kind x c == k)
    · simp [l194_0, s194_0, hlt, hnn, hn, hr, x194_0, runL, hk, w64 (n := (ahead.length : Int) + pre.length)]
    · simp [l194_0, s194_0, hlt, hnn, hn, hr, runL, hk, w64 (n := (pre.length : Int) + 1), w64 (n := (ahead.length : Int) + pre.length)]
      rw [ih _ (by simp [s194_0])]
      simp [x194_0]
      omega
theorem goes_eq (H : Has 194 E) (x k : Int) (ahead s : List UInt8) (hs : ahead.length + s.length < 1000000) : EvClosed E (.fn (.func 194) [] []) [.int .i64 x, .str (ahead ++ s), .int .i64 ahead.length, .int .i64 k] = some (.int .i64 (runL x k s)) := by
  rw [EvClosed_eq H.c194 rfl (vs := [.int .i64 x, .str (ahead ++ s), .int .i64 ahead.length, .int .i64 k]) (by simp), EvFn_eq]
  have hl := fun h => goes_loop (E := E) H (x := x) (k := k) (h := h) ahead s [] (by simp; omega)
  simp only [List.nil_append, List.length_nil, Nat.zero_add] at hl
  simp [f194, start]
  rw [hl _ _ (by simp [s194_0])]
  simp [x194_0]
def dig (c : UInt8) : Nat := c.toNat - 48
def dvalF (n : Nat) : List UInt8 → Nat
  | [] => n
  | c :: s => dvalF (n * 10 + dig c) s
def digits (s : List UInt8) : Prop := ∀ c ∈ s, isDig c.toNat = true
theorem dvalF_ge (s : List UInt8) : ∀ (n : Nat), n ≤ dvalF n s := by
  induction s with
  | nil => intro n; exact Nat.le_refl _
  | cons c s ih =>
    intro n
    refine Nat.le_trans ?_ (ih (n * 10 + dig c))
    generalize dig c = d
    omega
theorem dig_lt {c : UInt8} (h : isDig c.toNat = true) : 48 ≤ c.toNat ∧ c.toNat ≤ 57 ∧ dig c < 10 := by
  simp only [isDig, Bool.and_eq_true, decide_eq_true_eq] at h
  unfold dig
  omega
def big : Nat := 9223372036854775808
theorem big_eq : big = 9223372036854775808 := rfl
attribute [irreducible] big
def numOf (s : List UInt8) : Option Nat := if dvalF 0 s < big then some (dvalF 0 s) else none
theorem number_loop {h : AHeap} (hb : ∃ x y, h.bl 0 = some (.cells [x, y])) (hro : h.ro = 0) : ∀ (rest pre : List UInt8) (n : Nat), digits rest → n < big → pre.length + rest.length < 1000000 → ∀ F, mask k196_0 F = s196_0 (.str (pre ++ rest)) (.ref 0 0) (.int .i64 n) (.int .i64 pre.length) →
    EvCode E (.loop k196_0 l196_0) F h = some (if dvalF n rest < big then (.exit 0, x196_0 (.ref 0 0) (.int .i64 (dvalF n rest)), h) else (.ret, r196 (.ref 0 0), h.setBlk 0 (.cells [.int .i64 0, .bool false])))
  | [], pre, n, hd, hn, hlen, F, hF => by
    have h0 : dvalF n [] = n := rfl
    rw [EvCode_loop, hF, h0, if_pos hn]
    simp [l196_0, s196_0, x196_0]
  | c :: rest, pre, n, hd, hn, hlen, F, hF => by
    have hdr : digits rest := fun x hx => hd x (List.mem_cons_of_mem _ hx)
    obtain ⟨d1, d2, d3⟩ := dig_lt (hd c List.mem_cons_self)
    have ih := fun hh => number_loop hb hro rest (pre ++ [c]) (n * 10 + dig c) hdr hh (by simp at hlen ⊢; omega)
    obtain ⟨y1, y2, hb0⟩ := hb
    rw [EvCode_loop, hF, show dvalF n (c :: rest) = dvalF (n * 10 + dig c) rest from rfl]
    generalize EvCode E (.loop k196_0 l196_0) = lp at ih ⊢
    simp only [List.length_cons] at hlen
    rw [big_eq] at hn
    have hlt : (pre.length : Int) < (pre.length : Int) + ((rest.length : Int) + 1) := by omega
    have w1 : IntKind.u8.wrap ((c.toNat : Int) - 48) = dig c := by rw [IntKind.wrap_u8]; unfold dig; omega
    have w2 : IntKind.i64.wrap (dig c : Int) = dig c := w64
    have w3 : IntKind.i64.wrap (9223372036854775807 - (dig c : Int)) = 9223372036854775807 - (dig c : Int) := w64
    obtain ⟨Q, q⟩ : ∃ Q : Int, (9223372036854775807 - (dig c : Int)).tdiv 10 = Q := ⟨_, rfl⟩
    have q2 : Q = (9223372036854775807 - (dig c : Int)) / 10 := by rw [← q, Int.tdiv_eq_ediv_of_nonneg (by omega)]
    have w4 : IntKind.i64.wrap Q = Q := w64
    by_cases hov : n * 10 + dig c < 9223372036854775808
    · have hq : ¬ (Q < (n : Int)) := by omega
      have w5 : IntKind.i64.wrap ((n : Int) * 10) = (n : Int) * 10 := w64
      have w6 : IntKind.i64.wrap ((n : Int) * 10 + dig c) = (n : Int) * 10 + dig c := w64
      simp [l196_0, s196_0, hlt, w1, w2, w3, q, w4, hq, w5, w6, w64 (n := (pre.length : Int) + 1)]
      rw [ih (by rw [big_eq]; exact hov) _ (by simp [s196_0])]
    · have hq : Q < (n : Int) := by omega
      have hge := dvalF_ge rest (n * 10 + dig c)
      rw [if_neg (by rw [big_eq]; omega)]
      simp [l196_0, s196_0, hlt, w1, w2, w3, q, w4, hq, hb0, hro, r196]
theorem number_eq (H : Has 196 E) (s : List UInt8) (hd : digits s) (hs : s.length < 1000000) : EvClosed E (.fn (.func 196) [] []) [.str s] = some (.agg [.int .i64 ((numOf s).getD 0), .bool (numOf s).isSome]) := by
  rw [EvClosed_eq H.c196 rfl (vs := [.str s]) (by simp), EvFn_eq]
  have hl := fun h hb hro => number_loop (E := E) (h := h) hb hro s [] 0 hd (by rw [big_eq]; omega) (by simp; omega)
  simp only [List.nil_append, List.length_nil] at hl
  simp [f196, start]
  rw [hl _ ⟨.int .i64 0, .bool false, by simp⟩ (by simp) _ (by simp [s196_0])]
  by_cases hv : dvalF 0 s < big
  · simp [hv, x196_0, numOf]
  · simp [hv, r196, numOf]
end Go.Pv
/- Tokens: what the reference's functions of chapter 8 come to. Conditions: the functions' codes; theorems. -/
namespace Go.Pv
variable {E : Env}
structure Tok where
  kind : Int
  pos : Int
  text : List UInt8
  n : Int
  deriving DecidableEq
def Tok.cs (t : Tok) : List AV := [.int .i64 t.kind, .int .i64 t.pos, .str t.text, .int .i64 t.n]
theorem Tok.len (t : Tok) : t.cs.length = 4 := by simp [Tok.cs]
theorem Tok.take (t : Tok) : t.cs.take 4 = t.cs := by simp [Tok.cs]
theorem Tok.all (t : Tok) : t.cs.all AV.isCell = true := by simp [Tok.cs]
theorem Tok.shut {n k : Nat} (t : Tok) : shutL n k t.cs = some t.cs := by simp [Tok.cs]
def noteS (x : Int) (r : List UInt8) : Option (List UInt8) :=
  let e := r.findIdx (· == (sty x).cls)
  if e < r.length && plain x (r.take e) then some (r.take e) else none
def nextS (x : Int) : List UInt8 → Option (Int × List UInt8 × Int × Nat)
  | [] => none
  | c :: r =>
    if kind x c == 0 || kind x c == 10 then none
    else if kind x c == 1 then some (1, raise x ((c :: r).take (runL x 1 (c :: r))), 0, runL x 1 (c :: r))
    else if kind x c == 2 then (numOf ((c :: r).take (runL x 2 (c :: r)))).map fun (v : Nat) => (2, (c :: r).take (runL x 2 (c :: r)), (v : Int), runL x 2 (c :: r))
    else if kind x c == 9 then (noteS x r).map fun t => (9, t, 0, t.length + 2)
    else some (kind x c, [c], 0, 1)
def gotCs (at_ : Int) : Option (Int × List UInt8 × Int × Nat) → List AV
  | none => [.int .i64 0, .int .i64 0, .str [], .int .i64 0, .int .i64 0]
  | some (k, t, n, l) => [.int .i64 k, .int .i64 at_, .str t, .int .i64 n, .int .i64 l]
theorem note_loop (H : Has 197 E) {x : Int} {h : AHeap} {v : AV} (ahead : List UInt8) (c : UInt8) : ∀ (rest pre : List UInt8), ahead.length + 1 + pre.length + rest.length < 1000000 → ∀ F, mask k197_0 F = s197_0 (.int .i64 x) (.str (ahead ++ c :: (pre ++ rest))) (.int .i64 ahead.length) v (.int .i64 (ahead.length + 1 + pre.length : Nat)) →
    EvCode E (.loop k197_0 l197_0) F h = some (.exit 0, x197_0 (.int .i64 x) (.str (ahead ++ c :: (pre ++ rest))) (.int .i64 ahead.length) v (.int .i64 (ahead.length + 1 + pre.length + rest.findIdx (· == (sty x).cls) : Nat)), h)
  | [], pre, hlen, F, hF => by
    rw [EvCode_loop, hF]
    have hlt : ¬ ((ahead.length : Int) + 1 + pre.length < (ahead.length : Int) + ((pre.length : Int) + 1)) := by omega
    simp [l197_0, s197_0, x197_0, hlt]
  | d :: rest, pre, hlen, F, hF => by
    have ih := note_loop H (x := x) (h := h) (v := v) ahead c rest (pre ++ [d]) (by simp at hlen ⊢; omega)
    have ho := refOf_eq (H.to 19) x
    simp only [Sty.cs] at ho
    rw [EvCode_loop, hF]
    generalize EvCode E (.loop k197_0 l197_0) = lp at ih ⊢
    simp only [List.length_cons] at hlen
    have hlt : (ahead.length : Int) + 1 + pre.length < (ahead.length : Int) + ((pre.length : Int) + ((rest.length : Int) + 1) + 1) := by omega
    have hnn : (0 : Int) ≤ (ahead.length : Int) + 1 + (pre.length : Int) := by omega
    have hn : ((ahead.length : Int) + 1 + (pre.length : Int)).toNat = ahead.length + 1 + pre.length := by omega
    have hget : (ahead ++ c :: (pre ++ d :: rest))[ahead.length + 1 + pre.length]? = some d := by
      rw [show ahead ++ c :: (pre ++ d :: rest) = (ahead ++ [c] ++ pre) ++ d :: rest by simp, List.getElem?_append_right (by simp; omega)]
      have hz : ahead.length + 1 + pre.length - (ahead ++ [c] ++ pre).length = 0 := by simp; omega
      rw [hz]
      rfl
    have hu : ((d.toNat : Int) != ((sty x).cls.toNat : Int)) = !(d == (sty x).cls) := by
      rw [← u8i]
      rfl
    cases hk : (d == (sty x).cls)
    · rw [hk] at hu
      simp [l197_0, s197_0, hlt, hnn, hn, hget, ho, hu, whole, w64 (n := (ahead.length : Int) + 1 + pre.length + 1)]
      have := ih
      simp only [List.append_assoc, List.cons_append, List.nil_append] at this
      rw [this _ (by simp [s197_0]; omega)]
      simp [x197_0, List.findIdx_cons, hk]
      omega
    · rw [hk] at hu
      simp [l197_0, s197_0, hlt, hnn, hn, hget, ho, hu, whole, x197_0, List.findIdx_cons, hk]
theorem note_eq (H : Has 197 E) (x : Int) (ahead : List UInt8) (c : UInt8) (r : List UInt8) (hs : ahead.length + r.length < 900000) : EvClosed E (.fn (.func 197) [] []) [.int .i64 x, .str (ahead ++ c :: r), .int .i64 ahead.length] =
    some (.agg (gotCs ahead.length ((noteS x r).map fun t => (9, t, 0, t.length + 2)))) := by
  rw [EvClosed_eq H.c197 rfl (vs := [.int .i64 x, .str (ahead ++ c :: r), .int .i64 ahead.length]) (by simp), EvFn_eq]
  have hl := fun h v => note_loop (E := E) H (x := x) (h := h) (v := v) ahead c r [] (by simp; omega)
  simp only [List.nil_append, List.length_nil, Nat.add_zero] at hl
  have hle : r.findIdx (· == (sty x).cls) ≤ r.length := List.findIdx_le_length
  obtain ⟨e, he⟩ : ∃ e, r.findIdx (· == (sty x).cls) = e := ⟨_, rfl⟩
  rw [he] at hl hle
  have hp := refPlain_eq (H.to 172) x (r.take e) (by simp; omega)
  simp [f197, start, w64 (n := (ahead.length : Int) + 1)]
  rw [hl _ (.ref 0 0) _ (by simp [s197_0])]
  simp only [noteS, he]
  by_cases hlt : e < r.length
  · have h1 : ¬ ((ahead.length : Int) + ((r.length : Int) + 1) ≤ (ahead.length : Int) + 1 + e) := by omega
    have hsl : ((ahead ++ c :: r).take (ahead.length + 1 + e)).drop (ahead.length + 1) = r.take e := by
      rw [show ahead ++ c :: r = (ahead ++ [c]) ++ r by simp, show ahead.length + 1 + e = (ahead ++ [c]).length + e by simp, List.take_length_add_append, show ahead.length + 1 = (ahead ++ [c]).length by simp, List.drop_left]
    have h2 : (0 : Int) ≤ (ahead.length : Int) + 1 + e ∧ (ahead.length : Int) + 1 + e ≤ (ahead.length : Int) + ((r.length : Int) + 1) := by omega
    have h3 : (0 : Int) ≤ (ahead.length : Int) + 1 := by omega
    have h4 : ((ahead.length : Int) + 1 + e).toNat = ahead.length + 1 + e := by omega
    have h5 : ((ahead.length : Int) + 1).toNat = ahead.length + 1 := by omega
    have h6 : (ahead.length : Int) + 1 ≤ (ahead.length : Int) + 1 + (e : Int) := by omega
    have w1 : IntKind.i64.wrap ((ahead.length : Int) + 1 + e + 1) = (ahead.length : Int) + 1 + e + 1 := w64
    have w2 : IntKind.i64.wrap ((ahead.length : Int) + 1 + e + 1 - ahead.length) = (e : Int) + 2 := by rw [w64]; omega
    cases hpl : plain x (r.take e)
    · rw [hpl] at hp
      simp [x197_0, h1, h2, h3, h4, h5, h6, hsl, w64 (n := (ahead.length : Int) + 1), EvCall_closed H.c172 rfl, hp, hlt, gotCs]
    · rw [hpl] at hp
      simp [x197_0, h1, h2, h3, h4, h5, h6, hsl, w64 (n := (ahead.length : Int) + 1), EvCall_closed H.c172 rfl, hp, hlt, gotCs, w1, w2]
      omega
  · have h1 : (ahead.length : Int) + ((r.length : Int) + 1) ≤ (ahead.length : Int) + 1 + e := by omega
    simp [x197_0, h1, hlt, gotCs]
end Go.Pv
/- Tokens: what the reference's Next comes to. Conditions: the functions' codes; theorems. -/
namespace Go.Pv
variable {E : Env}
theorem kind_dig {x : Int} {c : UInt8} (h : (kind x c == 2) = true) : isDig c.toNat = true := by
  unfold kind kindS at h
  cases hd : isDig c.toNat
  · exfalso
    rw [hd] at h
    simp only [Bool.false_eq_true, if_false] at h
    have h := eq_of_beq h
    revert h
    (repeat' split) <;> (intro h; omega)
  · rfl
theorem run_digits (x : Int) : ∀ (s : List UInt8), digits (s.take (runL x 2 s))
  | [] => fun c hc => by simp at hc
  | c :: s => by
    simp only [runL]
    split
    · rename_i h
      intro d hd
      rw [List.take_succ_cons, List.mem_cons] at hd
      rcases hd with rfl | hd
      · exact kind_dig h
      · exact run_digits x s d hd
    · intro d hd
      simp at hd
theorem cut_at (ahead s : List UInt8) (k : Nat) : ((ahead ++ s).take (ahead.length + k)).drop ahead.length = s.take k := by
  rw [List.take_length_add_append, List.drop_left]
theorem next_eq (H : Has 176 E) (x : Int) (ahead : List UInt8) (c : UInt8) (r : List UInt8) (hs : ahead.length + r.length < 900000) :
    EvClosed E (.fn (.func 176) [] []) [.int .i64 x, .str (ahead ++ c :: r), .int .i64 ahead.length] = some (.agg (gotCs ahead.length (nextS x (c :: r)))) := by
  rw [EvClosed_eq H.c176 rfl (vs := [.int .i64 x, .str (ahead ++ c :: r), .int .i64 ahead.length]) (by simp), EvFn_eq]
  have hget : (ahead ++ c :: r)[ahead.length]? = some c := by simp
  have hk : ∀ h, EvCall E (.fn (.func 193) [] []) [.int .i64 x, .int .u8 c.toNat] h = some (.ret (.int .i64 (kind x c)), h) := fun h => refKindC_eq (H.to 193) x c h
  have hkc : EvClosed E (.fn (.func 193) [] []) [.int .i64 x, .int .u8 c.toNat] = some (.int .i64 (kind x c)) := refKind_eq (H.to 193) x c
  have hle1 := runL_le x 1 (c :: r)
  have hle2 := runL_le x 2 (c :: r)
  have hg1 := goes_eq (H.to 194) x 1 ahead (c :: r) (by simp; omega)
  have hg2 := goes_eq (H.to 194) x 2 ahead (c :: r) (by simp; omega)
  have hr := refRaise_eq (H.to 195) x ((c :: r).take (runL x 1 (c :: r))) (by simp; omega)
  have hn := number_eq (H.to 196) ((c :: r).take (runL x 2 (c :: r))) (run_digits x _) (by simp; omega)
  have ho := note_eq (H.to 197) x ahead c r (by omega)
  have hc1 := cut_at ahead (c :: r) (runL x 1 (c :: r))
  have hc2 := cut_at ahead (c :: r) (runL x 2 (c :: r))
  have hc3 := cut_at ahead (c :: r) 1
  simp only [List.length_cons] at hle1 hle2
  simp only [nextS]
  generalize runL x 1 (c :: r) = k1 at hle1 hg1 hr hc1 ⊢
  generalize runL x 2 (c :: r) = k2 at hle2 hg2 hn hc2 ⊢
  have w0 : IntKind.i64.wrap ((ahead.length : Int) + 1) = (ahead.length : Int) + 1 := w64
  have w1 : IntKind.i64.wrap ((ahead.length : Int) + k1) = (ahead.length : Int) + k1 := w64
  have w2 : IntKind.i64.wrap ((ahead.length : Int) + k2) = (ahead.length : Int) + k2 := w64
  have a1 : (0 : Int) ≤ (ahead.length : Int) + k1 ∧ (ahead.length : Int) + k1 ≤ (ahead.length : Int) + ((r.length : Int) + 1) := by omega
  have a2 : (0 : Int) ≤ (ahead.length : Int) + k2 ∧ (ahead.length : Int) + k2 ≤ (ahead.length : Int) + ((r.length : Int) + 1) := by omega
  have a3 : (0 : Int) ≤ (ahead.length : Int) + 1 ∧ (ahead.length : Int) + 1 ≤ (ahead.length : Int) + ((r.length : Int) + 1) := by omega
  have t1 : ((ahead.length : Int) + k1).toNat = ahead.length + k1 := by omega
  have t2 : ((ahead.length : Int) + k2).toNat = ahead.length + k2 := by omega
  have t3 : ((ahead.length : Int) + 1).toNat = ahead.length + 1 := by omega
  have l1 : (ahead.length : Int) ≤ (ahead.length : Int) + k1 := by omega
  have l2 : (ahead.length : Int) ≤ (ahead.length : Int) + k2 := by omega
  have l3 : (ahead.length : Int) ≤ (ahead.length : Int) + 1 := by omega
  cases h0 : (kind x c == 0)
  · cases h10 : (kind x c == 10)
    · cases h1 : (kind x c == 1)
      · cases h2 : (kind x c == 2)
        · cases h9 : (kind x c == 9)
          · simp [f176, start, hk, h0, h10, h1, h2, h9, hkc, w0, a3, t3, l3, hc3, gotCs]
          · simp [f176, start, hk, h0, h10, h1, h2, h9, EvCall_closed H.c197 rfl, ho]
            cases (noteS x r) <;> simp [gotCs]
        · simp [f176, start, hk, h0, h10, h1, h2, EvCall_closed H.c194 rfl, EvCall_closed H.c196 rfl, hg2, hn, w2, a2, t2, l2, hc2, push_setk]
          cases (numOf ((c :: r).take k2)) <;> simp [gotCs]
      · simp [f176, start, hk, h0, h10, h1, EvCall_closed H.c194 rfl, EvCall_closed H.c195 rfl, hg1, hr, w1, a1, t1, l1, hc1, gotCs]
    · simp [f176, start, hk, h0, h10, gotCs]
  · simp [f176, start, hk, h0, gotCs]
end Go.Pv
/- A slice that is appended to. Conditions: none; lemmas. -/
namespace Go.Pv
theorem bl_mk (b : List ABlk) (ts : List Nat) (r q i : Nat) : (AHeap.mk b ts r q).bl i = b[i]? := rfl
def AHeap.toks_ (h : AHeap) (ts : List Nat) : AHeap := { h with toks := ts }
theorem toks_mk (h : AHeap) (ts : List Nat) : ({ blks := h.blks, toks := ts, ro := h.ro, rot := h.rot } : AHeap) = h.toks_ ts := rfl
theorem bl_toks (h : AHeap) (ts : List Nat) (i : Nat) : (h.toks_ ts).bl i = h.bl i := rfl
theorem blks_toks (h : AHeap) (ts : List Nat) : (h.toks_ ts).blks = h.blks := rfl
theorem len_toks (h : AHeap) (ts : List Nat) : (h.toks_ ts).blks.length = h.blks.length := rfl
theorem ro_toks (h : AHeap) (ts : List Nat) : (h.toks_ ts).ro = h.ro := rfl
theorem rot_toks (h : AHeap) (ts : List Nat) : (h.toks_ ts).rot = h.rot := rfl
theorem tk_set (h : AHeap) (b : Nat) (y : ABlk) (i : Nat) : (h.setBlk b y).tk i = h.tk i := rfl
theorem tk_toks (h : AHeap) (ts : List Nat) (i : Nat) : (h.toks_ ts).tk i = ts[i]? := rfl
theorem toks_toks (h : AHeap) (ts us : List Nat) : (h.toks_ ts).toks_ us = h.toks_ us := rfl
theorem toks_self (h : AHeap) : h.toks_ h.toks = h := rfl
def Grow (h : AHeap) (sz : Nat) (cs : List AV) (len : Nat) (v : AV) : Prop :=
  (v = .nils ∧ cs = [] ∧ len = 0) ∨ ∃ k, v = .vs (.tok k sz) len cs ∧ cs.length = len * sz ∧ h.tk k = some cs.length ∧ h.rot ≤ k ∧ 0 < len
theorem grow_nil (h : AHeap) (sz : Nat) : Grow h sz [] 0 .nils := .inl ⟨rfl, rfl, rfl⟩
theorem grow_app {h : AHeap} {sz bytes : Nat} {cs : List AV} {len m : Nat} {v : AV} {xs : List AV} (g : Grow h sz cs len v) (hr : h.rot ≤ h.toks.length) (hb : (len + m) * bytes ≤ 140737488355328) (hm : 0 < m) (hsz : 0 < sz) (hx : xs.length = m * sz) (hc : xs.all AV.isCell = true) :
    ∃ ts v', appendA sz bytes h (den v) (.vs .full m xs) = some (v', h.toks_ ts) ∧ Grow (h.toks_ ts) sz (cs ++ xs) (len + m) v' ∧ h.toks.length ≤ ts.length := by
  have hm0 : ¬ m = 0 := by omega
  rcases g with ⟨rfl, rfl, rfl⟩ | ⟨k, rfl, h1, h2, h3, h4⟩
  · simp only [Nat.zero_add] at hb
    refine ⟨h.toks ++ [0 + xs.length], .vs (.tok h.toks.length sz) (0 + m) ([] ++ xs), ?_, .inr ⟨_, rfl, ?_, ?_, ?_, by omega⟩, by simp⟩
    · simp [appendA, den, sliceCells, hx, hb, hsz, hm0, AHeap.toks_]
      exact List.all_eq_true.1 hc
    · simpa using hx
    · simp [tk_toks]
    · exact hr
  · have hkl : k < h.toks.length := (List.getElem?_eq_some_iff.1 h2).1
    have hcs : den (.vs (.tok k sz) len cs) = .vs (.tok k sz) len cs := rfl
    refine ⟨h.toks.set k (cs.length + xs.length), .vs (.tok k sz) (len + m) (cs ++ xs), ?_, .inr ⟨_, rfl, ?_, ?_, h3, by omega⟩, by simp⟩
    · rw [hcs]
      rw [h1] at h2
      simp [appendA, sliceCells, hx, hb, hsz, hm0, AHeap.toks_, h1, h2, h3]
      exact List.all_eq_true.1 hc
    · simp [h1, hx, Nat.add_mul]
    · simp [tk_toks, hkl]
theorem Grow.len {h : AHeap} {sz : Nat} {cs : List AV} {len : Nat} {v : AV} (g : Grow h sz cs len v) : cs.length = len * sz := by
  rcases g with ⟨_, rfl, rfl⟩ | ⟨k, _, h1, _⟩
  · simp
  · exact h1
theorem Grow.of_heap {h h' : AHeap} {sz : Nat} {cs : List AV} {len : Nat} {v : AV} (g : Grow h sz cs len v) (ht : h'.toks = h.toks) (hr : h'.rot = h.rot) : Grow h' sz cs len v := by
  rcases g with g | ⟨k, g1, g2, g3, g4, g5⟩
  · exact .inl g
  · exact .inr ⟨k, g1, g2, by show h'.toks[k]? = _; rw [ht]; exact g3, by rw [hr]; exact g4, g5⟩
theorem Grow.cell {h : AHeap} {sz : Nat} {cs : List AV} {len : Nat} {v : AV} (g : Grow h sz cs len v) : v.isCell = true := by
  rcases g with ⟨rfl, _⟩ | ⟨k, rfl, _⟩ <;> simp
theorem Grow.cells {h : AHeap} {sz : Nat} {cs : List AV} {len : Nat} {v : AV} (g : Grow h sz cs len v) : v.cells? = some [v] := by
  rcases g with ⟨rfl, _⟩ | ⟨k, rfl, _⟩ <;> simp
theorem set_set (h : AHeap) (b : Nat) (x y : ABlk) : (h.setBlk b x).setBlk b y = h.setBlk b y := by simp [AHeap.setBlk]
def shutV (cs : List AV) (len : Nat) : AV := if len = 0 then .nils else .vs .shared len cs
end Go.Pv
/- Tokens: what the reference's Each comes to. Conditions: the functions' codes; theorems. -/
namespace Go.Pv
variable {E : Env}
def lexF (x : Int) : Nat → List UInt8 → Nat → List Tok × Nat
  | 0, _, p => ([], p)
  | f + 1, s, p =>
    match nextS x s with
    | none => ([], p)
    | some (k, t, n, l) => (⟨k, p, t, n⟩ :: (lexF x f (s.drop l) (p + l)).1, (lexF x f (s.drop l) (p + l)).2)
theorem next_len {x : Int} {s : List UInt8} {k : Int} {t : List UInt8} {n : Int} {l : Nat} (h : nextS x s = some (k, t, n, l)) : 1 ≤ l ∧ l ≤ s.length := by
  cases s with
  | nil => cases h
  | cons c r =>
    simp only [nextS] at h
    have r1 := runL_le x 1 (c :: r)
    have r2 := runL_le x 2 (c :: r)
    split at h
    · cases h
    · split at h
      · rename_i hk
        cases h
        refine ⟨?_, r1⟩
        simp only [runL, hk, if_true]
        omega
      · split at h
        · rename_i hk
          cases hn : numOf ((c :: r).take (runL x 2 (c :: r))) with
          | none => rw [hn] at h; cases h
          | some v =>
            rw [hn] at h
            cases h
            refine ⟨?_, r2⟩
            simp only [runL, hk, if_true]
            omega
        · split at h
          · cases hn : noteS x r with
            | none => rw [hn] at h; cases h
            | some v =>
              rw [hn] at h
              cases h
              unfold noteS at hn
              simp only at hn
              split at hn
              · rename_i hq
                simp only [Bool.and_eq_true, decide_eq_true_eq] at hq
                cases hn
                simp
                omega
              · cases hn
          · cases h
            simp
theorem each164_loop (H : Has 164 E) (x : Int) {b0 b1 : Nat} (hbb : ¬ b0 = b1) : ∀ (f : Nat) (s ahead : List UInt8), s.length ≤ f → ahead.length + s.length < 900000 → ∀ (h : AHeap) (done : List Tok) (v y z : AV),
    h.bl b1 = some (.cells [v, .int .i64 ahead.length]) → h.bl b0 = some (.cells [y, z]) → Grow h 4 (done.flatMap Tok.cs) done.length v → h.rot ≤ h.toks.length → h.ro = 0 → done.length ≤ ahead.length →
    ∃ h' v', Grow h' 4 ((done ++ (lexF x f s ahead.length).1).flatMap Tok.cs) (done ++ (lexF x f s ahead.length).1).length v' ∧ (h'.ro = 0 ∧ h'.rot ≤ h'.toks.length ∧ ∀ b, b ≠ b0 → b ≠ b1 → b < h.blks.length → h'.bl b = h.bl b) ∧
      (((∀ F, mask k164_0 F = s164_0 (.int .i64 x) (.str (ahead ++ s)) (.ref b0 0) (.ref b1 0) → EvCode E (.loop k164_0 l164_0) F h = some (.exit 0, x164_0 (.ref b0 0) (.ref b1 0), h')) ∧ h'.bl b1 = some (.cells [v', .int .i64 (lexF x f s ahead.length).2]) ∧ ∃ y' z', h'.bl b0 = some (.cells [y', z'])) ∨
       ((∀ F, mask k164_0 F = s164_0 (.int .i64 x) (.str (ahead ++ s)) (.ref b0 0) (.ref b1 0) → EvCode E (.loop k164_0 l164_0) F h = some (.ret, r164 (.ref b0 0), h')) ∧ h'.bl b0 = some (.cells [v', .int .i64 (lexF x f s ahead.length).2])))
  | f, [], ahead, hf, hs, h, done, v, y, z, h1, h0, hg, hr, hro, hd => by
    have e : lexF x f [] ahead.length = ([], ahead.length) := by cases f <;> rfl
    rw [e]
    refine ⟨h, v, by simpa using hg, ⟨hro, hr, fun _ _ _ _ => rfl⟩, .inl ⟨fun F hF => ?_, h1, y, z, h0⟩⟩
    rw [EvCode_loop, hF]
    simp [l164_0, s164_0, x164_0, h1]
  | 0, c :: r, ahead, hf, hs, h, done, v, y, z, h1, h0, hg, hr, hro, hd => by simp at hf
  | f + 1, c :: r, ahead, hf, hs, h, done, v, y, z, h1, h0, hg, hr, hro, hd => by
    simp only [List.length_cons] at hf hs
    have hnx := next_eq (H.to 176) x ahead c r (by omega)
    have hlt : (ahead.length : Int) < (ahead.length : Int) + ((r.length : Int) + 1) := by omega
    have n1 := blk_ne h1
    have n0 := blk_ne h0
    have hbb' : ¬ b1 = b0 := fun q => hbb q.symm
    cases hn : nextS x (c :: r) with
    | none =>
      rw [hn] at hnx
      simp only [lexF, hn]
      simp only [gotCs] at hnx
      refine ⟨(h.push (.cells [.int .i64 0, .int .i64 0, .str [], .int .i64 0, .int .i64 0])).setBlk b0 (.cells [v, .int .i64 ahead.length]), v, ?_, ⟨by simpa using hro, by simpa using hr, fun b q0 _ q2 => (by have hq : ¬ b = h.blks.length := by { omega }; simp [Ne.symm q0, hq])⟩, .inr ⟨fun F hF => ?_, by simp [n0, h0]⟩⟩
      · rw [List.append_nil]
        exact Grow.of_heap hg rfl rfl
      · rw [EvCode_loop, hF]
        simp [l164_0, s164_0, h1, h0, n1, n0, hlt, EvCall_closed H.c176 rfl, hnx, push_set, hro, hg.cell, r164]
    | some g =>
      obtain ⟨k, t, n, l⟩ := g
      obtain ⟨l1, l2⟩ := next_len hn
      rw [hn] at hnx
      simp only [lexF, hn]
      simp only [gotCs] at hnx
      simp only [List.length_cons] at l2
      have hap : ahead ++ c :: r = (ahead ++ (c :: r).take l) ++ (c :: r).drop l := by rw [List.append_assoc, List.take_append_drop]
      have hal : (ahead ++ (c :: r).take l).length = ahead.length + l := by simp; omega
      obtain ⟨ts, v1, e1, g1, r1⟩ := grow_app (h := h.push (.cells [.int .i64 k, .int .i64 ahead.length, .str t, .int .i64 n, .int .i64 l])) (bytes := 40) (m := 1) (xs := Tok.cs ⟨k, ahead.length, t, n⟩) hg hr (by omega) (by omega) (by omega) rfl (Tok.all _)
      obtain ⟨hA, hAe⟩ : ∃ hA, (((h.push (.cells [.int .i64 k, .int .i64 ahead.length, .str t, .int .i64 n, .int .i64 l])).toks_ ts).setBlk b1 (.cells [v1, .int .i64 ((ahead.length : Int) + l)])) = hA := ⟨_, rfl⟩
      obtain ⟨h', v', q1, q2, q3⟩ := each164_loop H x hbb f ((c :: r).drop l) (ahead ++ (c :: r).take l) (by simp; omega) (by rw [hal]; simp; omega) hA (done ++ [⟨k, ahead.length, t, n⟩]) v1 y z
        (by rw [← hAe, hal]; simp [bl_toks, n1, h1]) (by rw [← hAe]; simp [bl_toks, n0, h0, hbb']) (by rw [← hAe]; exact Grow.of_heap (by simpa using g1) (by rfl) (by rfl)) (by rw [← hAe]; exact Nat.le_trans hr r1) (by rw [← hAe]; exact hro) (by rw [hal]; simp; omega)
      rw [← hap, hal] at q3
      rw [hal] at q1
      have hold : ∀ b, b ≠ b0 → b ≠ b1 → b < h.blks.length → h'.bl b = h.bl b := by
        intro b q0 q1' q2'
        rw [q2.2.2 b q0 q1' (by rw [← hAe]; simp [len_toks]; omega), ← hAe]
        have hq : ¬ b = h.blks.length := by omega
        simp [bl_toks, Ne.symm q1', hq]
      refine ⟨h', v', by simpa using q1, ⟨q2.1, q2.2.1, hold⟩, ?_⟩
      have hl0 : ((l : Int) == 0) = false := by simp; omega
      have w1 : IntKind.i64.wrap ((ahead.length : Int) + l) = (ahead.length : Int) + l := w64
      simp only [Tok.cs] at e1
      have hm1 := g1.cells
      unfold AV.cells? at hm1
      rcases q3 with ⟨q3, q4, q5⟩ | ⟨q3, q4⟩
      · refine .inl ⟨fun F hF => ?_, q4, q5⟩
        rw [EvCode_loop, hF]
        generalize EvCode E (.loop k164_0 l164_0) = lp at q3 ⊢
        simp [-den, l164_0, s164_0, h1, n1, hlt, EvCall_closed H.c176 rfl, hnx, push_set, hro, hl0, e1, hm1, g1.cell, w1, bl_toks, ro_toks, set_set]
        rw [hAe]
        exact q3 _ (by simp [s164_0])
      · refine .inr ⟨fun F hF => ?_, q4⟩
        rw [EvCode_loop, hF]
        generalize EvCode E (.loop k164_0 l164_0) = lp at q3 ⊢
        simp [-den, l164_0, s164_0, h1, n1, hlt, EvCall_closed H.c176 rfl, hnx, push_set, hro, hl0, e1, hm1, g1.cell, w1, bl_toks, ro_toks, set_set]
        rw [hAe]
        exact q3 _ (by simp [s164_0])
def toksV (l : List Tok) : AV := if l.isEmpty then .nils else .vs .shared l.length (l.flatMap Tok.cs)
theorem grow_shut {h : AHeap} {l : List Tok} {v : AV} (g : Grow h 4 (l.flatMap Tok.cs) l.length v) : shut 0 0 v = some (toksV l) := by
  have hs := shutL_flat (n := 0) (t := 0) (f := Tok.cs) (fun t => t.shut) l
  rcases g with ⟨rfl, _, h2⟩ | ⟨k, rfl, _, _, _, h5⟩
  · have : l = [] := List.length_eq_zero_iff.1 h2
    subst this
    simp [toksV]
  · have he : l.isEmpty = false := by
      cases l with
      | nil => simp at h5
      | cons a l => rfl
    simp [toksV, he, hs]
def lexS (x : Int) (s : List UInt8) : List Tok × Nat := lexF x s.length s 0
theorem each164_open (H : Has 164 E) (x : Int) (s : List UInt8) (hs : s.length < 900000) (h : AHeap) (hro : h.ro = 0) (hr : h.rot ≤ h.toks.length) :
    ∃ h' v', EvCall E (.fn (.func 164) [] []) [.int .i64 x, .str s] h = some (.ret (.agg [v', .int .i64 (lexS x s).2]), h') ∧ Grow h' 4 ((lexS x s).1.flatMap Tok.cs) (lexS x s).1.length v' ∧ h'.ro = 0 ∧ h'.rot ≤ h'.toks.length ∧ ∀ b, b < h.blks.length → h'.bl b = h.bl b := by
  rw [EvCall_open H.c164 rfl, EvFn_eq]
  have n0 : ¬ h.blks.length = h.blks.length + 1 := by omega
  obtain ⟨h', v', q1, ⟨q2, q6, q7⟩, q3⟩ := each164_loop H x n0 s.length s [] (Nat.le_refl _) (by simpa using hs) ((h.push (.cells [.nils, .int .i64 0])).push (.cells [.nils, .int .i64 0])) [] .nils .nils (.int .i64 0) (by simp) (by simp) (grow_nil _ _) hr hro (Nat.le_refl _)
  have e : lexF x s.length s ([] : List UInt8).length = lexS x s := rfl
  rw [e] at q1 q3
  simp only [List.nil_append] at q1 q3
  have hv := q1.cell
  have hcs := q1.cells
  unfold AV.cells? at hcs
  have hold : ∀ b, b < h.blks.length → h'.bl b = h.bl b := by
    intro b hb
    rw [q7 b (by omega) (by omega) (by simp; omega)]
    have q1 : ¬ b = h.blks.length := by omega
    have q2 : ¬ b = h.blks.length + 1 := by omega
    simp [q1, q2]
  rcases q3 with ⟨q3, q4, y, z, q5⟩ | ⟨q3, q4⟩
  · refine ⟨h'.setBlk h.blks.length (.cells [v', .int .i64 (lexS x s).2]), v', ?_, Grow.of_heap q1 rfl rfl, q2, q6, fun b hb => by rw [bl_set, if_neg (by omega)]; exact hold b hb⟩
    simp [f164, start, push_setk, hro]
    rw [q3 _ (by simp [s164_0])]
    simp [x164_0, q4, q5, q2, hv]
  · refine ⟨h', v', ?_, q1, q2, q6, hold⟩
    simp [f164, start, push_setk, hro]
    rw [q3 _ (by simp [s164_0])]
    simp [r164, q4]
end Go.Pv
/- Tokens: what the reference's Join comes to. Conditions: the functions' codes; theorems. -/
namespace Go.Pv
variable {E : Env}
def tokT (x : Int) (t : Tok) : List UInt8 := if t.kind == 9 then (sty x).opn :: (t.text ++ [(sty x).cls]) else t.text
def joinS (x : Int) (l : List Tok) : List UInt8 := l.flatMap (tokT x)
theorem tok_at {l : List Tok} {i : Nat} (hi : i < l.length) : ((l.flatMap Tok.cs).drop (i * 4)).take 1 = [.int .i64 l[i].kind] := by
  rw [fm_at0 Tok.len hi (by omega)]
  rfl
theorem tok_text {l : List Tok} {i : Nat} (hi : i < l.length) : ((l.flatMap Tok.cs).drop (i * 4 + 2)).take 1 = [.str l[i].text] := by
  rw [fm_at Tok.len hi (by omega)]
  rfl
theorem one_byte (c : UInt8) : bytesOf [.int .u8 (c.toNat : Int)] = some [c] := bytesOf_b8 [c]
theorem join_loop (x : Int) (l : List Tok) (hl : l.length < 1000000) (ht : ∀ t ∈ l, t.text.length < 1000000) {h : AHeap} (hb : h.bl 0 = some (.cells (sty x).cs)) : ∀ (m i : Nat), i + m = l.length → ∀ (acc : List UInt8) F, acc.length ≤ i * 1000010 →
    mask k165_0 F = s165_0 (toksV l) (.ref 0 0) (.str acc) (.int .i64 i) → EvCode E (.loop k165_0 l165_0) F h = some (.exit 0, x165_0 (.str (acc ++ joinS x (l.drop i))), h)
  | 0, i, hi, acc, F, ha, hF => by
    have hi' : i = l.length := by omega
    subst hi'
    rw [EvCode_loop, hF]
    unfold toksV
    split
    · rename_i he
      have : l = [] := by simpa using he
      subst this
      simp [l165_0, s165_0, x165_0, joinS]
    · simp [l165_0, s165_0, x165_0, joinS]
  | m + 1, i, hi, acc, F, ha, hF => by
    have hlt : i < l.length := by omega
    have he : l.isEmpty = false := by
      cases l with
      | nil => simp at hlt
      | cons a l => rfl
    have htx := ht l[i] (List.getElem_mem hlt)
    have ih := join_loop x l hl ht hb m (i + 1) (by omega)
    rw [EvCode_loop, hF, List.drop_eq_getElem_cons hlt]
    simp only [toksV, he, Bool.false_eq_true, if_false] at ih ⊢
    simp only [Sty.cs] at hb
    generalize EvCode E (.loop k165_0 l165_0) = lp at ih ⊢
    have a1 : (i + 1) * 1000010 = i * 1000010 + 1000010 := by rw [Nat.add_mul]
    have a2 : i * 1000010 ≤ 1000000 * 1000010 := Nat.mul_le_mul_right _ (by omega)
    cases hk : (l[i].kind == 9)
    · have hj : joinS x (l[i] :: l.drop (i + 1)) = l[i].text ++ joinS x (l.drop (i + 1)) := by
        show tokT x l[i] ++ joinS x (l.drop (i + 1)) = _
        simp [tokT, hk]
      rw [hj]
      simp [l165_0, s165_0, hlt, fm_len Tok.len, lt_at hlt, le_at hlt, lt_off hlt, le_off hlt, tok_at hlt, tok_text hlt, hk, (by omega : acc.length + l[i].text.length ≤ 9223372036854775807), w64 (n := (i : Int) + 1)]
      rw [ih (acc ++ l[i].text) _ (by simp; omega) (by simp [s165_0])]
      simp
    · have hj : joinS x (l[i] :: l.drop (i + 1)) = (sty x).opn :: (l[i].text ++ ((sty x).cls :: joinS x (l.drop (i + 1)))) := by
        show tokT x l[i] ++ joinS x (l.drop (i + 1)) = _
        simp [tokT, hk]
      rw [hj]
      simp [l165_0, s165_0, hlt, hb, one_byte, fm_len Tok.len, lt_at hlt, le_at hlt, lt_off hlt, le_off hlt, tok_at hlt, tok_text hlt, hk, (by omega : acc.length + 1 ≤ 9223372036854775807), (by omega : acc.length + (l[i].text.length + 1) + 1 ≤ 9223372036854775807), (by omega : acc.length + 1 + l[i].text.length ≤ 9223372036854775807), w64 (n := (i : Int) + 1)]
      rw [ih (acc ++ (sty x).opn :: (l[i].text ++ [(sty x).cls])) _ (by simp; omega) (by simp [s165_0])]
      simp
theorem toksV_shut (l : List Tok) : shut 0 0 (toksV l) = some (toksV l) := by
  have hs := shutL_flat (n := 0) (t := 0) (f := Tok.cs) (fun t => t.shut) l
  unfold toksV
  split <;> simp [hs]
theorem join_eq (H : Has 165 E) (x : Int) (l : List Tok) (hl : l.length < 1000000) (ht : ∀ t ∈ l, t.text.length < 1000000) : EvClosed E (.fn (.func 165) [] []) [.int .i64 x, toksV l] = some (.str (joinS x l)) := by
  rw [EvClosed_eq H.c165 rfl (vs := [.int .i64 x, toksV l]) (by simp [toksV_shut]), EvFn_eq]
  have ho := refOf_eq (H.to 19) x
  have hlp := fun h hb => join_loop (E := E) x l hl ht (h := h) hb l.length 0 (by omega) []
  simp only [Sty.cs] at ho
  have hjk : toksV l ≠ .junk := by unfold toksV; split <;> simp
  obtain ⟨tv, htv⟩ : ∃ tv, toksV l = tv := ⟨_, rfl⟩
  simp only [htv] at hlp ⊢
  simp [f165, start, EvCall_closed H.c19 rfl, ho]
  rw [hlp _ (by simp [Sty.cs]) _ (by simp) (by simp [s165_0])]
  simp [x165_0]
end Go.Pv
/- What Go's ParseUint comes to on digits. Conditions: the functions' codes; theorems. -/
namespace Go.Pv
variable {E : Env}
def big2 : Nat := 18446744073709551616
theorem big2_eq : big2 = 18446744073709551616 := rfl
attribute [irreducible] big2
theorem wu64 {n : Int} (h1 : 0 ≤ n := by omega) (h2 : n < 18446744073709551616 := by omega) : IntKind.u64.wrap n = n := by
  simp [IntKind.wrap, IntKind.signed, IntKind.bits]
  omega
set_option maxRecDepth 10000 in
set_option maxHeartbeats 1000000 in
theorem uint_loop {h : AHeap} {s0 : AV} {b : Nat} : ∀ (rest pre : List UInt8) (n : Nat), h.bl b = some (.cells ((pre ++ rest).map b8)) → digits rest → n < big2 → pre.length + rest.length < 1000000 → ∀ F,
    mask k88_0 F = s88_0 (.int .i64 10) (.bool false) s0 (.int .u64 1844674407370955162) (.int .u64 18446744073709551615) (.bool false) (.int .u64 n) (.rs b 0 (pre ++ rest).length) (.int .i64 (pre ++ rest).length) (.int .i64 pre.length) →
    EvCode E (.loop k88_0 l88_0) F h = some (if dvalF n rest < big2 then (.exit 3, x88_3 s0 (.bool false) (.int .u64 (dvalF n rest)), h) else (.ret, r88 (.int .u64 18446744073709551615) (.iface 1 (.int .i64 1)), h))
  | [], pre, n, hb, hd, hn, hlen, F, hF => by
    have h0 : dvalF n [] = n := rfl
    rw [EvCode_loop, hF, h0, if_pos hn]
    simp [l88_0, s88_0, x88_3]
  | c :: rest, pre, n, hb, hd, hn, hlen, F, hF => by
    have hdr : digits rest := fun x hx => hd x (List.mem_cons_of_mem _ hx)
    obtain ⟨d1, d2, d3⟩ := dig_lt (hd c List.mem_cons_self)
    have ih := fun hh => uint_loop (h := h) (s0 := s0) (b := b) rest (pre ++ [c]) (n * 10 + dig c) (by simpa using hb) hdr hh (by simp at hlen ⊢; omega)
    rw [EvCode_loop, hF, show dvalF n (c :: rest) = dvalF (n * 10 + dig c) rest from rfl]
    generalize EvCode E (.loop k88_0 l88_0) = lp at ih ⊢
    simp only [List.length_cons] at hlen
    have hge := dvalF_ge rest (n * 10 + dig c)
    rw [big2_eq] at hn
    have hlt : (pre.length : Int) < (pre.length : Int) + ((rest.length : Int) + 1) := by omega
    have w1 : IntKind.u8.wrap ((c.toNat : Int) - 48) = dig c := by rw [IntKind.wrap_u8]; unfold dig; omega
    have w2 : IntKind.u8.wrap 10 = 10 := by rw [IntKind.wrap_u8]; rfl
    have w3 : IntKind.u64.wrap 10 = 10 := wu64
    have w4 : IntKind.u64.wrap (dig c : Int) = dig c := wu64
    have c1 : ((c.toNat : Int) == 95) = false := by simp; omega
    have c2 : decide ((48 : Int) ≤ c.toNat) = true := decide_eq_true (by omega)
    have c3 : decide ((c.toNat : Int) ≤ 57) = true := decide_eq_true (by omega)
    have c4 : decide ((10 : Int) ≤ dig c) = false := decide_eq_false (by omega)
    have hpa := pre_at pre c rest
    simp only [List.map_append, List.map_cons, b8] at hb hpa
    have hp1 : pre.length < pre.length + (rest.length + 1) := by omega
    by_cases hcut : 1844674407370955162 ≤ n
    · have c5 : decide ((1844674407370955162 : Int) ≤ n) = true := decide_eq_true (by omega)
      rw [if_neg (by rw [big2_eq]; omega)]
      simp [l88_0, s88_0, hlt, hb, w1, w2, c1, c2, c3, c4, c5, r88]
    · have c5 : decide ((1844674407370955162 : Int) ≤ n) = false := decide_eq_false (by omega)
      have w5 : IntKind.u64.wrap ((n : Int) * 10) = (n : Int) * 10 := wu64
      by_cases hov : n * 10 + dig c < 18446744073709551616
      · have w6 : IntKind.u64.wrap ((n : Int) * 10 + dig c) = (n : Int) * 10 + dig c := wu64
        have c6 : decide ((n : Int) * 10 + dig c < (n : Int) * 10) = false := decide_eq_false (by omega)
        have c7 : decide ((18446744073709551615 : Int) < (n : Int) * 10 + dig c) = false := decide_eq_false (by omega)
        simp [l88_0, s88_0, hlt, hb, w1, w2, w3, w4, w5, w6, c1, c2, c3, c4, c5, c6, c7, w64 (n := (pre.length : Int) + 1)]
        rw [ih (by rw [big2_eq]; exact hov) _ (by simp [s88_0])]
      · obtain ⟨z, hz⟩ : ∃ z, IntKind.u64.wrap ((n : Int) * 10 + dig c) = z := ⟨_, rfl⟩
        have hz2 : z = (n : Int) * 10 + dig c - 18446744073709551616 := by
          rw [← hz]
          simp [IntKind.wrap, IntKind.signed, IntKind.bits]
          omega
        have c6 : decide (z < (n : Int) * 10) = true := decide_eq_true (by omega)
        rw [if_neg (by rw [big2_eq]; omega)]
        simp [l88_0, s88_0, hlt, hb, w1, w2, w3, w4, w5, hz, c1, c2, c3, c4, c5, c6, r88]
end Go.Pv
/- What Go's ParseUint, ParseInt come to on digits. Conditions: the functions' codes; theorems. -/
namespace Go.Pv
variable {E : Env}
def uintV (s : List UInt8) : AV := if dvalF 0 s < big2 then .tuple [.int .u64 (dvalF 0 s), .niliface] else .tuple [.int .u64 18446744073709551615, .iface 1 (.int .i64 1)]
set_option maxRecDepth 10000 in
set_option maxHeartbeats 1000000 in
theorem parseUint_eq (H : Has 88 E) (s : List UInt8) (hd : digits s) (hne : s.isEmpty = false) (hs : s.length < 1000000) : EvClosed E (.fn (.func 88) [] []) [.str s, .int .i64 10, .int .i64 64] = some (uintV s) := by
  rw [EvClosed_eq H.c88 rfl (vs := [.str s, .int .i64 10, .int .i64 64]) (by simp), EvFn_eq]
  have hl := fun h hb => uint_loop (E := E) (h := h) (s0 := .str s) (b := 0) s [] 0 hb hd (by rw [big2_eq]; omega) (by simp; omega)
  simp only [List.nil_append, List.length_nil] at hl
  have w1 : IntKind.u64.wrap 64 = 64 := wu64
  have b1 : IntKind.u64.bits = 64 := rfl
  have w2 : IntKind.u64.wrap 18446744073709551616 = 0 := by decide +kernel
  have w3 : IntKind.u64.wrap (-1) = 18446744073709551615 := by decide +kernel
  simp [f88, start, hne, w1, w2, w3, b1, (by omega : s.length ≤ 140737488355328)]
  rw [hl _ (by simp) _ (by simp [s88_0])]
  unfold uintV
  by_cases hv : dvalF 0 s < big2
  · simp [hv, x88_3]
  · simp [hv, r88]
end Go.Pv
