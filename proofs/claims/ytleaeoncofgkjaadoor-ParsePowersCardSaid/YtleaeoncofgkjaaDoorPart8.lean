/- Part 8 of the proof: what functions of the program come to. Conditions: none; definitions and theorems that the statement's proof uses. -/
import Derived.Test.YtleaeoncofgkjaaDoorPart7
import Derived.Test.YtleaeoncofgkjaaDoorPart5
/- Tokens: what the reference's functions of chapter 8 come to. Conditions: the functions' codes; theorems. -/
namespace Go.Pv
variable {E : Env}

structure Tok where
  kind : Int
  pos : Int
  text : List UInt8
  n : Int
  deriving DecidableEq
def Tok.cs (t : Tok) : List AV := [.int .i64 t.kind, .int .i64 t.pos, .str t.text, .int .i64 t.n]
theorem Tok.len (t : Tok) : t.cs.length = 4 := by simp [Tok.cs]
theorem Tok.take (t : Tok) : t.cs.take 4 = t.cs := by simp [Tok.cs]
theorem Tok.all (t : Tok) : t.cs.all AV.isCell = true := by simp [Tok.cs]
theorem Tok.shut {n k : Nat} (t : Tok) : shutL n k t.cs = some t.cs := by simp [Tok.cs]
/-- A note's text, behind the byte that opens it. -/
def noteS (x : Int) (r : List UInt8) : Option (List UInt8) :=
  let e := r.findIdx (· == (sty x).cls)
  if e < r.length && plain x (r.take e) then some (r.take e) else none
/-- The token that a text begins with: its kind, text, number, length. -/
def nextS (x : Int) : List UInt8 → Option (Int × List UInt8 × Int × Nat)
  | [] => none
  | c :: r =>
    if kind x c == 0 || kind x c == 10 then none
    else if kind x c == 1 then some (1, raise x ((c :: r).take (runL x 1 (c :: r))), 0, runL x 1 (c :: r))
    else if kind x c == 2 then (numOf ((c :: r).take (runL x 2 (c :: r)))).map fun (v : Nat) => (2, (c :: r).take (runL x 2 (c :: r)), (v : Int), runL x 2 (c :: r))
    else if kind x c == 9 then (noteS x r).map fun t => (9, t, 0, t.length + 2)
    else some (kind x c, [c], 0, 1)
def gotCs (at_ : Int) : Option (Int × List UInt8 × Int × Nat) → List AV
  | none => [.int .i64 0, .int .i64 0, .str [], .int .i64 0, .int .i64 0]
  | some (k, t, n, l) => [.int .i64 k, .int .i64 at_, .str t, .int .i64 n, .int .i64 l]

theorem note_loop (H : Has 197 E) {x : Int} {h : AHeap} {v : AV} (ahead : List UInt8) (c : UInt8) : ∀ (rest pre : List UInt8), ahead.length + 1 + pre.length + rest.length < 1000000 → ∀ F, mask k197_0 F = s197_0 (.int .i64 x) (.str (ahead ++ c :: (pre ++ rest))) (.int .i64 ahead.length) v (.int .i64 (ahead.length + 1 + pre.length : Nat)) →
    EvCode E (.loop k197_0 l197_0) F h = some (.exit 0, x197_0 (.int .i64 x) (.str (ahead ++ c :: (pre ++ rest))) (.int .i64 ahead.length) v (.int .i64 (ahead.length + 1 + pre.length + rest.findIdx (· == (sty x).cls) : Nat)), h)
  | [], pre, hlen, F, hF => by
    rw [EvCode_loop, hF]
    have hlt : ¬ ((ahead.length : Int) + 1 + pre.length < (ahead.length : Int) + ((pre.length : Int) + 1)) := by omega
    simp [l197_0, s197_0, x197_0, hlt]
  | d :: rest, pre, hlen, F, hF => by
    have ih := note_loop H (x := x) (h := h) (v := v) ahead c rest (pre ++ [d]) (by simp at hlen ⊢; omega)
    have ho := refOf_eq (H.to 19) x
    simp only [Sty.cs] at ho
    rw [EvCode_loop, hF]
    generalize EvCode E (.loop k197_0 l197_0) = lp at ih ⊢
    simp only [List.length_cons] at hlen
    have hlt : (ahead.length : Int) + 1 + pre.length < (ahead.length : Int) + ((pre.length : Int) + ((rest.length : Int) + 1) + 1) := by omega
    have hnn : (0 : Int) ≤ (ahead.length : Int) + 1 + (pre.length : Int) := by omega
    have hn : ((ahead.length : Int) + 1 + (pre.length : Int)).toNat = ahead.length + 1 + pre.length := by omega
    have hget : (ahead ++ c :: (pre ++ d :: rest))[ahead.length + 1 + pre.length]? = some d := by
      rw [show ahead ++ c :: (pre ++ d :: rest) = (ahead ++ [c] ++ pre) ++ d :: rest by simp, List.getElem?_append_right (by simp; omega)]
      have hz : ahead.length + 1 + pre.length - (ahead ++ [c] ++ pre).length = 0 := by simp; omega
      rw [hz]
      rfl
    have hu : ((d.toNat : Int) != ((sty x).cls.toNat : Int)) = !(d == (sty x).cls) := by
      rw [← u8i]
      rfl
    cases hk : (d == (sty x).cls)
    · rw [hk] at hu
      simp [l197_0, s197_0, hlt, hnn, hn, hget, EvClosed_eq, ho, hu, whole, w64 (n := (ahead.length : Int) + 1 + pre.length + 1)]
      have := ih
      simp only [List.append_assoc, List.cons_append, List.nil_append] at this
      rw [this _ (by simp [s197_0]; omega)]
      simp [x197_0, List.findIdx_cons, hk]
      omega
    · rw [hk] at hu
      simp [l197_0, s197_0, hlt, hnn, hn, hget, ho, hu, whole, x197_0, List.findIdx_cons, hk]
theorem note_eq (H : Has 197 E) (x : Int) (ahead : List UInt8) (c : UInt8) (r : List UInt8) (hs : ahead.length + r.length < 900000) : EvClosed E (.fn (.func 197) [] []) [.int .i64 x, .str (ahead ++ c :: r), .int .i64 ahead.length] =
    some (.agg (gotCs ahead.length ((noteS x r).map fun t => (9, t, 0, t.length + 2)))) := by
  rw [EvClosed_eq H.c197 rfl (vs := [.int .i64 x, .str (ahead ++ c :: r), .int .i64 ahead.length]) (by simp), EvFn_eq]
  have hl := fun h v => note_loop (E := E) H (x := x) (h := h) (v := v) ahead c r [] (by simp; omega)
  simp only [List.nil_append, List.length_nil, Nat.add_zero] at hl
  have hle : r.findIdx (· == (sty x).cls) ≤ r.length := List.findIdx_le_length
  obtain ⟨e, he⟩ : ∃ e, r.findIdx (· == (sty x).cls) = e := ⟨_, rfl⟩
  rw [he] at hl hle
  have hp := refPlain_eq (H.to 172) x (r.take e) (by simp; omega)
  simp [f197, start, w64 (n := (ahead.length : Int) + 1)]
  rw [hl _ (.ref 0 0) _ (by simp [s197_0])]
  simp only [noteS, he]
  by_cases hlt : e < r.length
  · have h1 : ¬ ((ahead.length : Int) + ((r.length : Int) + 1) ≤ (ahead.length : Int) + 1 + e) := by omega
    have hsl : ((ahead ++ c :: r).take (ahead.length + 1 + e)).drop (ahead.length + 1) = r.take e := by
      rw [show ahead ++ c :: r = (ahead ++ [c]) ++ r by simp, show ahead.length + 1 + e = (ahead ++ [c]).length + e by simp, List.take_length_add_append, show ahead.length + 1 = (ahead ++ [c]).length by simp, List.drop_left]
    have h2 : (0 : Int) ≤ (ahead.length : Int) + 1 + e ∧ (ahead.length : Int) + 1 + e ≤ (ahead.length : Int) + ((r.length : Int) + 1) := by omega
    have h3 : (0 : Int) ≤ (ahead.length : Int) + 1 := by omega
    have h4 : ((ahead.length : Int) + 1 + e).toNat = ahead.length + 1 + e := by omega
    have h5 : ((ahead.length : Int) + 1).toNat = ahead.length + 1 := by omega
    have h6 : (ahead.length : Int) + 1 ≤ (ahead.length : Int) + 1 + (e : Int) := by omega
    have w1 : IntKind.i64.wrap ((ahead.length : Int) + 1 + e + 1) = (ahead.length : Int) + 1 + e + 1 := w64
    have w2 : IntKind.i64.wrap ((ahead.length : Int) + 1 + e + 1 - ahead.length) = (e : Int) + 2 := by rw [w64]; omega
    cases hpl : plain x (r.take e)
    · rw [hpl] at hp
      simp [x197_0, h1, h2, h3, h4, h5, h6, hsl, w64 (n := (ahead.length : Int) + 1), EvCall_closed H.c172 rfl, hp, hlt, gotCs]
    · rw [hpl] at hp
      simp [x197_0, h1, h2, h3, h4, h5, h6, hsl, w64 (n := (ahead.length : Int) + 1), EvCall_closed H.c172 rfl, hp, hlt, gotCs, w1, w2]
      omega
  · have h1 : (ahead.length : Int) + ((r.length : Int) + 1) ≤ (ahead.length : Int) + 1 + e := by omega
    simp [x197_0, h1, hlt, gotCs]
end Go.Pv
/- Tokens: what the reference's Next comes to. Conditions: the functions' codes; theorems. -/
namespace Go.Pv
variable {E : Env}

theorem kind_dig {x : Int} {c : UInt8} (h : (kind x c == 2) = true) : isDig c.toNat = true := by
  unfold kind kindS at h
  cases hd : isDig c.toNat
  · exfalso
    rw [hd] at h
    simp only [Bool.false_eq_true, if_false] at h
    have h := eq_of_beq h
    revert h
    (repeat' split) <;> (intro h; omega)
  · rfl
theorem run_digits (x : Int) : ∀ (s : List UInt8), digits (s.take (runL x 2 s))
  | [] => fun c hc => by simp at hc
  | c :: s => by
    simp only [runL]
    split
    · rename_i h
      intro d hd
      rw [List.take_succ_cons, List.mem_cons] at hd
      rcases hd with rfl | hd
      · exact kind_dig h
      · exact run_digits x s d hd
    · intro d hd
      simp at hd
theorem cut_at (ahead s : List UInt8) (k : Nat) : ((ahead ++ s).take (ahead.length + k)).drop ahead.length = s.take k := by
  rw [List.take_length_add_append, List.drop_left]

theorem next_eq (H : Has 176 E) (x : Int) (ahead : List UInt8) (c : UInt8) (r : List UInt8) (hs : ahead.length + r.length < 900000) :
    EvClosed E (.fn (.func 176) [] []) [.int .i64 x, .str (ahead ++ c :: r), .int .i64 ahead.length] = some (.agg (gotCs ahead.length (nextS x (c :: r)))) := by
  rw [EvClosed_eq H.c176 rfl (vs := [.int .i64 x, .str (ahead ++ c :: r), .int .i64 ahead.length]) (by simp), EvFn_eq]
  have hget : (ahead ++ c :: r)[ahead.length]? = some c := by simp
  have hk : ∀ h, EvCall E (.fn (.func 193) [] []) [.int .i64 x, .int .u8 c.toNat] h = some (.ret (.int .i64 (kind x c)), h) := fun h => refKindC_eq (H.to 193) x c h
  have hkc : EvClosed E (.fn (.func 193) [] []) [.int .i64 x, .int .u8 c.toNat] = some (.int .i64 (kind x c)) := refKind_eq (H.to 193) x c
  have hle1 := runL_le x 1 (c :: r)
  have hle2 := runL_le x 2 (c :: r)
  have hg1 := goes_eq (H.to 194) x 1 ahead (c :: r) (by simp; omega)
  have hg2 := goes_eq (H.to 194) x 2 ahead (c :: r) (by simp; omega)
  have hr := refRaise_eq (H.to 195) x ((c :: r).take (runL x 1 (c :: r))) (by simp; omega)
  have hn := number_eq (H.to 196) ((c :: r).take (runL x 2 (c :: r))) (run_digits x _) (by simp; omega)
  have ho := note_eq (H.to 197) x ahead c r (by omega)
  have hc1 := cut_at ahead (c :: r) (runL x 1 (c :: r))
  have hc2 := cut_at ahead (c :: r) (runL x 2 (c :: r))
  have hc3 := cut_at ahead (c :: r) 1
  simp only [List.length_cons] at hle1 hle2
  simp only [nextS]
  generalize runL x 1 (c :: r) = k1 at hle1 hg1 hr hc1 ⊢
  generalize runL x 2 (c :: r) = k2 at hle2 hg2 hn hc2 ⊢
  have w0 : IntKind.i64.wrap ((ahead.length : Int) + 1) = (ahead.length : Int) + 1 := w64
  have w1 : IntKind.i64.wrap ((ahead.length : Int) + k1) = (ahead.length : Int) + k1 := w64
  have w2 : IntKind.i64.wrap ((ahead.length : Int) + k2) = (ahead.length : Int) + k2 := w64
  have a1 : (0 : Int) ≤ (ahead.length : Int) + k1 ∧ (ahead.length : Int) + k1 ≤ (ahead.length : Int) + ((r.length : Int) + 1) := by omega
  have a2 : (0 : Int) ≤ (ahead.length : Int) + k2 ∧ (ahead.length : Int) + k2 ≤ (ahead.length : Int) + ((r.length : Int) + 1) := by omega
  have a3 : (0 : Int) ≤ (ahead.length : Int) + 1 ∧ (ahead.length : Int) + 1 ≤ (ahead.length : Int) + ((r.length : Int) + 1) := by omega
  have t1 : ((ahead.length : Int) + k1).toNat = ahead.length + k1 := by omega
  have t2 : ((ahead.length : Int) + k2).toNat = ahead.length + k2 := by omega
  have t3 : ((ahead.length : Int) + 1).toNat = ahead.length + 1 := by omega
  have l1 : (ahead.length : Int) ≤ (ahead.length : Int) + k1 := by omega
  have l2 : (ahead.length : Int) ≤ (ahead.length : Int) + k2 := by omega
  have l3 : (ahead.length : Int) ≤ (ahead.length : Int) + 1 := by omega
  cases h0 : (kind x c == 0)
  · cases h10 : (kind x c == 10)
    · cases h1 : (kind x c == 1)
      · cases h2 : (kind x c == 2)
        · cases h9 : (kind x c == 9)
          · simp [f176, start, hget, hk, h0, h10, h1, h2, h9, hkc, w0, a3, t3, l3, hc3, gotCs]
          · simp [f176, start, hget, hk, h0, h10, h1, h2, h9, EvCall_closed H.c197 rfl, ho]
            cases (noteS x r) <;> simp [gotCs]
        · simp [f176, start, hget, hk, h0, h10, h1, h2, EvCall_closed H.c194 rfl, EvCall_closed H.c196 rfl, hg2, hn, w2, a2, t2, l2, hc2, push_set, push_setk]
          cases (numOf ((c :: r).take k2)) <;> simp [gotCs]
      · simp [f176, start, hget, hk, h0, h10, h1, EvCall_closed H.c194 rfl, EvCall_closed H.c195 rfl, hg1, hr, w1, a1, t1, l1, hc1, gotCs]
    · simp [f176, start, hget, hk, h0, h10, gotCs]
  · simp [f176, start, hget, hk, h0, gotCs]
end Go.Pv
/- A slice that is appended to. Conditions: none; lemmas. -/
namespace Go.Pv

theorem bl_mk (b : List ABlk) (ts : List Nat) (r q i : Nat) : (AHeap.mk b ts r q).bl i = b[i]? := rfl
def AHeap.toks_ (h : AHeap) (ts : List Nat) : AHeap := { h with toks := ts }
theorem toks_mk (h : AHeap) (ts : List Nat) : ({ blks := h.blks, toks := ts, ro := h.ro, rot := h.rot } : AHeap) = h.toks_ ts := rfl
theorem bl_toks (h : AHeap) (ts : List Nat) (i : Nat) : (h.toks_ ts).bl i = h.bl i := rfl
theorem blks_toks (h : AHeap) (ts : List Nat) : (h.toks_ ts).blks = h.blks := rfl
theorem len_toks (h : AHeap) (ts : List Nat) : (h.toks_ ts).blks.length = h.blks.length := rfl
theorem ro_toks (h : AHeap) (ts : List Nat) : (h.toks_ ts).ro = h.ro := rfl
theorem rot_toks (h : AHeap) (ts : List Nat) : (h.toks_ ts).rot = h.rot := rfl
theorem tk_set (h : AHeap) (b : Nat) (y : ABlk) (i : Nat) : (h.setBlk b y).tk i = h.tk i := rfl
theorem tk_toks (h : AHeap) (ts : List Nat) (i : Nat) : (h.toks_ ts).tk i = ts[i]? := rfl
theorem toks_toks (h : AHeap) (ts us : List Nat) : (h.toks_ ts).toks_ us = h.toks_ us := rfl
theorem toks_self (h : AHeap) : h.toks_ h.toks = h := rfl

/-- A slice that may be appended to. -/
def Grow (h : AHeap) (sz : Nat) (cs : List AV) (len : Nat) (v : AV) : Prop :=
  (v = .nils ∧ cs = [] ∧ len = 0) ∨ ∃ k, v = .vs (.tok k sz) len cs ∧ cs.length = len * sz ∧ h.tk k = some cs.length ∧ h.rot ≤ k ∧ 0 < len
theorem grow_nil (h : AHeap) (sz : Nat) : Grow h sz [] 0 .nils := .inl ⟨rfl, rfl, rfl⟩
theorem grow_app {h : AHeap} {sz bytes : Nat} {cs : List AV} {len m : Nat} {v : AV} {xs : List AV} (g : Grow h sz cs len v) (hr : h.rot ≤ h.toks.length) (hb : (len + m) * bytes ≤ 140737488355328) (hm : 0 < m) (hsz : 0 < sz) (hx : xs.length = m * sz) (hc : xs.all AV.isCell = true) :
    ∃ ts v', appendA sz bytes h (den v) (.vs .full m xs) = some (v', h.toks_ ts) ∧ Grow (h.toks_ ts) sz (cs ++ xs) (len + m) v' ∧ h.toks.length ≤ ts.length := by
  have hm0 : ¬ m = 0 := by omega
  rcases g with ⟨rfl, rfl, rfl⟩ | ⟨k, rfl, h1, h2, h3, h4⟩
  · simp only [Nat.zero_add] at hb
    refine ⟨h.toks ++ [0 + xs.length], .vs (.tok h.toks.length sz) (0 + m) ([] ++ xs), ?_, .inr ⟨_, rfl, ?_, ?_, ?_, by omega⟩, by simp⟩
    · simp [appendA, den, sliceCells, hx, hb, hsz, hm0, AHeap.toks_]
      exact List.all_eq_true.1 hc
    · simpa using hx
    · simp [tk_toks]
    · exact hr
  · have hkl : k < h.toks.length := (List.getElem?_eq_some_iff.1 h2).1
    have hcs : den (.vs (.tok k sz) len cs) = .vs (.tok k sz) len cs := rfl
    refine ⟨h.toks.set k (cs.length + xs.length), .vs (.tok k sz) (len + m) (cs ++ xs), ?_, .inr ⟨_, rfl, ?_, ?_, h3, by omega⟩, by simp⟩
    · rw [hcs]
      rw [h1] at h2
      simp [appendA, sliceCells, hx, hb, hsz, hm0, AHeap.toks_, h1, h2, h3]
      exact List.all_eq_true.1 hc
    · simp [h1, hx, Nat.add_mul]
    · simp [tk_toks, hkl]
theorem Grow.len {h : AHeap} {sz : Nat} {cs : List AV} {len : Nat} {v : AV} (g : Grow h sz cs len v) : cs.length = len * sz := by
  rcases g with ⟨_, rfl, rfl⟩ | ⟨k, _, h1, _⟩
  · simp
  · exact h1
theorem Grow.of_heap {h h' : AHeap} {sz : Nat} {cs : List AV} {len : Nat} {v : AV} (g : Grow h sz cs len v) (ht : h'.toks = h.toks) (hr : h'.rot = h.rot) : Grow h' sz cs len v := by
  rcases g with g | ⟨k, g1, g2, g3, g4, g5⟩
  · exact .inl g
  · exact .inr ⟨k, g1, g2, by show h'.toks[k]? = _; rw [ht]; exact g3, by rw [hr]; exact g4, g5⟩
theorem Grow.cell {h : AHeap} {sz : Nat} {cs : List AV} {len : Nat} {v : AV} (g : Grow h sz cs len v) : v.isCell = true := by
  rcases g with ⟨rfl, _⟩ | ⟨k, rfl, _⟩ <;> simp
theorem Grow.cells {h : AHeap} {sz : Nat} {cs : List AV} {len : Nat} {v : AV} (g : Grow h sz cs len v) : v.cells? = some [v] := by
  rcases g with ⟨rfl, _⟩ | ⟨k, rfl, _⟩ <;> simp
theorem set_set (h : AHeap) (b : Nat) (x y : ABlk) : (h.setBlk b x).setBlk b y = h.setBlk b y := by simp [AHeap.setBlk]
/-- What leaves a call. -/
def shutV (cs : List AV) (len : Nat) : AV := if len = 0 then .nils else .vs .shared len cs
end Go.Pv
