/- Part 9 of the proof: what functions of the program come to. Conditions: none; definitions and theorems that the statement's proof uses. -/
import Derived.Test.YtleaeoncofgkjaaDoorPart8
/- Tokens: what the reference's Each comes to. Conditions: the functions' codes; theorems. -/
namespace Go.Pv
variable {E : Env}

/-- The tokens of a text, as far as they go, and where none stands any more. -/
def lexF (x : Int) : Nat → List UInt8 → Nat → List Tok × Nat
  | 0, _, p => ([], p)
  | f + 1, s, p =>
    match nextS x s with
    | none => ([], p)
    | some (k, t, n, l) => (⟨k, p, t, n⟩ :: (lexF x f (s.drop l) (p + l)).1, (lexF x f (s.drop l) (p + l)).2)
theorem next_len {x : Int} {s : List UInt8} {k : Int} {t : List UInt8} {n : Int} {l : Nat} (h : nextS x s = some (k, t, n, l)) : 1 ≤ l ∧ l ≤ s.length := by
  cases s with
  | nil => cases h
  | cons c r =>
    simp only [nextS] at h
    have r1 := runL_le x 1 (c :: r)
    have r2 := runL_le x 2 (c :: r)
    split at h
    · cases h
    · split at h
      · rename_i hk
        cases h
        refine ⟨?_, r1⟩
        simp only [runL, hk, if_true]
        omega
      · split at h
        · rename_i hk
          cases hn : numOf ((c :: r).take (runL x 2 (c :: r))) with
          | none => rw [hn] at h; cases h
          | some v =>
            rw [hn] at h
            cases h
            refine ⟨?_, r2⟩
            simp only [runL, hk, if_true]
            omega
        · split at h
          · cases hn : noteS x r with
            | none => rw [hn] at h; cases h
            | some v =>
              rw [hn] at h
              cases h
              unfold noteS at hn
              simp only at hn
              split at hn
              · rename_i hq
                simp only [Bool.and_eq_true, decide_eq_true_eq] at hq
                cases hn
                simp
                omega
              · cases hn
          · cases h
            simp
theorem each164_loop (H : Has 164 E) (x : Int) {b0 b1 : Nat} (hbb : ¬ b0 = b1) : ∀ (f : Nat) (s ahead : List UInt8), s.length ≤ f → ahead.length + s.length < 900000 → ∀ (h : AHeap) (done : List Tok) (v y z : AV),
    h.bl b1 = some (.cells [v, .int .i64 ahead.length]) → h.bl b0 = some (.cells [y, z]) → Grow h 4 (done.flatMap Tok.cs) done.length v → h.rot ≤ h.toks.length → h.ro = 0 → done.length ≤ ahead.length →
    ∃ h' v', Grow h' 4 ((done ++ (lexF x f s ahead.length).1).flatMap Tok.cs) (done ++ (lexF x f s ahead.length).1).length v' ∧ (h'.ro = 0 ∧ h'.rot ≤ h'.toks.length ∧ ∀ b, b ≠ b0 → b ≠ b1 → b < h.blks.length → h'.bl b = h.bl b) ∧
      (((∀ F, mask k164_0 F = s164_0 (.int .i64 x) (.str (ahead ++ s)) (.ref b0 0) (.ref b1 0) → EvCode E (.loop k164_0 l164_0) F h = some (.exit 0, x164_0 (.ref b0 0) (.ref b1 0), h')) ∧ h'.bl b1 = some (.cells [v', .int .i64 (lexF x f s ahead.length).2]) ∧ ∃ y' z', h'.bl b0 = some (.cells [y', z'])) ∨
       ((∀ F, mask k164_0 F = s164_0 (.int .i64 x) (.str (ahead ++ s)) (.ref b0 0) (.ref b1 0) → EvCode E (.loop k164_0 l164_0) F h = some (.ret, r164 (.ref b0 0), h')) ∧ h'.bl b0 = some (.cells [v', .int .i64 (lexF x f s ahead.length).2])))
  | f, [], ahead, hf, hs, h, done, v, y, z, h1, h0, hg, hr, hro, hd => by
    have e : lexF x f [] ahead.length = ([], ahead.length) := by cases f <;> rfl
    rw [e]
    refine ⟨h, v, by simpa using hg, ⟨hro, hr, fun _ _ _ _ => rfl⟩, .inl ⟨fun F hF => ?_, h1, y, z, h0⟩⟩
    rw [EvCode_loop, hF]
    simp [l164_0, s164_0, x164_0, h1]
  | 0, c :: r, ahead, hf, hs, h, done, v, y, z, h1, h0, hg, hr, hro, hd => by simp at hf
  | f + 1, c :: r, ahead, hf, hs, h, done, v, y, z, h1, h0, hg, hr, hro, hd => by
    simp only [List.length_cons] at hf hs
    have hnx := next_eq (H.to 176) x ahead c r (by omega)
    have hlt : (ahead.length : Int) < (ahead.length : Int) + ((r.length : Int) + 1) := by omega
    have n1 := blk_ne h1
    have n0 := blk_ne h0
    have hbb' : ¬ b1 = b0 := fun q => hbb q.symm
    cases hn : nextS x (c :: r) with
    | none =>
      rw [hn] at hnx
      simp only [lexF, hn]
      simp only [gotCs] at hnx
      refine ⟨(h.push (.cells [.int .i64 0, .int .i64 0, .str [], .int .i64 0, .int .i64 0])).setBlk b0 (.cells [v, .int .i64 ahead.length]), v, ?_, ⟨by simpa using hro, by simpa using hr, fun b q0 _ q2 => (by have hq : ¬ b = h.blks.length := by { omega }; simp [Ne.symm q0, hq])⟩, .inr ⟨fun F hF => ?_, by simp [n0, h0]⟩⟩
      · rw [List.append_nil]
        exact Grow.of_heap hg rfl rfl
      · rw [EvCode_loop, hF]
        simp [l164_0, s164_0, h1, h0, n1, n0, hlt, EvCall_closed H.c176 rfl, hnx, push_set, hro, hg.cell, r164]
    | some g =>
      obtain ⟨k, t, n, l⟩ := g
      obtain ⟨l1, l2⟩ := next_len hn
      rw [hn] at hnx
      simp only [lexF, hn]
      simp only [gotCs] at hnx
      simp only [List.length_cons] at l2
      have hap : ahead ++ c :: r = (ahead ++ (c :: r).take l) ++ (c :: r).drop l := by rw [List.append_assoc, List.take_append_drop]
      have hal : (ahead ++ (c :: r).take l).length = ahead.length + l := by simp; omega
      obtain ⟨ts, v1, e1, g1, r1⟩ := grow_app (h := h.push (.cells [.int .i64 k, .int .i64 ahead.length, .str t, .int .i64 n, .int .i64 l])) (bytes := 40) (m := 1) (xs := Tok.cs ⟨k, ahead.length, t, n⟩) hg hr (by omega) (by omega) (by omega) rfl (Tok.all _)
      obtain ⟨hA, hAe⟩ : ∃ hA, (((h.push (.cells [.int .i64 k, .int .i64 ahead.length, .str t, .int .i64 n, .int .i64 l])).toks_ ts).setBlk b1 (.cells [v1, .int .i64 ((ahead.length : Int) + l)])) = hA := ⟨_, rfl⟩
      obtain ⟨h', v', q1, q2, q3⟩ := each164_loop H x hbb f ((c :: r).drop l) (ahead ++ (c :: r).take l) (by simp; omega) (by rw [hal]; simp; omega) hA (done ++ [⟨k, ahead.length, t, n⟩]) v1 y z
        (by rw [← hAe, hal]; simp [bl_toks, n1, h1]) (by rw [← hAe]; simp [bl_toks, n0, h0, hbb']) (by rw [← hAe]; exact Grow.of_heap (by simpa using g1) (by rfl) (by rfl)) (by rw [← hAe]; exact Nat.le_trans hr r1) (by rw [← hAe]; exact hro) (by rw [hal]; simp; omega)
      rw [← hap, hal] at q3
      rw [hal] at q1
      have hold : ∀ b, b ≠ b0 → b ≠ b1 → b < h.blks.length → h'.bl b = h.bl b := by
        intro b q0 q1' q2'
        rw [q2.2.2 b q0 q1' (by rw [← hAe]; simp [len_toks]; omega), ← hAe]
        have hq : ¬ b = h.blks.length := by omega
        simp [bl_toks, Ne.symm q1', hq]
      refine ⟨h', v', by simpa using q1, ⟨q2.1, q2.2.1, hold⟩, ?_⟩
      have hl0 : ((l : Int) == 0) = false := by simp; omega
      have w1 : IntKind.i64.wrap ((ahead.length : Int) + l) = (ahead.length : Int) + l := w64
      simp only [Tok.cs] at e1
      have hm1 := g1.cells
      unfold AV.cells? at hm1
      rcases q3 with ⟨q3, q4, q5⟩ | ⟨q3, q4⟩
      · refine .inl ⟨fun F hF => ?_, q4, q5⟩
        rw [EvCode_loop, hF]
        generalize EvCode E (.loop k164_0 l164_0) = lp at q3 ⊢
        simp [-den, l164_0, s164_0, h1, h0, n1, n0, hlt, EvCall_closed H.c176 rfl, hnx, push_set, hro, hl0, e1, hm1, g1.cell, hg.cell, w1, bl_toks, ro_toks, len_toks, set_set]
        rw [hAe]
        exact q3 _ (by simp [s164_0])
      · refine .inr ⟨fun F hF => ?_, q4⟩
        rw [EvCode_loop, hF]
        generalize EvCode E (.loop k164_0 l164_0) = lp at q3 ⊢
        simp [-den, l164_0, s164_0, h1, h0, n1, n0, hlt, EvCall_closed H.c176 rfl, hnx, push_set, hro, hl0, e1, hm1, g1.cell, hg.cell, w1, bl_toks, ro_toks, len_toks, set_set]
        rw [hAe]
        exact q3 _ (by simp [s164_0])
/-- A row of tokens. -/
def toksV (l : List Tok) : AV := if l.isEmpty then .nils else .vs .shared l.length (l.flatMap Tok.cs)
theorem grow_shut {h : AHeap} {l : List Tok} {v : AV} (g : Grow h 4 (l.flatMap Tok.cs) l.length v) : shut 0 0 v = some (toksV l) := by
  have hs := shutL_flat (n := 0) (t := 0) (f := Tok.cs) (fun t => t.shut) l
  rcases g with ⟨rfl, _, h2⟩ | ⟨k, rfl, _, _, _, h5⟩
  · have : l = [] := List.length_eq_zero_iff.1 h2
    subst this
    simp [toksV]
  · have he : l.isEmpty = false := by
      cases l with
      | nil => simp at h5
      | cons a l => rfl
    simp [toksV, he, hs]
def lexS (x : Int) (s : List UInt8) : List Tok × Nat := lexF x s.length s 0
theorem each164_open (H : Has 164 E) (x : Int) (s : List UInt8) (hs : s.length < 900000) (h : AHeap) (hro : h.ro = 0) (hr : h.rot ≤ h.toks.length) :
    ∃ h' v', EvCall E (.fn (.func 164) [] []) [.int .i64 x, .str s] h = some (.ret (.agg [v', .int .i64 (lexS x s).2]), h') ∧ Grow h' 4 ((lexS x s).1.flatMap Tok.cs) (lexS x s).1.length v' ∧ h'.ro = 0 ∧ h'.rot ≤ h'.toks.length ∧ ∀ b, b < h.blks.length → h'.bl b = h.bl b := by
  rw [EvCall_open H.c164 rfl, EvFn_eq]
  have n0 : ¬ h.blks.length = h.blks.length + 1 := by omega
  obtain ⟨h', v', q1, ⟨q2, q6, q7⟩, q3⟩ := each164_loop H x n0 s.length s [] (Nat.le_refl _) (by simpa using hs) ((h.push (.cells [.nils, .int .i64 0])).push (.cells [.nils, .int .i64 0])) [] .nils .nils (.int .i64 0) (by simp) (by simp) (grow_nil _ _) hr hro (Nat.le_refl _)
  have e : lexF x s.length s ([] : List UInt8).length = lexS x s := rfl
  rw [e] at q1 q3
  simp only [List.nil_append] at q1 q3
  have hv := q1.cell
  have hcs := q1.cells
  unfold AV.cells? at hcs
  have hold : ∀ b, b < h.blks.length → h'.bl b = h.bl b := by
    intro b hb
    rw [q7 b (by omega) (by omega) (by simp; omega)]
    have q1 : ¬ b = h.blks.length := by omega
    have q2 : ¬ b = h.blks.length + 1 := by omega
    simp [q1, q2]
  rcases q3 with ⟨q3, q4, y, z, q5⟩ | ⟨q3, q4⟩
  · refine ⟨h'.setBlk h.blks.length (.cells [v', .int .i64 (lexS x s).2]), v', ?_, Grow.of_heap q1 rfl rfl, q2, q6, fun b hb => by rw [bl_set, if_neg (by omega)]; exact hold b hb⟩
    simp [f164, start, push_setk, hro]
    rw [q3 _ (by simp [s164_0])]
    simp [x164_0, q4, q5, q2, hv]
  · refine ⟨h', v', ?_, q1, q2, q6, hold⟩
    simp [f164, start, push_setk, hro]
    rw [q3 _ (by simp [s164_0])]
    simp [r164, q4]
end Go.Pv
/- Tokens: what the reference's Join comes to. Conditions: the functions' codes; theorems. -/
namespace Go.Pv
variable {E : Env}

/-- A token's text, as it stands in a text. -/
def tokT (x : Int) (t : Tok) : List UInt8 := if t.kind == 9 then (sty x).opn :: (t.text ++ [(sty x).cls]) else t.text
def joinS (x : Int) (l : List Tok) : List UInt8 := l.flatMap (tokT x)
theorem tok_at {l : List Tok} {i : Nat} (hi : i < l.length) : ((l.flatMap Tok.cs).drop (i * 4)).take 1 = [.int .i64 l[i].kind] := by
  rw [fm_at0 Tok.len hi (by omega)]
  rfl
theorem tok_text {l : List Tok} {i : Nat} (hi : i < l.length) : ((l.flatMap Tok.cs).drop (i * 4 + 2)).take 1 = [.str l[i].text] := by
  rw [fm_at Tok.len hi (by omega)]
  rfl
theorem one_byte (c : UInt8) : bytesOf [.int .u8 (c.toNat : Int)] = some [c] := bytesOf_b8 [c]
theorem join_loop (x : Int) (l : List Tok) (hl : l.length < 1000000) (ht : ∀ t ∈ l, t.text.length < 1000000) {h : AHeap} (hb : h.bl 0 = some (.cells (sty x).cs)) : ∀ (m i : Nat), i + m = l.length → ∀ (acc : List UInt8) F, acc.length ≤ i * 1000010 →
    mask k165_0 F = s165_0 (toksV l) (.ref 0 0) (.str acc) (.int .i64 i) → EvCode E (.loop k165_0 l165_0) F h = some (.exit 0, x165_0 (.str (acc ++ joinS x (l.drop i))), h)
  | 0, i, hi, acc, F, ha, hF => by
    have hi' : i = l.length := by omega
    subst hi'
    rw [EvCode_loop, hF]
    unfold toksV
    split
    · rename_i he
      have : l = [] := by simpa using he
      subst this
      simp [l165_0, s165_0, x165_0, joinS]
    · simp [l165_0, s165_0, x165_0, joinS]
  | m + 1, i, hi, acc, F, ha, hF => by
    have hlt : i < l.length := by omega
    have he : l.isEmpty = false := by
      cases l with
      | nil => simp at hlt
      | cons a l => rfl
    have htx := ht l[i] (List.getElem_mem hlt)
    have ih := join_loop x l hl ht hb m (i + 1) (by omega)
    rw [EvCode_loop, hF, List.drop_eq_getElem_cons hlt]
    simp only [toksV, he, Bool.false_eq_true, if_false] at ih ⊢
    simp only [Sty.cs] at hb
    generalize EvCode E (.loop k165_0 l165_0) = lp at ih ⊢
    have a1 : (i + 1) * 1000010 = i * 1000010 + 1000010 := by rw [Nat.add_mul]
    have a2 : i * 1000010 ≤ 1000000 * 1000010 := Nat.mul_le_mul_right _ (by omega)
    cases hk : (l[i].kind == 9)
    · have hj : joinS x (l[i] :: l.drop (i + 1)) = l[i].text ++ joinS x (l.drop (i + 1)) := by
        show tokT x l[i] ++ joinS x (l.drop (i + 1)) = _
        simp [tokT, hk]
      rw [hj]
      simp [l165_0, s165_0, hlt, fm_len Tok.len, lt_at hlt, le_at hlt, lt_off hlt, le_off hlt, (by omega : 0 < l.length * 4 - i * 4), (by omega : 1 ≤ l.length * 4 - i * 4), tok_at hlt, tok_text hlt, hk, (by omega : acc.length + l[i].text.length ≤ 9223372036854775807), w64 (n := (i : Int) + 1)]
      rw [ih (acc ++ l[i].text) _ (by simp; omega) (by simp [s165_0])]
      simp
    · have hj : joinS x (l[i] :: l.drop (i + 1)) = (sty x).opn :: (l[i].text ++ ((sty x).cls :: joinS x (l.drop (i + 1)))) := by
        show tokT x l[i] ++ joinS x (l.drop (i + 1)) = _
        simp [tokT, hk]
      rw [hj]
      simp [l165_0, s165_0, hlt, hb, one_byte, fm_len Tok.len, lt_at hlt, le_at hlt, lt_off hlt, le_off hlt, (by omega : 0 < l.length * 4 - i * 4), (by omega : 1 ≤ l.length * 4 - i * 4), tok_at hlt, tok_text hlt, hk, (by omega : acc.length + 1 ≤ 9223372036854775807), (by omega : acc.length + (l[i].text.length + 1) ≤ 9223372036854775807), (by omega : acc.length + (l[i].text.length + 1) + 1 ≤ 9223372036854775807), (by omega : acc.length + 1 + l[i].text.length ≤ 9223372036854775807), (by omega : acc.length + 1 + l[i].text.length + 1 ≤ 9223372036854775807), (by omega : acc.length + (l[i].text.length + 1 + 1) ≤ 9223372036854775807), w64 (n := (i : Int) + 1)]
      rw [ih (acc ++ (sty x).opn :: (l[i].text ++ [(sty x).cls])) _ (by simp; omega) (by simp [s165_0])]
      simp
theorem toksV_shut (l : List Tok) : shut 0 0 (toksV l) = some (toksV l) := by
  have hs := shutL_flat (n := 0) (t := 0) (f := Tok.cs) (fun t => t.shut) l
  unfold toksV
  split <;> simp [hs]
theorem join_eq (H : Has 165 E) (x : Int) (l : List Tok) (hl : l.length < 1000000) (ht : ∀ t ∈ l, t.text.length < 1000000) : EvClosed E (.fn (.func 165) [] []) [.int .i64 x, toksV l] = some (.str (joinS x l)) := by
  rw [EvClosed_eq H.c165 rfl (vs := [.int .i64 x, toksV l]) (by simp [toksV_shut]), EvFn_eq]
  have ho := refOf_eq (H.to 19) x
  have hlp := fun h hb => join_loop (E := E) x l hl ht (h := h) hb l.length 0 (by omega) []
  simp only [Sty.cs] at ho
  have hjk : toksV l ≠ .junk := by unfold toksV; split <;> simp
  obtain ⟨tv, htv⟩ : ∃ tv, toksV l = tv := ⟨_, rfl⟩
  simp only [htv] at hlp ⊢
  simp [f165, start, EvCall_closed H.c19 rfl, ho, push_set]
  rw [hlp _ (by simp [Sty.cs]) _ (by simp) (by simp [s165_0])]
  simp [x165_0]
end Go.Pv
/- What Go's ParseUint comes to on digits. Conditions: the functions' codes; theorems. -/
namespace Go.Pv
variable {E : Env}

def big2 : Nat := 18446744073709551616
theorem big2_eq : big2 = 18446744073709551616 := rfl
attribute [irreducible] big2
theorem wu64 {n : Int} (h1 : 0 ≤ n := by omega) (h2 : n < 18446744073709551616 := by omega) : IntKind.u64.wrap n = n := by
  simp [IntKind.wrap, IntKind.signed, IntKind.bits]
  omega
set_option maxRecDepth 10000 in
set_option maxHeartbeats 1000000 in
theorem uint_loop {h : AHeap} {s0 : AV} {b : Nat} : ∀ (rest pre : List UInt8) (n : Nat), h.bl b = some (.cells ((pre ++ rest).map b8)) → digits rest → n < big2 → pre.length + rest.length < 1000000 → ∀ F,
    mask k88_0 F = s88_0 (.int .i64 10) (.bool false) s0 (.int .u64 1844674407370955162) (.int .u64 18446744073709551615) (.bool false) (.int .u64 n) (.rs b 0 (pre ++ rest).length) (.int .i64 (pre ++ rest).length) (.int .i64 pre.length) →
    EvCode E (.loop k88_0 l88_0) F h = some (if dvalF n rest < big2 then (.exit 3, x88_3 s0 (.bool false) (.int .u64 (dvalF n rest)), h) else (.ret, r88 (.int .u64 18446744073709551615) (.iface 1 (.int .i64 1)), h))
  | [], pre, n, hb, hd, hn, hlen, F, hF => by
    have h0 : dvalF n [] = n := rfl
    rw [EvCode_loop, hF, h0, if_pos hn]
    simp [l88_0, s88_0, x88_3]
  | c :: rest, pre, n, hb, hd, hn, hlen, F, hF => by
    have hdr : digits rest := fun x hx => hd x (List.mem_cons_of_mem _ hx)
    obtain ⟨d1, d2, d3⟩ := dig_lt (hd c List.mem_cons_self)
    have ih := fun hh => uint_loop (h := h) (s0 := s0) (b := b) rest (pre ++ [c]) (n * 10 + dig c) (by simpa using hb) hdr hh (by simp at hlen ⊢; omega)
    rw [EvCode_loop, hF, show dvalF n (c :: rest) = dvalF (n * 10 + dig c) rest from rfl]
    generalize EvCode E (.loop k88_0 l88_0) = lp at ih ⊢
    simp only [List.length_cons] at hlen
    have hge := dvalF_ge rest (n * 10 + dig c)
    rw [big2_eq] at hn
    have hlt : (pre.length : Int) < (pre.length : Int) + ((rest.length : Int) + 1) := by omega
    have w1 : IntKind.u8.wrap ((c.toNat : Int) - 48) = dig c := by rw [IntKind.wrap_u8]; unfold dig; omega
    have w2 : IntKind.u8.wrap 10 = 10 := by rw [IntKind.wrap_u8]; rfl
    have w3 : IntKind.u64.wrap 10 = 10 := wu64
    have w4 : IntKind.u64.wrap (dig c : Int) = dig c := wu64
    have c1 : ((c.toNat : Int) == 95) = false := by simp; omega
    have c2 : decide ((48 : Int) ≤ c.toNat) = true := decide_eq_true (by omega)
    have c3 : decide ((c.toNat : Int) ≤ 57) = true := decide_eq_true (by omega)
    have c4 : decide ((10 : Int) ≤ dig c) = false := decide_eq_false (by omega)
    have hpa := pre_at pre c rest
    simp only [List.map_append, List.map_cons, b8] at hb hpa
    have hp1 : pre.length < pre.length + (rest.length + 1) := by omega
    by_cases hcut : 1844674407370955162 ≤ n
    · have c5 : decide ((1844674407370955162 : Int) ≤ n) = true := decide_eq_true (by omega)
      rw [if_neg (by rw [big2_eq]; omega)]
      simp [l88_0, s88_0, hlt, hb, hpa, hp1, w1, w2, c1, c2, c3, c4, c5, r88, b8]
    · have c5 : decide ((1844674407370955162 : Int) ≤ n) = false := decide_eq_false (by omega)
      have w5 : IntKind.u64.wrap ((n : Int) * 10) = (n : Int) * 10 := wu64
      by_cases hov : n * 10 + dig c < 18446744073709551616
      · have w6 : IntKind.u64.wrap ((n : Int) * 10 + dig c) = (n : Int) * 10 + dig c := wu64
        have c6 : decide ((n : Int) * 10 + dig c < (n : Int) * 10) = false := decide_eq_false (by omega)
        have c7 : decide ((18446744073709551615 : Int) < (n : Int) * 10 + dig c) = false := decide_eq_false (by omega)
        simp [l88_0, s88_0, hlt, hb, hpa, hp1, w1, w2, w3, w4, w5, w6, c1, c2, c3, c4, c5, c6, c7, b8, w64 (n := (pre.length : Int) + 1)]
        rw [ih (by rw [big2_eq]; exact hov) _ (by simp [s88_0, b8])]
      · obtain ⟨z, hz⟩ : ∃ z, IntKind.u64.wrap ((n : Int) * 10 + dig c) = z := ⟨_, rfl⟩
        have hz2 : z = (n : Int) * 10 + dig c - 18446744073709551616 := by
          rw [← hz]
          simp [IntKind.wrap, IntKind.signed, IntKind.bits]
          omega
        have c6 : decide (z < (n : Int) * 10) = true := decide_eq_true (by omega)
        rw [if_neg (by rw [big2_eq]; omega)]
        simp [l88_0, s88_0, hlt, hb, hpa, hp1, w1, w2, w3, w4, w5, hz, c1, c2, c3, c4, c5, c6, r88, b8]
end Go.Pv
