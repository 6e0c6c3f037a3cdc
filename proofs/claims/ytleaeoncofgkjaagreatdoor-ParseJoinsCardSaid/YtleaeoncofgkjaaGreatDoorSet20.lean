/- A part of the proof: functions of the program in the evaluator's code, and what they come to. Conditions: none; definitions and theorems that the statement's proof uses. -/
import Derived.Test.YtleaeoncofgkjaaGreatDoorSet16
/- ParseNotes is true. Conditions: the functions' codes; theorems. -/
namespace Go.Pv
variable {E : Env} {x sz : Int}
theorem app_new {h : AHeap} {own : Own} {n : Nat} {cs : List AV} (hc : cs.length = n * 6) (hn : 0 < n) (hb : n ≤ 1000000) (hx : cs.all AV.isCell = true) : appendA 6 56 h (.vs .full 0 []) (.vs own n cs) = some (.vs (.tok h.toks.length 6) n cs, h.toks_ (h.toks ++ [cs.length])) := by
  have h1 : n * 56 ≤ 140737488355328 := by omega
  have h2 : ¬ n = 0 := by omega
  have hx' := List.all_eq_true.1 hx
  simp [appendA, sliceCells, hc, h1, h2, AHeap.toks_]
  exact hx'
theorem app_more {h : AHeap} {own : Own} {k len n : Nat} {cs xs : List AV} (hc : cs.length = len * 6) (hd : xs.length = n * 6) (hn : 0 < n) (hb : len + n ≤ 1000000) (hx : xs.all AV.isCell = true) (ht : h.tk k = some cs.length) (hr : h.rot ≤ k) :
    appendA 6 56 h (.vs (.tok k 6) len cs) (.vs own n xs) = some (.vs (.tok k 6) (len + n) (cs ++ xs), h.toks_ (h.toks.set k (cs.length + xs.length))) := by
  have h1 : (len + n) * 56 ≤ 140737488355328 := by omega
  have h2 : ¬ n = 0 := by omega
  have hx' := List.all_eq_true.1 hx
  have ht' : h.toks[k]? = some (len * 6) := by rw [← hc]; exact ht
  simp [appendA, sliceCells, hc, hd, h1, h2, AHeap.toks_, hr]
  exact ⟨hx', ht'⟩
theorem steps_cells (t : List StepA) : (t.flatMap StepA.cs).length = t.length * 6 ∧ (t.flatMap StepA.cs).all AV.isCell = true := by
  refine ⟨fm_len StepA.len t, ?_⟩
  rw [List.all_eq_true]
  intro a ha
  obtain ⟨s, _, h2⟩ := List.mem_flatMap.1 ha
  exact List.all_eq_true.1 s.all a h2
theorem stepsV_pos {t : List StepA} (h : 0 < t.length) : ∃ own, stepsV t = .vs own t.length (t.flatMap StepA.cs) := by
  cases t with
  | nil => simp at h
  | cons a t => exact ⟨_, rfl⟩
theorem brk_of {t : Tr} {ts : List Tok} (h : TokT x t ts) {a b : Tok} (ha : a.kind = 7) (hb : b.kind = 8) : Brk true (TokT x t) (a :: (ts ++ [b])) := by
  simp only [Brk, if_true]
  exact ⟨a, ts, b, rfl, ha, hb, h⟩
theorem lx_paren {t : Tr} (P : Prt x t) {q : List UInt8} (_hq : NJ x q) (p : Nat) : ∃ ts, Brk true (TokT x t) ts ∧ lexG x (40 :: (ptext x t ++ 41 :: q)) p = (ts ++ (lexG x q (p + (ptext x t).length + 2)).1, (lexG x q (p + (ptext x t).length + 2)).2) := by
  obtain ⟨_, _, k7, k8, _⟩ := kind_bytes P.n
  obtain ⟨ts, hts, e⟩ := P.lex (q := 41 :: q) (NJ.cons (by rw [k8]; decide) (by rw [k8]; decide)) (p + 1)
  refine ⟨⟨7, p, [40], 0⟩ :: (ts ++ [⟨8, ((p + 1 + (ptext x t).length : Nat) : Int), [41], 0⟩]), brk_of hts rfl rfl, ?_⟩
  rw [lx_one k7 (by decide), e, lx_one k8 (by decide)]
  rw [show p + 1 + (ptext x t).length + 1 = p + (ptext x t).length + 2 by omega]
  simp
theorem paren_base {t : Tr} (P : Prt x t) {ts rest : List Tok} {u : Option Tok} (h : Brk true (TokT x t) ts) : baseP x sz (levelP x sz 32) (ts ++ rest) u = .ok (t.steps, rest, u) := (base_brk (P.main sz) (r := 32) h).1 (by have := P.deep; omega)
def words : List (List UInt8) := [[], [97, 32, 98], [120], [40, 109]]
theorem opn3 {x : Int} (h : x = 1 ∨ x = 2 ∨ x = 3) : kind x (sty x).opn = 9 ∧ ∀ w ∈ words, plain x w = true := by
  rcases h with rfl | rfl | rfl <;> decide
theorem nj_note {x : Int} (h : x = 1 ∨ x = 2 ∨ x = 3) (w q : List UInt8) : NJ x (noteD (sty x) w ++ q) := by
  have := (opn3 h).1
  exact NJ.cons (by rw [this]; decide) (by rw [this]; decide)
theorem note_len (st : Sty) (w : List UInt8) : (noteD st w).length = w.length + 2 := by simp [noteD]
theorem notes_q {x : Int} (h : x = 1 ∨ x = 2 ∨ x = 3) {t : Tr} (P : Prt x t) {w : List UInt8} (hw : w ∈ words) (hl : (ptext x t).length + 2 + (noteD (sty x) w).length ≤ 255) :
    parseP x (40 :: (ptext x t ++ 41 :: noteD (sty x) w)) = ⟨t.steps ++ [⟨6, -1, 0, 0, 0, w⟩], 0, ((ptext x t).length + 2 + (noteD (sty x) w).length : Nat), 0⟩ := by
  obtain ⟨k9, hp⟩ := opn3 h
  have hnj := nj_note h w []
  rw [List.append_nil] at hnj
  obtain ⟨ts, hts, e⟩ := lx_paren P hnj 0
  have en := lx_note k9 (hp w hw) [] (0 + (ptext x t).length + 2)
  rw [List.append_nil, lexG_nil] at en
  rw [en] at e
  have hlen : (40 :: (ptext x t ++ 41 :: noteD (sty x) w)).length = (ptext x t).length + 2 + (noteD (sty x) w).length := by simp; omega
  rw [parse_of P.n (by omega) (by rw [e, hlen, Nat.zero_add]), hlen]
  obtain ⟨h9, h5⟩ := brk_head (_b := true) (t := t) (rest := [⟨9, ((0 + (ptext x t).length + 2 : Nat) : Int), w, 0⟩]) hts
  have hi := item_note h9 (paren_base (sz := (((ptext x t).length + 2 + (noteD (sty x) w).length : Nat) : Int)) P (u := none) hts) rfl
  have hm := main_item h5 hi
  rw [loopG_stop rfl rfl] at hm
  simp only [treeP, Nat.zero_add] at hm ⊢
  rw [hm]
theorem notes_r {x : Int} (h : x = 1 ∨ x = 2 ∨ x = 3) {t : Tr} (P : Prt x t) {w : List UInt8} (hw : w ∈ words) (hl : (ptext x t).length + 2 + (noteD (sty x) w).length + (noteD (sty x) w).length ≤ 255) :
    parseP x (40 :: (ptext x t ++ 41 :: (noteD (sty x) w ++ noteD (sty x) w))) = ⟨[], 14, ((ptext x t).length + 2 + (noteD (sty x) w).length : Nat), 0⟩ := by
  obtain ⟨k9, hp⟩ := opn3 h
  obtain ⟨ts, hts, e⟩ := lx_paren P (nj_note h w (noteD (sty x) w)) 0
  have en := lx_note k9 (hp w hw) (noteD (sty x) w) (0 + (ptext x t).length + 2)
  have en2 := lx_note k9 (hp w hw) [] (0 + (ptext x t).length + 2 + (noteD (sty x) w).length)
  rw [List.append_nil, lexG_nil] at en2
  rw [en, en2] at e
  have hlen : (40 :: (ptext x t ++ 41 :: (noteD (sty x) w ++ noteD (sty x) w))).length = (ptext x t).length + 2 + (noteD (sty x) w).length + (noteD (sty x) w).length := by simp; omega
  rw [parse_of P.n (by omega) (by rw [e, hlen, Nat.zero_add]), hlen]
  obtain ⟨h9, h5⟩ := brk_head (_b := true) (t := t) (rest := ⟨9, ((0 + (ptext x t).length + 2 : Nat) : Int), w, 0⟩ :: [⟨9, ((0 + (ptext x t).length + 2 + (noteD (sty x) w).length : Nat) : Int), w, 0⟩]) hts
  have hi := item_note h9 (paren_base (sz := (((ptext x t).length + 2 + (noteD (sty x) w).length + (noteD (sty x) w).length : Nat) : Int)) P (u := none) hts) rfl
  have hm := main_item h5 hi
  rw [loopG_stop rfl rfl] at hm
  simp only [treeP, Nat.zero_add] at hm ⊢
  rw [hm]
theorem notes_a {x : Int} (h : x = 1 ∨ x = 2 ∨ x = 3) (hx : isN x = true) {w : List UInt8} (hw : w ∈ words) (hl : (noteD (sty x) w).length ≤ 255) : parseP x (noteD (sty x) w) = ⟨[⟨7, -1, 0, 0, 0, w⟩], 0, (noteD (sty x) w).length, 0⟩ := by
  obtain ⟨k9, hp⟩ := opn3 h
  have en := lx_note k9 (hp w hw) [] 0
  rw [List.append_nil, lexG_nil, Nat.zero_add] at en
  rw [parse_of hx hl en]
  rfl
set_option maxHeartbeats 8000000 in
set_option maxRecDepth 20000 in
theorem notes_run (H : Has 153 E) {n which j r : Int} {v' : AV} (s w : List UInt8) {m : Nat} {ca : List AV} {ow ow2 : Own} {f1 f2 f3 f4 : AV} {op cl : Int} {o c : UInt8} (hop : bytesOf [.int .u8 op] = some [o]) (hcl : bytesOf [.int .u8 cl] = some [c])
    (haw : EvClosed E (.fn (.func 17) [] []) [] = some (.bool true)) (hw : IntKind.i64.wrap (1 + r) = 1 + r)
    (hr : EvClosed E (.fn (.func 18) [] []) [.int .i64 n, .int .i64 3] = some (.int .i64 r)) (hr4 : EvClosed E (.fn (.func 18) [] []) [.int .i64 which, .int .i64 4] = some (.int .i64 j))
    (j0 : 0 ≤ j) (j4 : j < 4) (hjw : (([.str [], .str [97, 32, 98], .str [120], .str [40, 109]] : List AV).drop j.toNat).take 1 = [.str w]) (lw : w.length ≤ 3) (ls : s.length ≤ 240) (hse : ¬ s = [])
    (ht : EvClosed E (.fn (.func 155) [] []) [.int .i64 (1 + r), v'] = some (.str s)) (ho : EvClosed E (.fn (.func 19) [] []) [.int .i64 (1 + r)] = some (.agg [f1, f2, f3, f4, .int .u8 op, .int .u8 cl]))
    (c1 : ca.length = m * 6) (c2 : ca.all AV.isCell = true) (m0 : 0 < m) (m1 : m ≤ 900000) (cc : f1.isCell = true ∧ f2.isCell = true ∧ f3.isCell = true ∧ f4.isCell = true)
    (p0 : EvClosed E (.fn (.func 20) [] []) [.int .i64 (1 + r), .str s] = some (.agg [.vs ow m ca, .int .i64 0, .int .i64 s.length, .int .i64 0]))
    (q1 : EvClosed E (.fn (.func 20) [] []) [.int .i64 (1 + r), .str (40 :: (s ++ 41 :: o :: (w ++ [c])))] = some (.agg [.vs ow2 (m + 1) (ca ++ [.int .i64 6, .int .i64 (-1), .int .i64 0, .int .i64 0, .int .i64 0, .str w]), .int .i64 0, .int .i64 (s.length + 2 + (w.length + 2) : Nat), .int .i64 0]))
    (q2 : EvClosed E (.fn (.func 20) [] []) [.int .i64 (1 + r), .str (40 :: (s ++ 41 :: o :: (w ++ c :: o :: (w ++ [c]))))] = some (.agg [.nils, .int .i64 14, .int .i64 (s.length + 2 + (w.length + 2) : Nat), .int .i64 0]))
    (q3 : EvClosed E (.fn (.func 20) [] []) [.int .i64 (1 + r), .str (o :: (w ++ [c]))] = some (.agg [.vs .full 1 [.int .i64 7, .int .i64 (-1), .int .i64 0, .int .i64 0, .int .i64 0, .str w], .int .i64 0, .int .i64 (w.length + 2 : Nat), .int .i64 0]))
    (sm : EvClosed E (.fn (.func 160) [] []) [.vs ow2 (m + 1) (ca ++ [.int .i64 6, .int .i64 (-1), .int .i64 0, .int .i64 0, .int .i64 0, .str w]), .vs (.tok 0 6) (m + 1) (ca ++ [.int .i64 6, .int .i64 (-1), .int .i64 0, .int .i64 0, .int .i64 0, .str w])] = some (.bool true)) :
    closedEnd (EvFn E f153 [.int .i64 n, v', .int .i64 which] heap0) = some (.bool true) := by
  rw [EvFn_eq]
  obtain ⟨k1, k2, k3, k4⟩ := cc
  have a1 := fun (h : AHeap) => app_new (h := h) (own := ow) c1 m0 (by omega) c2
  have a2 := fun (h : AHeap) => app_more (h := h) (own := .full) (k := 0) (n := 1) (xs := [.int .i64 6, .int .i64 (-1), .int .i64 0, .int .i64 0, .int .i64 0, .str w]) c1 rfl (by omega) (by omega) rfl
  have hse' : (s == []) = false := by simpa using hse
  have j3 : j ≤ 3 := by omega
  have d1 : decide ((240 : Int) < (s.length : Int)) = false := decide_eq_false (by omega)
  have lb : ∀ c : Nat, 1000 ≤ c → s.length ≤ c := fun c hc => by omega
  have lb2 : ∀ b c : Nat, b ≤ 100 → 1000 ≤ c → b + s.length ≤ c := fun b c h1 h2 => by omega
  have lb3 : ∀ c : Nat, 1000 ≤ c → w.length ≤ c := fun c hc => by omega
  have lb4 : ∀ b c : Nat, b ≤ 500 → 1000 ≤ c → s.length + b ≤ c := fun b c h1 h2 => by omega
  have lb5 : ∀ b c : Nat, b ≤ 100 → 1000 ≤ c → b + w.length ≤ c := fun b c h1 h2 => by omega
  have lb6 : ∀ b d c : Nat, b ≤ 100 → d ≤ 500 → 1000 ≤ c → b + (s.length + d) ≤ c := fun b d c h1 h2 h3 => by omega
  have lb7 : ∀ b d c : Nat, b ≤ 100 → d ≤ 100 → 1000 ≤ c → b + (w.length + d) ≤ c := fun b d c h1 h2 h3 => by omega
  have lb8 : ∀ b d c : Nat, b ≤ 200 → d ≤ 200 → 1000 ≤ c → s.length + b + d ≤ c := fun b d c h1 h2 h3 => by omega
  have lb9 : ∀ a b d c : Nat, a ≤ 200 → b ≤ 200 → d ≤ 200 → 1000 ≤ c → s.length + a + b + d ≤ c := fun a b d c h1 h2 h3 h4 => by omega
  have lb10 : ∀ a b d e c : Nat, a ≤ 100 → b ≤ 100 → d ≤ 200 → e ≤ 200 → 1000 ≤ c → s.length + a + b + d + e ≤ c := fun a b d e c h1 h2 h3 h4 h5 => by omega
  have g8 : w.length + 1 + 1 + 1 ≤ 200 := by omega
  have g9 : w.length + 1 + 1 + 1 + 1 ≤ 200 := by omega
  have g5 : w.length + 1 + 1 ≤ 200 := by omega
  have g6 : w.length + 1 ≤ 200 := by omega
  have g7 : w.length + 2 ≤ 200 := by omega
  have g1 : w.length + 1 ≤ 500 := by omega
  have g2 : w.length + 1 + 1 ≤ 500 := by omega
  have g3 : w.length ≤ 500 := by omega
  have g4 : w.length + 2 ≤ 500 := by omega
  have wr1 : IntKind.i64.wrap ((s.length : Int) + 2) = (s.length : Int) + 2 := w64
  have wr2 : IntKind.i64.wrap ((s.length : Int) + 2 + ((w.length : Int) + 2)) = (s.length : Int) + 2 + ((w.length : Int) + 2) := w64
  have wr3 : IntKind.i64.wrap ((s.length : Int) + 2 + ((w.length : Int) + 1 + 1)) = (s.length : Int) + 2 + ((w.length : Int) + 1 + 1) := w64
  have eqf : ((s.length : Int) + 2 + ((w.length : Int) + 2) == (s.length : Int) + 2 + ((w.length : Int) + 1 + 1)) = true := beq_iff_eq.2 (by omega)
  simp (maxSteps := 600000) [eqf, f153, start, EvCall_closed H.c17 rfl, EvCall_closed H.c18 rfl, EvCall_closed H.c19 rfl, EvCall_closed H.c20 rfl, EvCall_closed H.c155 rfl, haw, hr, hr4, hw, ht, ho, hse', d1, lb2, lb3, lb5, lb8, lb9, g8, g5, wr1, wr3, hop, hcl, j0, j3, j4, hjw, k1, k2, k3, k4, p0, q1, q2, q3, a1, a2, bl_toks, tk_toks, rot_toks, sm, push_setk]
set_option maxHeartbeats 8000000 in
set_option maxRecDepth 20000 in
theorem parseNotes_eq (H : Has 153 E) (n : Int) {v : AV} {L : List Int} (hv : IntsV v L) (which : Int) : EvClosed E (.fn (.func 153) [] []) [.int .i64 n, v, .int .i64 which] = some (.bool true) := by
  obtain ⟨v', sv, hv'⟩ := ints_shut hv
  rw [EvClosed_eq H.c153 rfl (vs := [.int .i64 n, v', .int .i64 which]) (by simp [sv])]
  have hk : 1 + n % 3 = 1 ∨ 1 + n % 3 = 2 ∨ 1 + n % 3 = 3 := by omega
  have hw : IntKind.i64.wrap (1 + n % 3) = 1 + n % 3 := w64
  have hr := rest18_eq (H.to 18) (x := n) (m := 3) (by omega) (by omega)
  have hr4 := rest18_eq (H.to 18) (x := which) (m := 4) (by omega) (by omega)
  have hj : which % 4 = 0 ∨ which % 4 = 1 ∨ which % 4 = 2 ∨ which % 4 = 3 := by omega
  generalize n % 3 = r at *
  have hkk : ∃ k, k = 1 + r := ⟨_, rfl⟩
  obtain ⟨k, hkk⟩ := hkk
  rw [← hkk] at hk hw
  have hn : isN k = true := by rcases hk with rfl | rfl | rfl <;> rfl
  have haw := awake17_eq (H.to 17)
  have ht := text155_eq (H.to 155) hn hv'
  have ho := refOf_eq (H.to 19) k
  simp only [Sty.cs] at ho
  have pe := fun s hs => parse_eq (H.to 20) k s hs
  generalize which % 4 = j at *
  rcases printD_cases hn L with h0 | ⟨h0, P⟩
  · rw [h0] at ht
    rw [hkk] at hw ht
    rw [EvFn_eq]
    simp [f153, start, EvCall_closed H.c17 rfl, EvCall_closed H.c18 rfl, EvCall_closed H.c155 rfl, haw, hr, hw, ht]
  · rw [h0] at ht
    by_cases hl : (ptext k (madeT L)).length ≤ 240
    · have hw4 : ∀ w ∈ words, w.length ≤ 3 := by decide
      have all := fun (w : List UInt8) (hwm : w ∈ words) => by
        have l3 := hw4 w hwm
        have ln := note_len (sty k) w
        have q1 := pe (40 :: (ptext k (madeT L) ++ 41 :: noteD (sty k) w)) (by simp; omega)
        have q2 := pe (40 :: (ptext k (madeT L) ++ 41 :: (noteD (sty k) w ++ noteD (sty k) w))) (by simp; omega)
        have q3 := pe (noteD (sty k) w) (by omega)
        rw [notes_q hk P hwm (by omega)] at q1
        rw [notes_r hk P hwm (by omega)] at q2
        rw [notes_a hk hn hwm (by omega)] at q3
        exact And.intro q1 (And.intro q2 q3)
      have p0 := pe (ptext k (madeT L)) (by have := P.len; omega)
      rw [P.parse] at p0
      have hsl := (madeT_ok L).2.2
      have hsp := Tr.steps_pos (madeT L)
      generalize ptext k (madeT L) = s at *
      obtain ⟨w, hwm, hjw⟩ : ∃ w, w ∈ words ∧ ((j = 0 ∧ w = []) ∨ (j = 1 ∧ w = [97, 32, 98]) ∨ (j = 2 ∧ w = [120]) ∨ (j = 3 ∧ w = [40, 109])) := by
        rcases hj with rfl | rfl | rfl | rfl
        · exact ⟨[], by decide, .inl ⟨rfl, rfl⟩⟩
        · exact ⟨[97, 32, 98], by decide, .inr (.inl ⟨rfl, rfl⟩)⟩
        · exact ⟨[120], by decide, .inr (.inr (.inl ⟨rfl, rfl⟩))⟩
        · exact ⟨[40, 109], by decide, .inr (.inr (.inr ⟨rfl, rfl⟩))⟩
      obtain ⟨q1, q2, q3⟩ := all w hwm
      have sm := same_eq (H.to 160) (stepsV_tree ((madeT L).steps ++ [(⟨6, -1, 0, 0, 0, w⟩ : StepA)])) (.inr ⟨.tok 0 6, rfl⟩ : TreeV (.vs (.tok 0 6) ((madeT L).steps ++ [(⟨6, -1, 0, 0, 0, w⟩ : StepA)]).length (((madeT L).steps ++ [(⟨6, -1, 0, 0, 0, w⟩ : StepA)]).flatMap StepA.cs)) ((madeT L).steps ++ [(⟨6, -1, 0, 0, 0, w⟩ : StepA)])) (by rw [List.length_append]; simp; omega)
      rw [decide_eq_true rfl] at sm
      obtain ⟨c1, c2⟩ := steps_cells (madeT L).steps
      obtain ⟨ow, hsv⟩ := stepsV_pos (t := (madeT L).steps) (by omega)
      obtain ⟨ow2, hsv2⟩ := stepsV_pos (t := (madeT L).steps ++ [(⟨6, -1, 0, 0, 0, w⟩ : StepA)]) (by rw [List.length_append]; simp)
      have e1 : ((madeT L).steps ++ [(⟨6, -1, 0, 0, 0, w⟩ : StepA)]).length = (madeT L).steps.length + 1 := by simp
      have e2 : ((madeT L).steps ++ [(⟨6, -1, 0, 0, 0, w⟩ : StepA)]).flatMap StepA.cs = (madeT L).steps.flatMap StepA.cs ++ [.int .i64 6, .int .i64 (-1), .int .i64 0, .int .i64 0, .int .i64 0, .str w] := by simp [StepA.cs]
      have e3 : stepsV [(⟨7, -1, 0, 0, 0, w⟩ : StepA)] = .vs .full 1 [.int .i64 7, .int .i64 (-1), .int .i64 0, .int .i64 0, .int .i64 0, .str w] := by simp [stepsV, StepA.cs]
      have hlen := note_len (sty k) w
      rw [hsv2, e1, e2] at sm
      have e4 : stepsV [] = .nils := rfl
      simp only [Psd.cs, hsv, hsv2, e1, e2, e3, e4, hlen] at p0 q1 q2 q3
      have hm : 0 < (madeT L).steps.length ∧ (madeT L).steps.length ≤ 900000 := by omega
      clear hsv hsv2 e1 e2 e3 all hj
      generalize (madeT L).steps.flatMap StepA.cs = ca at *
      generalize (madeT L).steps.length = m at *
      have hjs : 0 ≤ j ∧ j < 4 ∧ (([.str [], .str [97, 32, 98], .str [120], .str [40, 109]] : List AV).drop j.toNat).take 1 = [.str w] := by
        rcases hjw with ⟨rfl, rfl⟩ | ⟨rfl, rfl⟩ | ⟨rfl, rfl⟩ | ⟨rfl, rfl⟩ <;> exact ⟨by decide, by decide, rfl⟩
      have b1 := bytes1 (sty k).opn
      have b2 := bytes1 (sty k).cls
      simp only [noteD, List.cons_append, List.nil_append, List.append_assoc] at q1 q2 q3
      by_cases hse' : s = []
      · subst hse'
        rw [hkk] at hw ht
        rw [EvFn_eq]
        simp [f153, start, EvCall_closed H.c17 rfl, EvCall_closed H.c18 rfl, EvCall_closed H.c155 rfl, haw, hr, hw, ht]
      · rw [hkk] at hw ht ho p0 q1 q2 q3 b1 b2
        exact notes_run H s w b1 b2 haw hw hr hr4 hjs.1 hjs.2.1 hjs.2.2 (hw4 w hwm) hl hse' ht ho c1 c2 hm.1 hm.2 ⟨rfl, rfl, rfl, rfl⟩ p0 q1 q2 q3 sm
    · generalize ptext k (madeT L) = s at *
      have d1 : decide ((240 : Int) < (s.length : Int)) = true := decide_eq_true (by omega)
      rw [hkk] at hw ht
      rw [EvFn_eq]
      cases hse : (s == [])
      · have hse' : ¬ s = [] := by simpa using hse
        simp [f153, start, EvCall_closed H.c17 rfl, EvCall_closed H.c18 rfl, EvCall_closed H.c155 rfl, haw, hr, hw, ht, hse, d1]
      · simp [f153, start, EvCall_closed H.c17 rfl, EvCall_closed H.c18 rfl, EvCall_closed H.c155 rfl, haw, hr, hw, ht, hse]
end Go.Pv
