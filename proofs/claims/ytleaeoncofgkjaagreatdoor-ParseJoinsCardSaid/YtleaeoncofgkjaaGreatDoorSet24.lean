/- A part of the proof: functions of the program in the evaluator's code, and what they come to. Conditions: none; definitions and theorems that the statement's proof uses. -/
import Derived.Test.YtleaeoncofgkjaaGreatDoorSet20
import Derived.Test.YtleaeoncofgkjaaGreatDoorSet23
/- ParseJoins is true. Conditions: the functions' codes; theorems. -/
namespace Go.Pv
variable {E : Env} {x sz : Int}
theorem joins_parse {a b : Tr} (P : Prt x a) (Q : Prt x b) {c : UInt8} {k : Int} (hk : kind x c = k) (h45 : k = 4 ∨ k = 5) (hl : (ptext x a).length + (ptext x b).length ≤ 252) :
    parseP x (ptext x a ++ c :: 40 :: (ptext x b ++ [41])) = ⟨a.steps ++ b.steps ++ [stepO (if k = 4 then 3 else 4)], 0, ((ptext x a ++ c :: 40 :: (ptext x b ++ [41])).length : Nat), 0⟩ := by
  have hkn : k ≠ 0 ∧ k ≠ 10 ∧ k ≠ 1 ∧ k ≠ 2 ∧ k ≠ 9 := by omega
  obtain ⟨ta, hta, ea⟩ := P.lex (q := c :: 40 :: (ptext x b ++ [41])) (NJ.cons (by rw [hk]; omega) (by rw [hk]; omega)) 0
  obtain ⟨tb, htb, eb⟩ := lx_paren Q NJ.nil (0 + (ptext x a).length + 1)
  rw [lexG_nil, List.append_nil] at eb
  rw [lx_one hk hkn, eb] at ea
  have hlen : (ptext x a ++ c :: 40 :: (ptext x b ++ [41])).length = (ptext x a).length + (ptext x b).length + 3 := by simp; omega
  rw [parse_of P.n (by omega) (ts := ta ++ ⟨k, ((0 + (ptext x a).length : Nat) : Int), [c], 0⟩ :: tb) (by rw [ea, hlen]; simp; omega)]
  generalize (((ptext x a ++ c :: 40 :: (ptext x b ++ [41])).length : Nat) : Int) = sz
  have hm := (P.main sz) 32 ta (⟨k, ((0 + (ptext x a).length : Nat) : Int), [c], 0⟩ :: tb) none hta (stopI_mk (by omega))
  have hm := hm.1 (by have := P.deep; omega)
  obtain ⟨h9, _⟩ := brk_head (_b := true) (t := b) (rest := []) htb
  have hi := item_base h9 (paren_base (sz := sz) Q (u := none) htb) rfl
  rw [List.append_nil] at hi
  rw [loopG_step (levelP_fits 32) h45 hi, loopG_stop rfl rfl] at hm
  simp only [treeP, hm]
theorem toks_get (h : AHeap) (ts : List Nat) : (h.toks_ ts).toks = ts := rfl
theorem print_len (x : Int) (t : Tr) : (printD x t).1.length ≤ 255 := by
  unfold printD
  split
  · simp
  · split
    · simp
    · split
      · simp
      · simp only; omega
set_option maxHeartbeats 8000000 in
set_option maxRecDepth 20000 in
theorem parseJoins_eq (H : Has 151 E) (n : Int) {va vb : AV} {La Lb : List Int} (hva : IntsV va La) (hvb : IntsV vb Lb) : EvClosed E (.fn (.func 151) [] []) [.int .i64 n, va, vb] = some (.bool true) := by
  obtain ⟨va', sva, hva'⟩ := ints_shut hva
  obtain ⟨vb', svb, hvb'⟩ := ints_shut hvb
  rw [EvClosed_eq H.c151 rfl (vs := [.int .i64 n, va', vb']) (by simp [sva, svb]), EvFn_eq]
  have hk : 1 ≤ 1 + n % 5 ∧ 1 + n % 5 ≤ 5 := by omega
  have hw : IntKind.i64.wrap (1 + n % 5) = 1 + n % 5 := w64
  have hr := rest18_eq (H.to 18) (x := n) (m := 5) (by omega) (by omega)
  generalize n % 5 = r at *
  have hkk : ∃ k, k = 1 + r := ⟨_, rfl⟩
  obtain ⟨k, hkk⟩ := hkk
  rw [← hkk] at hk hw
  have hn : isN k = true := by simp [isN, hk]
  have haw := awake17_eq (H.to 17)
  have hta := text155_eq (H.to 155) hn hva'
  have htb := text155_eq (H.to 155) hn hvb'
  have ho := refOf_eq (H.to 19) k
  simp only [Sty.cs] at ho
  have pe := fun s hs => parse_eq (H.to 20) k s hs
  have hla := print_len k (madeT La)
  have hlb := print_len k (madeT Lb)
  rcases printD_cases hn La with h0 | ⟨h0, P⟩
  · rw [h0] at hta
    generalize (printD k (madeT Lb)).1 = t at *
    rw [hkk] at hw hta htb
    simp [f151, start, EvCall_closed H.c17 rfl, EvCall_closed H.c18 rfl, EvCall_closed H.c155 rfl, haw, hr, hw, hta, htb]
  rw [h0] at hta hla
  rcases printD_cases hn Lb with h1 | ⟨h1, Q⟩
  · rw [h1] at htb
    generalize ptext k (madeT La) = s at *
    rw [hkk] at hw hta htb
    cases hse : (s == [])
    · have hse' : ¬ s = [] := by simpa using hse
      simp [f151, start, EvCall_closed H.c17 rfl, EvCall_closed H.c18 rfl, EvCall_closed H.c155 rfl, haw, hr, hw, hta, htb, hse]
    · simp [f151, start, EvCall_closed H.c17 rfl, EvCall_closed H.c18 rfl, EvCall_closed H.c155 rfl, haw, hr, hw, hta, htb, hse]
  rw [h1] at htb hlb
  have ne := nests159_eq (H.to 159) k (ptext k (madeT Lb)) (by omega)
  by_cases hl : (ptext k (madeT La)).length + (ptext k (madeT Lb)).length ≤ 252
  · obtain ⟨k4, k5, _⟩ := kind_bytes hn
    have j4 := joins_parse P Q k4 (.inl rfl) hl
    have j5 := joins_parse P Q k5 (.inr rfl) hl
    have p0 := pe (ptext k (madeT La)) (by omega)
    have p1 := pe (ptext k (madeT Lb)) (by omega)
    have p4 := pe (ptext k (madeT La) ++ (sty k).mul :: 40 :: (ptext k (madeT Lb) ++ [41])) (by simp; omega)
    have p5 := pe (ptext k (madeT La) ++ (sty k).div :: 40 :: (ptext k (madeT Lb) ++ [41])) (by simp; omega)
    rw [P.parse] at p0
    rw [Q.parse] at p1
    rw [j4] at p4
    rw [j5] at p5
    have hsla := (madeT_ok La).2.2
    have hslb := (madeT_ok Lb).2.2
    have hspa := Tr.steps_pos (madeT La)
    have hspb := Tr.steps_pos (madeT Lb)
    generalize ptext k (madeT La) = s at *
    generalize ptext k (madeT Lb) = t at *
    generalize (madeT La).steps = xa at *
    generalize (madeT Lb).steps = xb at *
    have hl4 : (xa ++ xb ++ [stepO 3]).length = xa.length + xb.length + 1 := by simp; omega
    have hl5 : (xa ++ xb ++ [stepO 4]).length = xa.length + xb.length + 1 := by simp; omega
    have e4 : (xa ++ xb ++ [stepO 3]).flatMap StepA.cs = xa.flatMap StepA.cs ++ xb.flatMap StepA.cs ++ [.int .i64 3, .int .i64 (-1), .int .i64 0, .int .i64 0, .int .i64 0, .str []] := by simp [StepA.cs, stepO]
    have e5 : (xa ++ xb ++ [stepO 4]).flatMap StepA.cs = xa.flatMap StepA.cs ++ xb.flatMap StepA.cs ++ [.int .i64 4, .int .i64 (-1), .int .i64 0, .int .i64 0, .int .i64 0, .str []] := by simp [StepA.cs, stepO]
    have sm4 := same_eq (H.to 160) (stepsV_tree (xa ++ xb ++ [stepO 3])) (.inr ⟨.tok 1 6, rfl⟩ : TreeV (.vs (.tok 1 6) (xa ++ xb ++ [stepO 3]).length ((xa ++ xb ++ [stepO 3]).flatMap StepA.cs)) (xa ++ xb ++ [stepO 3])) (by omega)
    have sm5 := same_eq (H.to 160) (stepsV_tree (xa ++ xb ++ [stepO 4])) (.inr ⟨.tok 2 6, rfl⟩ : TreeV (.vs (.tok 2 6) (xa ++ xb ++ [stepO 4]).length ((xa ++ xb ++ [stepO 4]).flatMap StepA.cs)) (xa ++ xb ++ [stepO 4])) (by omega)
    rw [decide_eq_true rfl] at sm4 sm5
    have qc4 := stepsV_cell (xa ++ xb ++ [stepO 3])
    have qc5 := stepsV_cell (xa ++ xb ++ [stepO 4])
    rw [hl4, e4] at sm4
    rw [hl5, e5] at sm5
    simp only [if_true, show ¬ ((5 : Int) = 4) by decide, if_false, Psd.cs] at p0 p1 p4 p5
    generalize stepsV (xa ++ xb ++ [stepO 3]) = v4 at *
    generalize stepsV (xa ++ xb ++ [stepO 4]) = v5 at *
    rw [List.append_assoc] at sm4 sm5
    clear hl4 hl5 e4 e5
    obtain ⟨c1, c2⟩ := steps_cells xa
    obtain ⟨c3, c4⟩ := steps_cells xb
    obtain ⟨oa, hoa⟩ := stepsV_pos (t := xa) (by omega)
    obtain ⟨ob, hob⟩ := stepsV_pos (t := xb) (by omega)
    rw [hoa] at p0
    rw [hob] at p1
    clear hoa hob
    generalize xa.flatMap StepA.cs = ca at *
    generalize xb.flatMap StepA.cs = cb at *
    have hma : 0 < xa.length ∧ xa.length ≤ 300000 := by omega
    have hmb : 0 < xb.length ∧ xb.length ≤ 300000 := by omega
    generalize xa.length = ma at *
    generalize xb.length = mb at *
    have cab : (ca ++ cb).length = (ma + mb) * 6 := by rw [List.length_append]; omega
    have cab2 : (ca ++ cb).all AV.isCell = true := by rw [List.all_append, c2, c4]; rfl
    have a1 := fun (h : AHeap) => app_new (h := h) (own := oa) c1 hma.1 (by omega) c2
    have a2 := fun (h : AHeap) => app_more (h := h) (own := ob) (k := 0) c1 c3 hmb.1 (by omega) c4
    have a3 := fun (h : AHeap) => app_new (h := h) (own := .tok 0 6) cab (by omega) (by omega) cab2
    have a4 := fun (h : AHeap) => app_more (h := h) (own := .full) (k := 1) (n := 1) (xs := [.int .i64 3, .int .i64 (-1), .int .i64 0, .int .i64 0, .int .i64 0, .str []]) cab rfl (by omega) (by omega) rfl
    have a5 := fun (h : AHeap) => app_more (h := h) (own := .full) (k := 2) (n := 1) (xs := [.int .i64 4, .int .i64 (-1), .int .i64 0, .int .i64 0, .int .i64 0, .str []]) cab rfl (by omega) (by omega) rfl
    have d1 : decide ((252 : Int) < (s.length : Int) + (t.length : Int)) = false := decide_eq_false (by omega)
    have w1 : IntKind.i64.wrap ((s.length : Int) + (t.length : Int)) = (s.length : Int) + (t.length : Int) := w64
    have lb : ∀ c : Nat, 1000 ≤ c → s.length ≤ c := fun c hc => by omega
    have lb1 : ∀ a c : Nat, a ≤ 300 → 1000 ≤ c → s.length + a ≤ c := fun a c h1 h2 => by omega
    have lb2 : ∀ a b c : Nat, a ≤ 300 → b ≤ 300 → 1000 ≤ c → s.length + a + b ≤ c := fun a b c h1 h2 h3 => by omega
    have lb3 : ∀ a b d c : Nat, a ≤ 300 → b ≤ 10 → d ≤ 300 → 1000 ≤ c → s.length + a + b + d ≤ c := fun a b d c h1 h2 h3 h4 => by omega
    have g1 : t.length ≤ 300 := by omega
    have g2 : t.length + 1 ≤ 300 := by omega
    have g3 : t.length + 1 + 1 ≤ 300 := by omega
    have g4 : t.length + 1 + 1 + 1 ≤ 300 := by omega
    have b1 := bytes1 (sty k).mul
    have b2 := bytes1 (sty k).div
    generalize (sty k).mul = mu at *
    generalize (sty k).div = di at *
    generalize nestF 0 0 (lexS k t).1 = dp at *
    rw [hkk] at hw hta htb ho p0 p1 p4 p5 ne
    cases hse : (s == [])
    · have hse' : ¬ s = [] := by simpa using hse
      cases hte : (t == [])
      · have hte' : ¬ t = [] := by simpa using hte
        cases hdp : decide (31 < dp)
        · have hdp' : ¬ 31 < dp := by simpa using hdp
          simp (maxSteps := 1000000) [f151, start, EvCall_closed H.c17 rfl, EvCall_closed H.c18 rfl, EvCall_closed H.c19 rfl, EvCall_closed H.c20 rfl, EvCall_closed H.c155 rfl, EvCall_closed H.c159 rfl, haw, hr, hw, hta, htb, hse, hte, d1, w1, ne, hdp', ho, lb1, lb2, g1, g3, b1, b2, p0, p1, p4, p5, a1, a2, a3, a4, a5, qc4, qc5, bl_toks, ro_toks, blks_toks, tk_toks, rot_toks, toks_toks, toks_get, sm4, sm5, push_setk]
        · have hdp' : 31 < dp := by simpa using hdp
          simp [f151, start, EvCall_closed H.c17 rfl, EvCall_closed H.c18 rfl, EvCall_closed H.c155 rfl, EvCall_closed H.c159 rfl, haw, hr, hw, hta, htb, hse, hte, d1, w1, ne, hdp']
      · simp [f151, start, EvCall_closed H.c17 rfl, EvCall_closed H.c18 rfl, EvCall_closed H.c155 rfl, haw, hr, hw, hta, htb, hse, hte]
    · simp [f151, start, EvCall_closed H.c17 rfl, EvCall_closed H.c18 rfl, EvCall_closed H.c155 rfl, haw, hr, hw, hta, htb, hse]
  · generalize ptext k (madeT La) = s at *
    generalize ptext k (madeT Lb) = t at *
    have d1 : decide ((252 : Int) < (s.length : Int) + (t.length : Int)) = true := decide_eq_true (by omega)
    have w1 : IntKind.i64.wrap ((s.length : Int) + (t.length : Int)) = (s.length : Int) + (t.length : Int) := w64
    rw [hkk] at hw hta htb
    cases hse : (s == [])
    · have hse' : ¬ s = [] := by simpa using hse
      cases hte : (t == [])
      · have hte' : ¬ t = [] := by simpa using hte
        simp [f151, start, EvCall_closed H.c17 rfl, EvCall_closed H.c18 rfl, EvCall_closed H.c155 rfl, haw, hr, hw, hta, htb, hse, hte, d1, w1]
      · simp [f151, start, EvCall_closed H.c17 rfl, EvCall_closed H.c18 rfl, EvCall_closed H.c155 rfl, haw, hr, hw, hta, htb, hse, hte]
    · simp [f151, start, EvCall_closed H.c17 rfl, EvCall_closed H.c18 rfl, EvCall_closed H.c155 rfl, haw, hr, hw, hta, htb, hse]
end Go.Pv
