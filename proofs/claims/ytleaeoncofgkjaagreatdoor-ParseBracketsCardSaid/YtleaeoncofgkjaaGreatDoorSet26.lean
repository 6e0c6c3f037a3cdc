/- A part of the proof: functions of the program in the evaluator's code, and what they come to. Conditions: none; definitions and theorems that the statement's proof uses. -/
import Derived.Test.YtleaeoncofgkjaaGreatDoorSet23
import Derived.Test.YtleaeoncofgkjaaGreatDoorSet11
/- Brackets around a text. Conditions: none; theorems. -/
namespace Go.Pv
variable {x sz : Int}
def brN : Nat → List UInt8 → List UInt8
  | 0, s => s
  | m + 1, s => 40 :: (brN m s ++ [41])
def BrkN (P : List Tok → Prop) : Nat → List Tok → Prop
  | 0 => P
  | m + 1 => Brk true (BrkN P m)
theorem brN_eq : ∀ (m : Nat) (s : List UInt8), brN m s = List.replicate m 40 ++ (s ++ List.replicate m 41)
  | 0, s => by simp [brN]
  | m + 1, s => by
    simp only [brN, brN_eq m s]
    rw [show List.replicate (m + 1) (40 : UInt8) = 40 :: List.replicate m 40 from rfl, show List.replicate (m + 1) (41 : UInt8) = List.replicate m 41 ++ [41] from List.replicate_succ']
    simp only [List.cons_append, List.append_assoc]
theorem brN_len (m : Nat) (s : List UInt8) : (brN m s).length = s.length + 2 * m := by
  rw [brN_eq]
  simp
  omega
theorem lx_brN (hx : isN x = true) {s : List UInt8} {P : List Tok → Prop} (h : Lx x s P) : ∀ m, Lx x (brN m s) (BrkN P m)
  | 0 => h
  | m + 1 => lx_brk hx (lx_brN hx h m) true
def MainQ (x sz : Int) (P : List Tok → Prop) (st : List StepA) (dp : Nat) : Prop := ∀ (r : Nat) (ts rest : List Tok) (u : Option Tok), P ts → StopI rest →
  (dp ≤ r → mainP x sz (levelP x sz r) (ts ++ rest) u = loopG x sz (levelP x sz r) st rest u) ∧ (r < dp → ∃ p, mainP x sz (levelP x sz r) (ts ++ rest) u = .error (13, p))
theorem main_brk {P : List Tok → Prop} {st : List StepA} {dp : Nat} (h : MainQ x sz P st dp) : MainQ x sz (Brk true P) st (dp + 1) := by
  intro r ts rest u hb hr
  simp only [Brk, if_true] at hb
  obtain ⟨k, us, k', rfl, hk, hk', hu⟩ := hb
  have e0 : k :: (us ++ [k']) ++ rest = k :: (us ++ (k' :: rest)) := by simp
  rw [e0]
  have h9 : isT 9 (k :: (us ++ (k' :: rest))) = false := by simp [isT, hk]
  have h5 : isT 5 (k :: (us ++ (k' :: rest))) = false := by simp [isT, hk]
  have hst : StopI (k' :: rest) := stopI_cons (by rw [hk']; decide) (by rw [hk']; decide) (by rw [hk']; decide) (by rw [hk']; decide)
  cases r with
  | zero =>
    refine ⟨fun h => by omega, fun _ => ?_⟩
    have hb : baseP x sz (levelP x sz 0) (k :: (us ++ (k' :: rest))) u = .error (13, k.pos) := by
      simp only [baseP, hk]
      rfl
    exact ⟨k.pos, main_err h5 (item_err h9 hb)⟩
  | succ r =>
    obtain ⟨h1, h2⟩ := h r us (k' :: rest) u hu hst
    refine ⟨fun hd => ?_, fun hd => ?_⟩
    · have h1 := h1 (by omega)
      rw [loopG_stop (by simp [isT, hk']) (by simp [isT, hk'])] at h1
      have hb : baseP x sz (levelP x sz (r + 1)) (k :: (us ++ (k' :: rest))) u = .ok (st, rest, u) := by
        rw [base_open hk, h1]
        simp [closeP, hk']
      have hi := item_base (ts := k :: (us ++ [k'])) (rest := rest) (by rw [e0]; exact h9) (by rw [e0]; exact hb) hr.2
      rw [e0] at hi
      exact main_item h5 hi
    · obtain ⟨p, h2⟩ := h2 (by omega)
      have hb : baseP x sz (levelP x sz (r + 1)) (k :: (us ++ (k' :: rest))) u = .error (13, p) := by
        rw [base_open hk, h2]
      exact ⟨p, main_err h5 (item_err h9 hb)⟩
theorem main_brN {P : List Tok → Prop} {st : List StepA} {dp : Nat} (h : MainQ x sz P st dp) : ∀ m, MainQ x sz (BrkN P m) st (dp + m)
  | 0 => h
  | m + 1 => main_brk (main_brN h m)
theorem brackets_parse {t : Tr} (P : Prt x t) (m : Nat) (hl : (ptext x t).length + 2 * m ≤ 255) :
    (m + t.deep ≤ 32 → parseP x (brN m (ptext x t)) = ⟨t.steps, 0, (brN m (ptext x t)).length, 0⟩) ∧ (32 < m + t.deep → ∃ p, parseP x (brN m (ptext x t)) = ⟨[], 13, p, 0⟩) := by
  obtain ⟨ts, hts, e⟩ := lx_brN P.n (lx_tree P.n P.ok P.fits P.told) m [] 0 NJ.nil
  rw [List.append_nil, lexG_nil, List.append_nil, Nat.zero_add] at e
  have hlen := brN_len m (ptext x t)
  rw [parse_of P.n (by omega) e]
  obtain ⟨h1, h2⟩ := main_brN (P.main ((brN m (ptext x t)).length : Int)) m 32 ts [] none hts stopI_nil
  rw [List.append_nil] at h1 h2
  refine ⟨fun hd => ?_, fun hd => ?_⟩
  · have h1 := h1 (by omega)
    rw [loopG_stop rfl rfl] at h1
    simp only [treeP, h1]
  · obtain ⟨p, h2⟩ := h2 (by omega)
    exact ⟨p, by simp only [treeP, h2]⟩
theorem nests_print {t : Tr} (P : Prt x t) : nestF 0 0 (lexS x (ptext x t)).1 = t.deep := by
  obtain ⟨ts, hts, e⟩ := P.lex NJ.nil 0
  rw [List.append_nil, lexG_nil, List.append_nil] at e
  have e' : (lexS x (ptext x t)).1 = ts := congrArg (·.1) e
  rw [e', (even_tree t ts hts 0 0).2]
  omega
end Go.Pv
/- ParseBrackets is true. Conditions: the functions' codes; theorems. -/
namespace Go.Pv
variable {E : Env} {x sz : Int}
set_option maxHeartbeats 2000000 in
theorem brackets_loop {h : AHeap} {u1 u2 u3 : AV} {m : Nat} (hm : m ≤ 100) : ∀ (c i : Nat), i + c = m → ∀ F, mask k150_0 F = s150_0 u1 u2 u3 (.int .i64 m) (.str (List.replicate i 40)) (.str (List.replicate i 41)) (.int .i64 i) →
    EvCode E (.loop k150_0 l150_0) F h = some (.exit 0, x150_0 u1 u2 u3 (.int .i64 m) (.str (List.replicate m 40)) (.str (List.replicate m 41)), h)
  | 0, i, hi, F, hF => by
    have : i = m := by omega
    subst this
    rw [EvCode_loop, hF]
    simp [l150_0, s150_0, x150_0]
  | c + 1, i, hi, F, hF => by
    have ih := brackets_loop (h := h) (u1 := u1) (u2 := u2) (u3 := u3) hm c (i + 1) (by omega)
    have e1 : List.replicate i (40 : UInt8) ++ [40] = List.replicate (i + 1) 40 := List.replicate_succ'.symm
    have e2 : List.replicate i (41 : UInt8) ++ [41] = List.replicate (i + 1) 41 := List.replicate_succ'.symm
    have l1 : (List.replicate i (40 : UInt8)).length + 1 ≤ 9223372036854775807 := by rw [List.length_replicate]; omega
    have l2 : (List.replicate i (41 : UInt8)).length + 1 ≤ 9223372036854775807 := by rw [List.length_replicate]; omega
    have cn : ((i + 1 : Nat) : Int) = (i : Int) + 1 := by simp
    rw [cn, ← e1, ← e2] at ih
    generalize List.replicate i (40 : UInt8) = A at *
    generalize List.replicate i (41 : UInt8) = B at *
    generalize List.replicate m (40 : UInt8) = A' at *
    generalize List.replicate m (41 : UInt8) = B' at *
    have hd : i < m := by omega
    have w1 : IntKind.i64.wrap ((i : Int) + 1) = (i : Int) + 1 := w64
    rw [EvCode_loop, hF]
    generalize EvCode E (.loop k150_0 l150_0) = lp at ih ⊢
    simp [l150_0, s150_0, hd, w1, l1, l2]
    exact ih _ (by simp [s150_0])
set_option maxHeartbeats 8000000 in
set_option maxRecDepth 20000 in
theorem parseBrackets_eq (H : Has 150 E) (n : Int) {v : AV} {L : List Int} (hv : IntsV v L) (many : Int) : EvClosed E (.fn (.func 150) [] []) [.int .i64 n, v, .int .i64 many] = some (.bool true) := by
  obtain ⟨v', sv, hv'⟩ := ints_shut hv
  rw [EvClosed_eq H.c150 rfl (vs := [.int .i64 n, v', .int .i64 many]) (by simp [sv]), EvFn_eq]
  have hk : 1 ≤ 1 + n % 5 ∧ 1 + n % 5 ≤ 5 := by omega
  have hw : IntKind.i64.wrap (1 + n % 5) = 1 + n % 5 := w64
  have hr := rest18_eq (H.to 18) (x := n) (m := 5) (by omega) (by omega)
  have hr41 := rest18_eq (H.to 18) (x := many) (m := 41) (by omega) (by omega)
  obtain ⟨m, hm⟩ : ∃ m : Nat, many % 41 = m := ⟨(many % 41).toNat, by omega⟩
  have hm40 : m ≤ 40 := by omega
  rw [hm] at hr41
  clear hm
  generalize n % 5 = r at *
  have hkk : ∃ k, k = 1 + r := ⟨_, rfl⟩
  obtain ⟨k, hkk⟩ := hkk
  rw [← hkk] at hk hw
  have hn : isN k = true := by simp [isN, hk]
  have haw := awake17_eq (H.to 17)
  have ht := text155_eq (H.to 155) hn hv'
  have pe := fun s hs => parse_eq (H.to 20) k s hs
  have w2 : IntKind.i64.wrap (2 * (m : Int)) = 2 * (m : Int) := w64
  rcases printD_cases hn L with h0 | ⟨h0, P⟩
  · rw [h0] at ht
    rw [hkk] at hw ht
    simp [f150, start, EvCall_closed H.c17 rfl, EvCall_closed H.c18 rfl, EvCall_closed H.c155 rfl, haw, hr, hr41, hw, ht]
  · rw [h0] at ht
    by_cases hl : (ptext k (madeT L)).length + 2 * m ≤ 255
    · obtain ⟨b1, b2⟩ := brackets_parse P m hl
      have ne := nests159_eq (H.to 159) k (ptext k (madeT L)) (by omega)
      rw [nests_print P] at ne
      have p0 := pe (ptext k (madeT L)) (by omega)
      have q0 := pe (brN m (ptext k (madeT L))) (by rw [brN_len]; omega)
      rw [P.parse] at p0
      have hdp := P.deep
      have hsp := Tr.steps_pos (madeT L)
      have hsl := (madeT_ok L).2.2
      have sm := same_eq (H.to 160) (stepsV_tree (madeT L).steps) (stepsV_tree (madeT L).steps) (by omega)
      rw [decide_eq_true rfl] at sm
      have sc := stepsV_cell (madeT L).steps
      have bl := fun h => brackets_loop (E := E) (h := h) (u1 := .bool true) (u2 := .int .i64 k) (u3 := .str (ptext k (madeT L))) (m := m) (by omega) m 0 (by omega)
      generalize (madeT L).deep = dp at *
      rw [brN_eq] at b1 b2 q0
      generalize ptext k (madeT L) = s at *
      have lA : (List.replicate m (40 : UInt8)).length = m := List.length_replicate
      have lB : (List.replicate m (41 : UInt8)).length = m := List.length_replicate
      generalize List.replicate m (40 : UInt8) = A at *
      generalize List.replicate m (41 : UInt8) = B at *
      have d1 : decide ((255 : Int) < (s.length : Int) + 2 * (m : Int)) = false := decide_eq_false (by omega)
      have w3 : IntKind.i64.wrap ((s.length : Int) + 2 * (m : Int)) = (s.length : Int) + 2 * (m : Int) := w64
      have w4 : IntKind.i64.wrap ((m : Int) + (dp : Int)) = (m : Int) + (dp : Int) := w64
      have l1 : m + s.length ≤ 9223372036854775807 := by omega
      have l2 : m + (s.length + m) ≤ 9223372036854775807 := by omega
      have l3 : m + s.length + m ≤ 9223372036854775807 := by omega
      by_cases hse' : s = []
      · subst hse'
        rw [hkk] at hw ht
        simp [f150, start, EvCall_closed H.c17 rfl, EvCall_closed H.c18 rfl, EvCall_closed H.c155 rfl, haw, hr, hr41, hw, ht]
      · have hse : (s == []) = false := by simpa using hse'
        by_cases hd : m + dp ≤ 32
        · have b1 := b1 hd
          rw [b1] at q0
          have d2 : decide ((32 : Int) < (m : Int) + (dp : Int)) = false := decide_eq_false (by omega)
          simp only [Psd.cs] at p0 q0
          generalize stepsV (madeT L).steps = sv' at *
          rw [hkk] at hw ht p0 q0 ne bl
          simp [f150, start, EvCall_closed H.c17 rfl, EvCall_closed H.c18 rfl, EvCall_closed H.c155 rfl, haw, hr, hr41, hw, ht, hse, d1, w2, w3]
          rw [bl _ _ (by simp [s150_0])]
          simp [x150_0, EvCall_closed H.c20 rfl, EvCall_closed H.c159 rfl, EvCall_closed H.c160 rfl, lA, lB, l1, l3, p0, q0, ne, w4, d2, sm, sc, push_setk]
        · obtain ⟨ps, b2⟩ := b2 (by omega)
          rw [b2] at q0
          have d2 : decide ((32 : Int) < (m : Int) + (dp : Int)) = true := decide_eq_true (by omega)
          simp only [Psd.cs, stepsV, List.isEmpty_nil, if_true] at p0 q0
          have e0 : (madeT L).steps.isEmpty = false := by
            cases hh : (madeT L).steps with
            | nil => rw [hh] at hsp; simp at hsp
            | cons => rfl
          have sc' : stepsV (madeT L).steps = .vs (if (madeT L).steps.length = 1 then .full else .shared) (madeT L).steps.length ((madeT L).steps.flatMap StepA.cs) := by unfold stepsV; rw [e0]; rfl
          rw [e0] at p0
          rw [if_neg (by decide), ← sc'] at p0
          generalize stepsV (madeT L).steps = sv' at *
          rw [hkk] at hw ht p0 q0 ne bl
          simp [f150, start, EvCall_closed H.c17 rfl, EvCall_closed H.c18 rfl, EvCall_closed H.c155 rfl, haw, hr, hr41, hw, ht, hse, d1, w2, w3]
          rw [bl _ _ (by simp [s150_0])]
          simp [x150_0, EvCall_closed H.c20 rfl, EvCall_closed H.c159 rfl, lA, lB, l1, l3, p0, q0, ne, w4, d2, sc, push_setk]
    · have hbd := P.len
      generalize ptext k (madeT L) = s at *
      have d1 : decide ((255 : Int) < (s.length : Int) + 2 * (m : Int)) = true := decide_eq_true (by omega)
      have w3 : IntKind.i64.wrap ((s.length : Int) + 2 * (m : Int)) = (s.length : Int) + 2 * (m : Int) := w64
      rw [hkk] at hw ht
      cases hse : (s == [])
      · have hse' : ¬ s = [] := by simpa using hse
        simp [f150, start, EvCall_closed H.c17 rfl, EvCall_closed H.c18 rfl, EvCall_closed H.c155 rfl, haw, hr, hr41, hw, ht, hse, d1, w2, w3]
      · simp [f150, start, EvCall_closed H.c17 rfl, EvCall_closed H.c18 rfl, EvCall_closed H.c155 rfl, haw, hr, hr41, hw, ht, hse]
end Go.Pv
