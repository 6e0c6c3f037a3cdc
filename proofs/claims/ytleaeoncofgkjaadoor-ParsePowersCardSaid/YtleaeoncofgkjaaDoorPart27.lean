/- Part 27 of the proof: what functions of the program come to. Conditions: none; definitions and theorems that the statement's proof uses. -/
import Derived.Test.YtleaeoncofgkjaaDoorPart26
/- What the statement ParsePowers comes to. Conditions: the functions' codes; theorems. -/
namespace Go.Pv
variable {E : Env} {x : Int}

theorem kind_digit (hx : isN x = true) {c : UInt8} (h : isDig c.toNat = true) : kind x c = 2 := by
  unfold kind kindS
  rw [if_pos hx]
  simp only [isDig, Bool.and_eq_true, decide_eq_true_eq] at h
  have h1 : isLet c.toNat = false := by
    simp only [isLet, Bool.or_eq_false_iff, Bool.and_eq_false_iff, decide_eq_false_iff_not, beq_eq_false_iff_ne]
    omega
  have h2 : isDig c.toNat = true := by simp [isDig]; omega
  have h0 : (c.toNat == 0) = false := by simp; omega
  rw [h0, h1, h2]
  rfl
theorem run_all (hx : isN x = true) : ∀ {d : List UInt8}, digits d → runL x 2 d = d.length
  | [], _ => rfl
  | c :: d, h => by
    have hk := kind_digit hx (h c List.mem_cons_self)
    have ih := run_all hx (d := d) fun a ha => h a (List.mem_cons_of_mem _ ha)
    simp [runL, hk, ih]
theorem next_digits (hx : isN x = true) {d : List UInt8} (hd : digits d) (hne : d ≠ []) {m : Nat} (hm : dvalF 0 d = m) (hb : m < 1000) : nextS x d = some (2, d, (m : Int), d.length) := by
  cases d with
  | nil => exact absurd rfl hne
  | cons c r =>
    have hk := kind_digit hx (hd c List.mem_cons_self)
    have hr := run_all hx hd
    have hn : numOf (c :: r) = some m := by
      unfold numOf
      rw [hm, if_pos (by rw [big_eq]; omega)]
    have ht : (c :: r).take (c :: r).length = c :: r := List.take_length
    simp [nextS, hk, hr, hn]
theorem lexF_nil (f p : Nat) : lexF x f [] p = ([], p) := by cases f <;> rfl
theorem lexF_some {f p : Nat} {s : List UInt8} {k n : Int} {t : List UInt8} {l : Nat} (h : nextS x s = some (k, t, n, l)) : lexF x (f + 1) s p = (⟨k, p, t, n⟩ :: (lexF x f (s.drop l) (p + l)).1, (lexF x f (s.drop l) (p + l)).2) := by
  simp [lexF, h]
theorem lexF_none {f p : Nat} {s : List UInt8} (h : nextS x s = none) : lexF x f s p = ([], p) := by
  cases f with
  | zero => rfl
  | succ f => simp [lexF, h]
theorem kind_m (hx : isN x = true) : kind x 109 = 1 := by
  unfold kind
  rw [if_pos hx]
  rfl
theorem kind_sign (hx : isN x = true) {c : UInt8} (hc : c = 43 ∨ c = 45) : kind x c = 3 := by
  unfold kind
  rw [if_pos hx]
  rcases hc with rfl | rfl <;> rfl
theorem kind_hat (hx : isN x = true) : kind x 94 = if (sty x).pow != 0 then 6 else 0 := by
  rcases isN_cases hx with rfl | rfl | rfl | rfl | rfl <;> rfl
theorem lex_m (hx : isN x = true) {r : List UInt8} (hr : ∀ c t, r = c :: t → (kind x c == 1) = false) : lexS x (109 :: r) = (⟨1, 0, raise x [109], 0⟩ :: (lexF x r.length r 1).1, (lexF x r.length r 1).2) := by
  have hk := kind_m hx
  have hrun : runL x 1 r = 0 := by
    cases r with
    | nil => rfl
    | cons c t =>
      have := hr c t rfl
      simp [runL, this]
  have h1 : runL x 1 (109 :: r) = 1 := by simp [runL, hk, hrun]
  have hn : nextS x (109 :: r) = some (1, raise x [109], 0, 1) := by simp [nextS, hk, h1]
  unfold lexS
  rw [List.length_cons, lexF_some hn]
  rfl
theorem lex_sign (hx : isN x = true) {c : UInt8} (hc : c = 43 ∨ c = 45) (d : List UInt8) (p : Nat) : lexF x (c :: d).length (c :: d) p = (⟨3, p, [c], 0⟩ :: (lexF x d.length d (p + 1)).1, (lexF x d.length d (p + 1)).2) := by
  have hn : nextS x (c :: d) = some (3, [c], 0, 1) := by simp [nextS, kind_sign hx hc]
  rw [List.length_cons, lexF_some hn]
  rfl
theorem lex_hat (hx : isN x = true) (hp : ((sty x).pow != 0) = true) (d : List UInt8) (p : Nat) : lexF x (94 :: d).length (94 :: d) p = (⟨6, p, [94], 0⟩ :: (lexF x d.length d (p + 1)).1, (lexF x d.length d (p + 1)).2) := by
  have hn : nextS x (94 :: d) = some (6, [94], 0, 1) := by simp [nextS, kind_hat hx, hp]
  rw [List.length_cons, lexF_some hn]
  rfl
theorem lex_nohat (hx : isN x = true) (hp : ((sty x).pow != 0) = false) (d : List UInt8) (p f : Nat) : lexF x f (94 :: d) p = ([], p) := by
  have hn : nextS x (94 :: d) = none := by simp [nextS, kind_hat hx, hp]
  exact lexF_none hn
theorem lex_num (hx : isN x = true) {d : List UInt8} (hd : digits d) (hne : d ≠ []) {m : Nat} (hm : dvalF 0 d = m) (hb : m < 1000) (p : Nat) : lexF x d.length d p = ([⟨2, p, d, m⟩], p + d.length) := by
  obtain ⟨f, hf⟩ : ∃ f, d.length = f + 1 := ⟨d.length - 1, by cases d with | nil => exact absurd rfl hne | cons c r => simp⟩
  have hn := next_digits hx hd hne hm hb
  rw [hf] at hn ⊢
  rw [lexF_some hn]
  have : d.drop (f + 1) = [] := by rw [← hf]; simp
  rw [this, lexF_nil]

/-! ### A symbol, and what stands behind it -/
variable {sz : Int} {inner : List Tok → Option Tok → Res (List StepA)}
def foundB (x : Int) (s : List UInt8) : Int × Int × Bool := findB (x - 1).toNat atomsT prefsT s
theorem sym_base {t : Tok} {r r' : List Tok} {n : Int} {u : Option Tok} (hk : t.kind = 1) (hp : powP ((sty x).pow != 0) sz r = .ok (n, r')) :
    itemP x sz inner (t :: r) u = noteP ([⟨2, (foundB x t.text).1, (foundB x t.text).2.1, n, 0, []⟩], r', unkP (foundB x t.text).2.2 t u) := by
  simp only [itemP, hk, itemB, baseP, symP, hp]
  rfl
theorem sym_bad {t : Tok} {r : List Tok} {e : PErr} {u : Option Tok} (hk : t.kind = 1) (hp : powP ((sty x).pow != 0) sz r = .error e) : itemP x sz inner (t :: r) u = .error e := by
  simp only [itemP, hk, itemB, baseP, symP, hp]
  rfl
theorem tree_sym {t : Tok} {r : List Tok} {n : Int} (hk : t.kind = 1) (hp : powP ((sty x).pow != 0) sz r = .ok (n, [])) (hf : (foundB x t.text).2.2 = true) :
    treeP x sz (t :: r) = ⟨[⟨2, (foundB x t.text).1, (foundB x t.text).2.1, n, 0, []⟩], 0, sz, 0⟩ := by
  have h5 : isT 5 (t :: r) = false := by simp [isT, hk]
  have hm : ∀ inner, mainP x sz inner (t :: r) none = .ok ([⟨2, (foundB x t.text).1, (foundB x t.text).2.1, n, 0, []⟩], [], none) := by
    intro inner
    unfold mainP
    simp only [h5, Bool.false_eq_true, if_false, sym_base hk hp, hf, noteP, unkP, Bool.not_true, Bool.false_and, List.length_nil]
    rfl
  unfold treeP
  rw [hm]
theorem tree_bad {t : Tok} {r : List Tok} {e : PErr} (hk : t.kind = 1) (hp : powP ((sty x).pow != 0) sz r = .error e) : treeP x sz (t :: r) = ⟨[], e.1, e.2, 0⟩ := by
  have h5 : isT 5 (t :: r) = false := by simp [isT, hk]
  have hm : ∀ inner, mainP x sz inner (t :: r) none = .error e := by
    intro inner
    unfold mainP
    simp only [h5, Bool.false_eq_true, if_false, sym_bad hk hp]
  unfold treeP
  rw [hm]
theorem tree_left {t k : Tok} {r m : List Tok} {n : Int} (hk : t.kind = 1) (hp : powP ((sty x).pow != 0) sz r = .ok (n, k :: m)) (h4 : (k.kind == 4) = false) (h5' : (k.kind == 5) = false) (h9 : (k.kind == 9) = false) : treeP x sz (t :: r) = ⟨[], 14, k.pos, 0⟩ := by
  have h5 : isT 5 (t :: r) = false := by simp [isT, hk]
  have hm : ∀ inner, ∃ tt u, mainP x sz inner (t :: r) none = .ok (tt, k :: m, u) := by
    intro inner
    unfold mainP
    simp only [h5, Bool.false_eq_true, if_false, sym_base hk hp, noteP, h9, List.length_cons, loopP, h4, h5', Bool.or_self]
    exact ⟨_, _, rfl⟩
  obtain ⟨tt, u, hm⟩ := hm (levelP x sz 32)
  unfold treeP
  rw [hm]
theorem found_m (hx : isN x = true) : (foundB x (raise x [109])).2.2 = true := by
  rcases isN_cases hx with rfl | rfl | rfl | rfl | rfl <;> decide +kernel
/-- What a sign makes of a number. -/
def signed (sg : List UInt8) (m : Nat) : Int := if sg == [45] then -(m : Int) else m
theorem num_toks (m p : Nat) (d : List UInt8) : numP sz 0 99 [⟨2, p, d, m⟩] = if m ≤ 99 then .ok ((m : Int), []) else .error (14, (p : Int)) := by
  have h1 : decide ((0 : Int) ≤ (m : Int)) = true := decide_eq_true (by omega)
  by_cases h : m ≤ 99
  · have h2 : decide ((m : Int) ≤ 99) = true := decide_eq_true (by omega)
    simp [numP, h2, h]
  · have h2 : decide ((m : Int) ≤ 99) = false := decide_eq_false (by omega)
    simp [numP, h2, h]
/-- The sign's tokens, if there is one. -/
def sgToks (sg : List UInt8) (p : Nat) : List Tok := if sg.isEmpty then [] else [⟨3, p, sg, 0⟩]
theorem lex_sg (hx : isN x = true) {sg d : List UInt8} (hsg : sg = [] ∨ sg = [43] ∨ sg = [45]) (hd : digits d) (hne : d ≠ []) {m : Nat} (hm : dvalF 0 d = m) (hb : m < 1000) (p : Nat) :
    lexF x (sg ++ d).length (sg ++ d) p = (sgToks sg p ++ [⟨2, (p + sg.length : Nat), d, m⟩], p + sg.length + d.length) := by
  rcases hsg with rfl | rfl | rfl
  · simpa [sgToks] using lex_num hx hd hne hm hb p
  · have := lex_sign hx (c := 43) (.inl rfl) d p
    rw [lex_num hx hd hne hm hb (p + 1)] at this
    simpa [sgToks] using this
  · have := lex_sign hx (c := 45) (.inr rfl) d p
    rw [lex_num hx hd hne hm hb (p + 1)] at this
    simpa [sgToks] using this
theorem powN_sg {sg d : List UInt8} (hsg : sg = [] ∨ sg = [43] ∨ sg = [45]) (m p q : Nat) : powN sz (sgToks sg p ++ [⟨2, q, d, m⟩]) = if m ≤ 99 then .ok (signed sg m, []) else .error (14, (q : Int)) := by
  rcases hsg with rfl | rfl | rfl
  · have := num_toks (sz := sz) m q d
    simp only [sgToks, List.isEmpty_nil, if_true, List.nil_append, powN]
    rw [if_neg (by decide), this]
    simp [signed]
  · have := num_toks (sz := sz) m q d
    simp only [sgToks, List.isEmpty_cons, Bool.false_eq_true, if_false, List.singleton_append, powN]
    rw [if_pos (by decide), this]
    by_cases h : m ≤ 99 <;> simp [h, signed]
  · have := num_toks (sz := sz) m q d
    simp only [sgToks, List.isEmpty_cons, Bool.false_eq_true, if_false, List.singleton_append, powN]
    rw [if_pos (by decide), this]
    by_cases h : m ≤ 99 <;> simp [h, signed]
theorem sg_head {sg d : List UInt8} (hx : isN x = true) (hsg : sg = [] ∨ sg = [43] ∨ sg = [45]) (hd : digits d) (hne : d ≠ []) : ∀ c t, sg ++ d = c :: t → (kind x c == 1) = false := by
  intro c t h
  rcases hsg with rfl | rfl | rfl
  · cases d with
    | nil => exact absurd rfl hne
    | cons a d =>
      cases h
      rw [kind_digit hx (hd c List.mem_cons_self)]
      rfl
  · cases h
    rw [kind_sign hx (.inl rfl)]
    rfl
  · cases h
    rw [kind_sign hx (.inr rfl)]
    rfl
theorem toks_head {sg d : List UInt8} (hsg : sg = [] ∨ sg = [43] ∨ sg = [45]) (p q : Nat) (m : Int) : ∃ k l, sgToks sg p ++ [(⟨2, q, d, m⟩ : Tok)] = k :: l ∧ (k.kind = 3 ∨ k.kind = 2) ∧ (sg = [] → k.pos = q) ∧ (sg ≠ [] → k.pos = p) := by
  rcases hsg with rfl | rfl | rfl
  · exact ⟨_, _, rfl, .inr rfl, fun _ => rfl, fun h => absurd rfl h⟩
  · exact ⟨_, _, rfl, .inl rfl, (fun h => by cases h), fun _ => rfl⟩
  · exact ⟨_, _, rfl, .inl rfl, (fun h => by cases h), fun _ => rfl⟩
/-- A symbol, its power as the notation has it. -/
theorem powers_right (hx : isN x = true) {sg d : List UInt8} (hsg : sg = [] ∨ sg = [43] ∨ sg = [45]) (hd : digits d) (hne : d ≠ []) {m : Nat} (hm : dvalF 0 d = m) (hb : m < 1000) (hl : d.length ≤ 20) (hat : List UInt8) (hhat : hat = if (sty x).pow != 0 then [94] else []) :
    parseP x (109 :: (hat ++ (sg ++ d))) = if m ≤ 99 then ⟨[⟨2, (foundB x (raise x [109])).1, (foundB x (raise x [109])).2.1, signed sg m, 0, []⟩], 0, ((109 :: (hat ++ (sg ++ d))).length : Nat), 0⟩ else ⟨[], 14, (1 + hat.length + sg.length : Nat), 0⟩ := by
  have hsl : sg.length ≤ 1 := by rcases hsg with rfl | rfl | rfl <;> simp
  unfold parseP
  rw [if_pos hx]
  cases hp : (sty x).pow != 0 with
  | false =>
    rw [hp] at hhat
    simp only [Bool.false_eq_true, if_false] at hhat
    subst hhat
    simp only [List.nil_append]
    have hlx := lex_m hx (sg_head hx hsg hd hne)
    rw [lex_sg hx hsg hd hne hm hb] at hlx
    simp only at hlx
    have hlen : (109 :: (sg ++ d)).length ≤ 255 := by simp; omega
    have hend : ¬ (1 + sg.length + d.length < (109 :: (sg ++ d)).length) := by simp; omega
    rw [if_pos hlen, hlx]
    simp only [if_neg hend]
    have hN := powN_sg (sz := ((109 :: (sg ++ d)).length : Nat)) (d := d) hsg m 1 (1 + sg.length)
    obtain ⟨k, l, e1, e2, _, _⟩ := toks_head (d := d) hsg 1 (1 + sg.length) (m : Int)
    have hP : powP ((sty x).pow != 0) ((109 :: (sg ++ d)).length : Nat) (sgToks sg 1 ++ [⟨2, (1 + sg.length : Nat), d, m⟩]) = powN ((109 :: (sg ++ d)).length : Nat) (sgToks sg 1 ++ [⟨2, (1 + sg.length : Nat), d, m⟩]) := by
      rw [hp]
      have : (isT 3 (sgToks sg 1 ++ [⟨2, (1 + sg.length : Nat), d, m⟩]) || isT 2 (sgToks sg 1 ++ [⟨2, (1 + sg.length : Nat), d, m⟩])) = true := by
        rw [e1]
        rcases e2 with e2 | e2 <;> simp [isT, e2]
      unfold powP
      rw [if_neg (by decide), if_pos this]
    rw [hN] at hP
    by_cases h : m ≤ 99
    · rw [if_pos h] at hP ⊢
      exact tree_sym rfl hP (found_m hx)
    · rw [if_neg h] at hP ⊢
      rw [tree_bad rfl hP]
      simp
  | true =>
    rw [hp] at hhat
    simp only [if_true] at hhat
    subst hhat
    have hlx := lex_m hx (r := 94 :: (sg ++ d)) (fun c t h => by cases h; rw [kind_hat hx, hp]; rfl)
    rw [lex_hat hx hp, lex_sg hx hsg hd hne hm hb] at hlx
    simp only at hlx
    have hlen : (109 :: ([94] ++ (sg ++ d))).length ≤ 255 := by simp; omega
    have hend : ¬ (1 + 1 + sg.length + d.length < (109 :: ([94] ++ (sg ++ d))).length) := by simp; omega
    have hlx' : lexS x (109 :: ([94] ++ (sg ++ d))) = _ := hlx
    rw [if_pos hlen, hlx']
    simp only [if_neg hend]
    have hN := powN_sg (sz := ((109 :: ([94] ++ (sg ++ d))).length : Nat)) (d := d) hsg m 2 (2 + sg.length)
    have hP : powP ((sty x).pow != 0) ((109 :: ([94] ++ (sg ++ d))).length : Nat) (⟨6, (1 : Nat), [94], 0⟩ :: (sgToks sg (1 + 1) ++ [⟨2, (1 + 1 + sg.length : Nat), d, m⟩])) = powN ((109 :: ([94] ++ (sg ++ d))).length : Nat) (sgToks sg 2 ++ [⟨2, (2 + sg.length : Nat), d, m⟩]) := by
      rw [hp]
      rfl
    rw [hN] at hP
    by_cases h : m ≤ 99
    · rw [if_pos h] at hP ⊢
      exact tree_sym rfl hP (found_m hx)
    · rw [if_neg h] at hP ⊢
      rw [tree_bad rfl hP]
      simp
/-- A symbol, its power as no notation of that kind has it. -/
theorem powers_wrong (hx : isN x = true) {sg d : List UInt8} (hsg : sg = [] ∨ sg = [43] ∨ sg = [45]) (hd : digits d) (hne : d ≠ []) {m : Nat} (hm : dvalF 0 d = m) (hb : m < 1000) (hl : d.length ≤ 20) (hat : List UInt8) (hhat : hat = if (sty x).pow != 0 then [] else [94]) :
    parseP x (109 :: (hat ++ (sg ++ d))) = ⟨[], 14, 1, 0⟩ := by
  have hsl : sg.length ≤ 1 := by rcases hsg with rfl | rfl | rfl <;> simp
  unfold parseP
  rw [if_pos hx]
  cases hp : (sty x).pow != 0 with
  | true =>
    rw [hp] at hhat
    simp only [if_true] at hhat
    subst hhat
    simp only [List.nil_append]
    have hlx := lex_m hx (sg_head hx hsg hd hne)
    rw [lex_sg hx hsg hd hne hm hb] at hlx
    simp only at hlx
    have hlen : (109 :: (sg ++ d)).length ≤ 255 := by simp; omega
    have hend : ¬ (1 + sg.length + d.length < (109 :: (sg ++ d)).length) := by simp; omega
    rw [if_pos hlen, hlx]
    simp only [if_neg hend]
    obtain ⟨k, l, e1, e2, e3, e4⟩ := toks_head (d := d) hsg 1 (1 + sg.length) (m : Int)
    rw [e1]
    have hP : powP ((sty x).pow != 0) ((109 :: (sg ++ d)).length : Nat) (k :: l) = .ok (1, k :: l) := by
      have : isT 6 (k :: l) = false := by rcases e2 with e2 | e2 <;> simp [isT, e2]
      rw [hp]
      unfold powP
      rw [if_pos rfl, this]
      rfl
    have hkp : k.pos = 1 := by
      by_cases hs : sg = []
      · rw [e3 hs, hs]; rfl
      · rw [e4 hs]; rfl
    rw [tree_left rfl hP (by rcases e2 with e2 | e2 <;> simp [e2]) (by rcases e2 with e2 | e2 <;> simp [e2]) (by rcases e2 with e2 | e2 <;> simp [e2]), hkp]
  | false =>
    rw [hp] at hhat
    simp only [Bool.false_eq_true, if_false] at hhat
    subst hhat
    have hlx := lex_m hx (r := 94 :: (sg ++ d)) (fun c t h => by cases h; rw [kind_hat hx, hp]; rfl)
    rw [lex_nohat hx hp] at hlx
    simp only at hlx
    have hlen : (109 :: ([94] ++ (sg ++ d))).length ≤ 255 := by simp; omega
    have hend : 1 < (109 :: ([94] ++ (sg ++ d))).length := by simp
    have hlx' : lexS x (109 :: ([94] ++ (sg ++ d))) = _ := hlx
    rw [if_pos hlen, hlx']
    simp only [if_pos hend]
    have hP : powP ((sty x).pow != 0) ((109 :: ([94] ++ (sg ++ d))).length : Nat) [⟨0, (1 : Nat), [], 0⟩] = .ok (1, [⟨0, (1 : Nat), [], 0⟩]) := by
      rw [hp]
      rfl
    exact tree_left (k := ⟨0, (1 : Nat), [], 0⟩) rfl hP rfl rfl rfl
theorem m_ok (hx : isN x = true) : (parseP x [109]).err = 0 := by
  unfold parseP
  rw [if_pos hx, if_pos (by decide), lex_m hx (fun c t h => by cases h)]
  have hP : powP ((sty x).pow != 0) ([109] : List UInt8).length [] = .ok (1, []) := by
    cases (sty x).pow != 0 <;> rfl
  show (treeP x ([109] : List UInt8).length [⟨1, 0, raise x [109], 0⟩]).err = 0
  rw [tree_sym rfl hP (found_m hx)]
end Go.Pv
/- What the statement ParsePowers comes to: the law's code. Conditions: the functions' codes; theorems. -/
namespace Go.Pv
variable {E : Env} {x : Int}

theorem rest18_eq (H : Has 18 E) {x m : Int} (hm : 0 < m) (hm2 : m < 1000000) : EvClosed E (.fn (.func 18) [] []) [.int .i64 x, .int .i64 m] = some (.int .i64 (x % m)) := by
  rw [EvClosed_eq H.c18 rfl (vs := [.int .i64 x, .int .i64 m]) (by simp), EvFn_eq]
  have h0 : m ≠ 0 := by omega
  have hb : -m < x.tmod m ∧ x.tmod m < m := ⟨Int.lt_tmod_of_pos x hm, Int.tmod_lt_of_pos x hm⟩
  have hw : IntKind.i64.wrap (x.tmod m + m) = x.tmod m + m := w64
  have he : (x.tmod m + m).tmod m = x % m := by
    have h1 : (x.tmod m + m).tmod m = (x.tmod m + m) % m := Int.tmod_eq_emod_of_nonneg (by omega)
    rw [h1, Int.add_emod_right]
    have h3 : x.tmod m = x - m * x.tdiv m := by have := Int.mul_tdiv_add_tmod x m; omega
    rw [h3, Int.sub_mul_emod_self_left]
  simp [f18, start, h0, hw, he]
theorem aw_a : parseP 1 [47, 109, 46, 115, 45, 50] = ⟨[⟨2, -1, 0, 1, 0, []⟩, ⟨5, -1, 0, 0, 0, []⟩, ⟨2, -1, 1, -2, 0, []⟩, ⟨3, -1, 0, 0, 0, []⟩], 0, 6, 0⟩ := by decide +kernel
theorem aw_b : parseP 1 [109, 41] = ⟨[], 14, 1, 0⟩ := by decide +kernel
theorem aw_c : parseP 1 [109, 103, 47, 120, 121, 122] = ⟨[], 15, 3, 3⟩ := by decide +kernel
set_option maxHeartbeats 1000000 in
theorem awake17_eq (H : Has 17 E) : EvClosed E (.fn (.func 17) [] []) [] = some (.bool true) := by
  rw [EvClosed_eq H.c17 rfl (vs := []) (by simp), EvFn_eq]
  have h1 := parse_eq (H.to 20) 1 [47, 109, 46, 115, 45, 50] (by simp)
  have h2 := parse_eq (H.to 20) 1 [109, 41] (by simp)
  have h3 := parse_eq (H.to 20) 1 [109, 103, 47, 120, 121, 122] (by simp)
  rw [aw_a] at h1
  rw [aw_b] at h2
  rw [aw_c] at h3
  simp only [Psd.cs, stepsV, StepA.cs] at h1 h2 h3
  simp [StepA.cs] at h1 h2 h3
  simp [f17, start, EvCall_closed H.c20 rfl, h1, h2, h3, push_set, push_setk]
end Go.Pv
namespace Go.Pv
variable {E : Env}
theorem bytes3 (a b c : UInt8) : bytesOf [b8 a, b8 b, b8 c] = some [a, b, c] := by simp [bytesOf]
/-- What the law's code has of the functions that it calls. -/
structure PowIn (E : Env) (n power q0 q1 k : Int) (m i z : Nat) (c2 c1 c0 : UInt8) (dg : List UInt8) (y : Sty) : Prop where
  h17 : EvClosed E (.fn (.func 17) [] []) [] = some (.bool true)
  hn : EvClosed E (.fn (.func 18) [] []) [.int .i64 n, .int .i64 5] = some (.int .i64 (n % 5))
  hk : IntKind.i64.wrap (1 + n % 5) = k
  hm : EvClosed E (.fn (.func 18) [] []) [.int .i64 power, .int .i64 201] = some (.int .i64 m)
  hi : EvClosed E (.fn (.func 18) [] []) [.int .i64 q0, .int .i64 3] = some (.int .i64 i)
  hz : EvClosed E (.fn (.func 18) [] []) [.int .i64 q1, .int .i64 4] = some (.int .i64 z)
  z3 : z ≤ 3
  d2 : IntKind.u8.wrap (IntKind.i64.wrap (48 + IntKind.i64.wrap ((m : Int) / 100))) = c2.toNat
  d1 : IntKind.u8.wrap (IntKind.i64.wrap (48 + (IntKind.i64.wrap ((m : Int) / 10)).tmod 10)) = c1.toNat
  d0 : IntKind.u8.wrap (IntKind.i64.wrap (48 + (m : Int).tmod 10)) = c0.toNat
  hdg : List.take z [48, 48, 48] ++ [c2, c1, c0] = dg
  hlen : dg.length ≤ 6
  hst : EvClosed E (.fn (.func 19) [] []) [.int .i64 k] = some (.agg [.bool y.fold, b8 y.mul, b8 y.div, b8 y.pow, b8 y.opn, b8 y.cls])
end Go.Pv
