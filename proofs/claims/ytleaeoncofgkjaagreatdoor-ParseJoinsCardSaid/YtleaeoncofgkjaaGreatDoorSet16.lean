/- A part of the proof: functions of the program in the evaluator's code, and what they come to. Conditions: none; definitions and theorems that the statement's proof uses. -/
import Derived.Test.YtleaeoncofgkjaaGreatDoorSet15
import Derived.Test.YtleaeoncofgkjaaGreatDoorSet14
/- ParseEnds is true. Conditions: the functions' codes; theorems. -/
namespace Go.Pv
variable {E : Env} {x sz : Int}
structure Prt (x : Int) (t : Tr) : Prop where
  n : isN x = true
  ok : TrOk t
  fits : t.fits
  told : t.told x
  deep : t.deep ≤ 31
  len : (ptext x t).length ≤ 255
theorem made_deep (L : List Int) : (madeT L).deep ≤ 31 := by
  have h1 := madeI_size 4 (L.take 120)
  have h2 := deep_le (madeT L)
  simp only [madeT] at h2 ⊢
  omega
theorem printD_cases (hx : isN x = true) (L : List Int) : (printD x (madeT L)).1 = [] ∨ ((printD x (madeT L)).1 = ptext x (madeT L) ∧ Prt x (madeT L)) := by
  obtain ⟨k1, k2, k3⟩ := madeT_ok L
  have hd := made_deep L
  unfold printD
  cases h : missD x (madeT L).steps 0 with
  | some ie => exact .inl rfl
  | none =>
    simp only
    rw [if_neg (by omega)]
    split
    · exact .inl rfl
    · exact .inr ⟨rfl, hx, k1, k2, told_of _ _ h, hd, by omega⟩
theorem Prt.parse {t : Tr} (P : Prt x t) : parseP x (ptext x t) = ⟨t.steps, 0, (ptext x t).length, 0⟩ := parse_print P.n P.ok P.fits P.told (by have := P.deep; omega) P.len
theorem Prt.main {t : Tr} (P : Prt x t) (sz : Int) : MainOk x sz t := (tree_ok P.ok P.fits P.told).1
theorem Prt.lex {t : Tr} (P : Prt x t) {q : List UInt8} (hq : NJ x q) (p : Nat) : ∃ ts, TokT x t ts ∧ lexG x (ptext x t ++ q) p = (ts ++ (lexG x q (p + (ptext x t).length)).1, (lexG x q (p + (ptext x t).length)).2) := lx_tree P.n P.ok P.fits P.told q p hq
theorem parse_of {s : List UInt8} {ts : List Tok} (hx : isN x = true) (hl : s.length ≤ 255) (h : lexG x s 0 = (ts, s.length)) : parseP x s = treeP x s.length ts := by
  have h' : lexS x s = (ts, s.length) := h
  unfold parseP
  rw [if_pos hx, if_pos hl, h']
  simp only [Nat.lt_irrefl, if_false]
theorem parse_of_odd {s : List UInt8} {ts : List Tok} {e : Nat} (hx : isN x = true) (hl : s.length ≤ 255) (h : lexG x s 0 = (ts, e)) (he : e < s.length) : parseP x s = treeP x s.length (ts ++ [⟨0, e, [], 0⟩]) := by
  have h' : lexS x s = (ts, e) := h
  unfold parseP
  rw [if_pos hx, if_pos hl, h']
  simp only [he, if_true]
theorem nj_one (hx : isN x = true) : NJ x [41] ∧ NJ x [(sty x).mul] ∧ NJ x [32] := by
  have h32 : kind x 32 = 0 := by rcases isN_cases hx with rfl | rfl | rfl | rfl | rfl <;> decide
  obtain ⟨k4, _, _, k8, _⟩ := kind_bytes hx
  exact ⟨NJ.cons (by rw [k8]; decide) (by rw [k8]; decide), NJ.cons (by rw [k4]; decide) (by rw [k4]; decide), NJ.cons (by rw [h32]; decide) (by rw [h32]; decide)⟩
theorem stopI_mk {k p n : Int} {w : List UInt8} {rest : List Tok} (h : k ≠ 2 ∧ k ≠ 3 ∧ k ≠ 6 ∧ k ≠ 9) : StopI (⟨k, p, w, n⟩ :: rest) := stopI_cons h.1 h.2.1 h.2.2.1 h.2.2.2
theorem base_open {r : Nat} {k : Tok} {l : List Tok} {u : Option Tok} (hk : k.kind = 7) : baseP x sz (levelP x sz (r + 1)) (k :: l) u = match mainP x sz (levelP x sz r) l u with | .ok q => closeP sz q | .error e => .error e := by
  have e : baseP x sz (levelP x sz (r + 1)) (k :: l) u = levelP x sz (r + 1) (k :: l) u := by simp only [baseP, hk]; rfl
  rw [e]
  rfl
theorem ends_close {t : Tr} (P : Prt x t) (hl : (ptext x t).length ≤ 250) : parseP x (ptext x t ++ [41]) = ⟨[], 14, (ptext x t).length, 0⟩ := by
  obtain ⟨ts, hts, e⟩ := P.lex (nj_one P.n).1 0
  obtain ⟨_, _, _, k8, _⟩ := kind_bytes P.n
  rw [lx_one k8 (by decide), lexG_nil, Nat.zero_add] at e
  rw [parse_of P.n (by rw [List.length_append]; simp; omega) (ts := ts ++ [⟨8, (ptext x t).length, [41], 0⟩]) (by rw [e]; simp)]
  have h := (P.main (((ptext x t ++ [41]).length : Nat) : Int)) 32 ts [⟨8, (ptext x t).length, [41], 0⟩] none hts (stopI_mk (by decide))
  have h1 := h.1 (by have := P.deep; omega)
  rw [loopG_stop rfl rfl] at h1
  simp only [treeP, h1]
theorem ends_mul {t : Tr} (P : Prt x t) (hl : (ptext x t).length ≤ 250) : parseP x (ptext x t ++ [(sty x).mul]) = ⟨[], 14, (ptext x t).length + 1, 0⟩ := by
  obtain ⟨ts, hts, e⟩ := P.lex (nj_one P.n).2.1 0
  obtain ⟨k4, _⟩ := kind_bytes P.n
  rw [lx_one k4 (by decide), lexG_nil, Nat.zero_add] at e
  rw [parse_of P.n (by rw [List.length_append]; simp; omega) (ts := ts ++ [⟨4, (ptext x t).length, [(sty x).mul], 0⟩]) (by rw [e]; simp)]
  have h := (P.main (((ptext x t ++ [(sty x).mul]).length : Nat) : Int)) 32 ts [⟨4, (ptext x t).length, [(sty x).mul], 0⟩] none hts (stopI_mk (by decide))
  have h1 := h.1 (by have := P.deep; omega)
  rw [loopG_err (.inl rfl) (e := (14, (((ptext x t ++ [(sty x).mul]).length : Nat) : Int))) rfl] at h1
  simp only [treeP, h1]
  simp
theorem ends_open {t : Tr} (P : Prt x t) (hl : (ptext x t).length ≤ 250) : parseP x (40 :: ptext x t) = ⟨[], 14, (ptext x t).length + 1, 0⟩ := by
  obtain ⟨ts, hts, e⟩ := P.lex NJ.nil 1
  obtain ⟨_, _, k7, _⟩ := kind_bytes P.n
  rw [List.append_nil, lexG_nil, List.append_nil] at e
  rw [parse_of P.n (by simp; omega) (ts := ⟨7, 0, [40], 0⟩ :: ts) (by rw [lx_one k7 (by decide), Nat.zero_add, e]; simp; omega)]
  have h := (P.main (((40 :: ptext x t).length : Nat) : Int)) 31 ts [] none hts stopI_nil
  have h1 := h.1 P.deep
  rw [loopG_stop rfl rfl, List.append_nil] at h1
  have hb : baseP x (((40 :: ptext x t).length : Nat) : Int) (levelP x (((40 :: ptext x t).length : Nat) : Int) 32) (⟨7, 0, [40], 0⟩ :: ts) none = .error (14, (((40 :: ptext x t).length : Nat) : Int)) := by
    rw [base_open rfl, h1]
    rfl
  have hm := main_err (x := x) (sz := (((40 :: ptext x t).length : Nat) : Int)) (l := ⟨7, 0, [40], 0⟩ :: ts) rfl (item_err rfl hb)
  simp only [treeP, hm]
  simp
theorem ends_space {t : Tr} (P : Prt x t) (hl : (ptext x t).length ≤ 250) : parseP x (ptext x t ++ [32]) = ⟨[], 14, (ptext x t).length, 0⟩ := by
  obtain ⟨ts, hts, e⟩ := P.lex (nj_one P.n).2.2 0
  have h32 : kind x 32 = 0 := by rcases isN_cases P.n with rfl | rfl | rfl | rfl | rfl <;> decide
  rw [lexG_none (s := [32]) (by simp [nextS, h32]), List.append_nil, Nat.zero_add] at e
  rw [parse_of_odd P.n (by rw [List.length_append]; simp; omega) e (by simp)]
  have h := (P.main (((ptext x t ++ [32]).length : Nat) : Int)) 32 ts [⟨0, (ptext x t).length, [], 0⟩] none hts (stopI_mk (by decide))
  have h1 := h.1 (by have := P.deep; omega)
  rw [loopG_stop rfl rfl] at h1
  simp only [treeP, h1]
set_option maxHeartbeats 4000000 in
set_option maxRecDepth 20000 in
theorem parseEnds_eq (H : Has 152 E) (n : Int) {v : AV} {L : List Int} (hv : IntsV v L) : EvClosed E (.fn (.func 152) [] []) [.int .i64 n, v] = some (.bool true) := by
  obtain ⟨v', sv, hv'⟩ := ints_shut hv
  rw [EvClosed_eq H.c152 rfl (vs := [.int .i64 n, v']) (by simp [sv]), EvFn_eq]
  have hk : 1 ≤ 1 + n % 5 ∧ 1 + n % 5 ≤ 5 := by omega
  have hw : IntKind.i64.wrap (1 + n % 5) = 1 + n % 5 := w64
  have hr := rest18_eq (H.to 18) (x := n) (m := 5) (by omega) (by omega)
  generalize n % 5 = r at *
  have hkk : ∃ k, k = 1 + r := ⟨_, rfl⟩
  obtain ⟨k, hkk⟩ := hkk
  rw [← hkk] at hk hw
  have hn : isN k = true := by simp [isN, hk]
  have haw := awake17_eq (H.to 17)
  have ht := text155_eq (H.to 155) hn hv'
  have ho := refOf_eq (H.to 19) k
  simp only [Sty.cs] at ho
  have pe := fun s hs => parse_eq (H.to 20) k s hs
  rcases printD_cases hn L with h0 | ⟨h0, P⟩
  · rw [h0] at ht
    rw [hkk] at hw ht
    simp [f152, start, EvCall_closed H.c17 rfl, EvCall_closed H.c18 rfl, EvCall_closed H.c155 rfl, haw, hr, hw, ht]
  · rw [h0] at ht
    by_cases hl : (ptext k (madeT L)).length ≤ 250
    · have p1 := pe (ptext k (madeT L) ++ [41]) (by rw [List.length_append]; simp; omega)
      have p2 := pe (ptext k (madeT L) ++ [(sty k).mul]) (by rw [List.length_append]; simp; omega)
      have p3 := pe (40 :: ptext k (madeT L)) (by simp; omega)
      have p4 := pe (ptext k (madeT L) ++ [32]) (by rw [List.length_append]; simp; omega)
      rw [ends_close P hl] at p1
      rw [ends_mul P hl] at p2
      rw [ends_open P hl] at p3
      rw [ends_space P hl] at p4
      simp only [Psd.cs, stepsV, List.isEmpty_nil, if_true] at p1 p2 p3 p4
      have hb := bytes1 (sty k).mul
      generalize ptext k (madeT L) = s at *
      generalize (sty k).mul = mu at *
      have d1 : decide ((250 : Int) < (s.length : Int)) = false := decide_eq_false (by omega)
      have l1 : s.length + 1 ≤ 9223372036854775807 := by omega
      have l2 : 1 + s.length ≤ 9223372036854775807 := by omega
      have w1 : IntKind.i64.wrap ((s.length : Int) + 1) = (s.length : Int) + 1 := w64
      rw [hkk] at hw ht ho p1 p2 p3 p4
      cases hse : (s == [])
      · have hse' : ¬ s = [] := by simpa using hse
        simp [f152, start, EvCall_closed H.c17 rfl, EvCall_closed H.c18 rfl, EvCall_closed H.c19 rfl, EvCall_closed H.c20 rfl, EvCall_closed H.c155 rfl, haw, hr, hw, ht, ho, hse, d1, l1, l2, w1, hb, p1, p2, p3, p4, push_setk]
      · simp [f152, start, EvCall_closed H.c17 rfl, EvCall_closed H.c18 rfl, EvCall_closed H.c155 rfl, haw, hr, hw, ht, hse]
    · generalize ptext k (madeT L) = s at *
      have d1 : decide ((250 : Int) < (s.length : Int)) = true := decide_eq_true (by omega)
      rw [hkk] at hw ht
      cases hse : (s == [])
      · have hse' : ¬ s = [] := by simpa using hse
        simp [f152, start, EvCall_closed H.c17 rfl, EvCall_closed H.c18 rfl, EvCall_closed H.c155 rfl, haw, hr, hw, ht, hse, d1]
      · simp [f152, start, EvCall_closed H.c17 rfl, EvCall_closed H.c18 rfl, EvCall_closed H.c155 rfl, haw, hr, hw, ht, hse]
end Go.Pv
