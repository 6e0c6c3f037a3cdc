/- Part 26 of the proof: what functions of the program come to. Conditions: none; definitions and theorems that the statement's proof uses. -/
import Derived.Test.YtleaeoncofgkjaaDoorPart25
import Derived.Test.YtleaeoncofgkjaaDoorPart12
import Derived.Test.YtleaeoncofgkjaaDoorPart20
/- What the statement LegalRanks comes to. Conditions: the functions' codes; theorems. -/
namespace Go.Pv
variable {E : Env}

/-- What ranks has of the functions that it calls. -/
structure RanksIn (E : Env) (n : Int) (s : List UInt8) (a b k : Int) (m : Nat) (cs : List AV) (rs p t ra rb : Int) (is_ : Bool) (ta tb : List UInt8) : Prop where
  h8 : EvClosed E (.fn (.func 8) [] []) [] = some (.bool true)
  hn : EvClosed E (.fn (.func 10) [] []) [.int .i64 n, .int .i64 5] = some (.int .i64 (n % 5))
  hk : IntKind.i64.wrap (1 + n % 5) = k
  h11 : EvClosed E (.fn (.func 11) [] []) [.int .i64 k] = some (.vs .shared m cs)
  h12 : EvClosed E (.fn (.func 12) [] []) [.int .i64 k, .str s] = some (.tuple [.int .i64 rs, .bool is_])
  h13 : EvClosed E (.fn (.func 13) [] []) [.int .i64 k, .str s] = some (.tuple [.int .i64 p, .int .i64 t, .bool is_])
  ha : EvClosed E (.fn (.func 10) [] []) [.int .i64 a, .int .i64 m] = some (.int .i64 ra)
  hb : EvClosed E (.fn (.func 10) [] []) [.int .i64 b, .int .i64 m] = some (.int .i64 rb)
  h14a : EvClosed E (.fn (.func 14) [] []) [.int .i64 k, .int .i64 ra] = some (.tuple [.str ta, .bool true])
  h14b : EvClosed E (.fn (.func 14) [] []) [.int .i64 k, .int .i64 rb] = some (.tuple [.str tb, .bool true])
  h12a : EvClosed E (.fn (.func 12) [] []) [.int .i64 k, .str ta] = some (.tuple [.int .i64 ra, .bool true])
  hm : ¬ (m : Int) < 300
  he : ((ta == tb) == (ra == rb)) = true
set_option maxRecDepth 10000 in
set_option maxHeartbeats 1000000 in
theorem ranks_short (H : Has 4 E) {n a b k : Int} {s : List UInt8} {m : Nat} {cs : List AV} {rs p t ra rb : Int} {is_ : Bool} {ta tb : List UInt8} (R : RanksIn E n s a b k m cs rs p t ra rb is_ ta tb) (hs : s.length ≤ 16) :
    EvClosed E (.fn (.func 4) [] []) [.int .i64 n, .str s, .agg [.int .i64 a, .int .i64 b]] = some (.bool true) := by
  rw [EvClosed_eq H.c4 rfl (vs := [.int .i64 n, .str s, .agg [.int .i64 a, .int .i64 b]]) (by simp), EvFn_eq]
  obtain ⟨h8, hn, hk, h11, h12, h13, ha, hb, h14a, h14b, h12a, hm, he⟩ := R
  have hsl : decide (16 < (s.length : Int)) = false := decide_eq_false (by omega)
  have hml : decide ((m : Int) < 300) = false := decide_eq_false hm
  simp [f4, start, EvCall_closed H.c8 rfl, EvCall_closed H.c10 rfl, EvCall_closed H.c11 rfl, EvCall_closed H.c12 rfl, EvCall_closed H.c13 rfl, EvCall_closed H.c14 rfl, h8, hn, hk, h11, h12, h13, ha, hb, h14a, h14b, h12a, hm, hsl, hml, he]
set_option maxRecDepth 10000 in
set_option maxHeartbeats 1000000 in
theorem ranks_long (H : Has 4 E) {n a b k : Int} {s : List UInt8} {m : Nat} {cs : List AV} {rs p t ra rb : Int} {is_ : Bool} {ta tb : List UInt8} (R : RanksIn E n (s.take 16) a b k m cs rs p t ra rb is_ ta tb) (hs : 16 < s.length) :
    EvClosed E (.fn (.func 4) [] []) [.int .i64 n, .str s, .agg [.int .i64 a, .int .i64 b]] = some (.bool true) := by
  rw [EvClosed_eq H.c4 rfl (vs := [.int .i64 n, .str s, .agg [.int .i64 a, .int .i64 b]]) (by simp), EvFn_eq]
  obtain ⟨h8, hn, hk, h11, h12, h13, ha, hb, h14a, h14b, h12a, hm, he⟩ := R
  have hsl : decide (16 < (s.length : Int)) = true := decide_eq_true (by omega)
  have hsl2 : (16 : Int) ≤ (s.length : Int) := by omega
  have hml : decide ((m : Int) < 300) = false := decide_eq_false hm
  simp [f4, start, EvCall_closed H.c8 rfl, EvCall_closed H.c10 rfl, EvCall_closed H.c11 rfl, EvCall_closed H.c12 rfl, EvCall_closed H.c13 rfl, EvCall_closed H.c14 rfl, h8, hn, hk, h11, h12, h13, ha, hb, h14a, h14b, h12a, hm, hsl, hsl2, hml, he]
theorem ranks_in (H : Has 4 E) (n a b : Int) (s : List UInt8) : ∃ k m cs rs p t ra rb is_ ta tb, RanksIn E n s a b k m cs rs p t ra rb is_ ta tb := by
  have hk : 1 ≤ 1 + n % 5 ∧ 1 + n % 5 ≤ 5 := by omega
  have hw : IntKind.i64.wrap (1 + n % 5) = 1 + n % 5 := w64
  generalize hkk : 1 + n % 5 = k at hk hw
  have hl := syms_len hk
  have hl2 := symsT_len k
  have hrow := legalRow_eq (H.to 11) k
  have he : (symsT k).isEmpty = false := by
    cases h : symsT k with
    | nil => rw [h] at hl; simp at hl
    | cons a l => rfl
  have hnd := rowT_nodup progB k
  have hrk := legalRank_eq (H.to 12) k
  have hat := legalAt_eq (H.to 14) k
  have hfd := find13_eq (H.to 13) progB_ok (table_eq (H.to 38)) k s
  have hmem := row_find hk s
  have hok := rank_ok (symsT k) s
  change (symsT k).Nodup at hnd
  simp only [textsV, he, Bool.false_eq_true, if_false] at hrow
  rw [if_pos hk, if_pos hk] at hfd
  have hdk : decide (1 ≤ k ∧ k ≤ 5) = true := decide_eq_true hk
  rw [hdk, Bool.true_and] at hfd
  generalize symsT k = l at *
  have hm0 : (0 : Int) < l.length := by omega
  obtain ⟨i, hi, ha⟩ : ∃ i : Nat, i < l.length ∧ a % (l.length : Int) = i := ⟨(a % (l.length : Int)).toNat, by have := Int.emod_lt_of_pos a hm0; have := Int.emod_nonneg a (by omega : (l.length : Int) ≠ 0); omega, by have := Int.emod_nonneg a (by omega : (l.length : Int) ≠ 0); omega⟩
  obtain ⟨j, hj, hb⟩ : ∃ i : Nat, i < l.length ∧ b % (l.length : Int) = i := ⟨(b % (l.length : Int)).toNat, by have := Int.emod_lt_of_pos b hm0; have := Int.emod_nonneg b (by omega : (l.length : Int) ≠ 0); omega, by have := Int.emod_nonneg b (by omega : (l.length : Int) ≠ 0); omega⟩
  have at_ : ∀ (q : Nat) (hq : q < l.length), atOf l q = (l[q], true) := by
    intro q hq
    have h1 : ¬ ((q : Int) < 0 ∨ (l.length : Int) ≤ q) := by omega
    simp [atOf, hq]
  have hr10 := fun z => rest10_eq (H.to 10) (x := z) (m := l.length) hm0 (by omega)
  refine ⟨k, l.length, l.map .str, (if rankOf l s = -1 then 0 else rankOf l s), (findB (k - 1).toNat progB.L progB.Q s).1, (findB (k - 1).toNat progB.L progB.Q s).2.1, i, j, (rankOf l s != -1), l[i], l[j], ⟨awake_eq (H.to 8), rest10_eq (H.to 10) (by omega) (by omega), ?_, hrow, hrk s, ?_, ?_, ?_, ?_, ?_, ?_, by omega, ?_⟩⟩
  · rw [hkk]; exact hw
  · rw [hfd]
    have : (rankOf l s != -1) = (findB (k - 1).toNat progB.L progB.Q s).2.2 := by
      rw [hok, Bool.eq_iff_iff, decide_eq_true_eq]
      exact hmem
    rw [this]
  · rw [hr10, ha]
  · rw [hr10, hb]
  · rw [hat, at_ i hi]
  · rw [hat, at_ j hj]
  · rw [hrk, rank_at hnd hi]
    have : ¬ (i : Int) = -1 := by omega
    simp [this]
  · rw [beq_iff_eq, Bool.eq_iff_iff]
    simp only [beq_iff_eq]
    constructor
    · intro h
      have h1 := rank_at hnd hi
      have h2 := rank_at hnd hj
      rw [h] at h1
      rw [h1] at h2
      exact h2
    · intro h
      have : i = j := by omega
      subst this
      rfl
theorem legalRanks_eq (H : Has 4 E) (n a b : Int) (s : List UInt8) : EvClosed E (.fn (.func 4) [] []) [.int .i64 n, .str s, .agg [.int .i64 a, .int .i64 b]] = some (.bool true) := by
  by_cases hs : s.length ≤ 16
  · obtain ⟨k, m, cs, rs, p, t, ra, rb, is_, ta, tb, R⟩ := ranks_in H n a b s
    exact ranks_short H R hs
  · obtain ⟨k, m, cs, rs, p, t, ra, rb, is_, ta, tb, R⟩ := ranks_in H n a b (s.take 16)
    exact ranks_long H R (by omega)
end Go.Pv
/- A symbol alone is parsed to one step. Conditions: the functions' codes; theorems. -/
namespace Go.Pv
variable {E : Env}

/-- Letters of a notation, raised where they are. -/
def cleanB (x : Int) (s : List UInt8) : Bool := s.all fun c => (kind x c == 1) && (raise1 (sty x).fold c == c)
def cleanN (n : Nat) : Bool := (atomsT.all fun a => cleanB ((n : Int) + 1) (a.code n) && decide ((a.code n).length ≤ 100)) && (prefsT.all fun a => cleanB ((n : Int) + 1) (a.code n) && decide ((a.code n).length ≤ 100))
theorem clean_all : (List.range 5).all cleanN = true := by decide +kernel
theorem symText_clean {n : Nat} (hn : n < 5) {a : Nat} {p : Int} : cleanB ((n : Int) + 1) (symText n atomsT prefsT p a) = true ∧ (symText n atomsT prefsT p a).length ≤ 200 := by
  have h := List.all_eq_true.1 clean_all n (by simpa using hn)
  simp only [cleanN, Bool.and_eq_true, List.all_eq_true, decide_eq_true_eq] at h
  have e : cleanB ((n : Int) + 1) [] = true := rfl
  have hA : ∀ i, cleanB ((n : Int) + 1) (textA n atomsT i) = true ∧ (textA n atomsT i).length ≤ 100 := by
    intro i
    unfold textA
    cases hq : atomsT[i]? with
    | none => exact ⟨e, by simp⟩
    | some r => exact h.1 r (List.mem_of_getElem? hq)
  unfold symText
  split
  · exact ⟨(hA a).1, by have := (hA a).2; omega⟩
  · unfold textP
    cases hq : atomsT[a]? with
    | none => exact ⟨e, by simp⟩
    | some r =>
      cases hj : prefsT[p.toNat]? with
      | none => exact ⟨e, by simp⟩
      | some q =>
        have h1 := h.1 r (List.mem_of_getElem? hq)
        have h2 := h.2 q (List.mem_of_getElem? hj)
        simp only
        split
        · exact ⟨e, by simp⟩
        · split
          · exact ⟨e, by simp⟩
          · refine ⟨?_, by rw [List.length_append]; omega⟩
            have a1 := h1.1
            have a2 := h2.1
            unfold cleanB at a1 a2 ⊢
            rw [List.all_append, a1, a2]
            rfl
theorem clean_run {x : Int} : ∀ {s : List UInt8}, cleanB x s = true → runL x 1 s = s.length ∧ raise x s = s
  | [], _ => ⟨rfl, rfl⟩
  | c :: s, h => by
    simp only [cleanB, List.all_cons, Bool.and_eq_true] at h
    obtain ⟨h1, h2⟩ := clean_run (x := x) (s := s) (by simpa [cleanB] using h.2)
    constructor
    · simp only [runL, h.1.1, if_true, h1, List.length_cons]
    · have := eq_of_beq h.1.2
      simp only [raise, List.map_cons, this]
      congr 1
theorem clean_lex {x : Int} {s : List UInt8} (h : cleanB x s = true) (hne : s ≠ []) : lexS x s = ([⟨1, 0, s, 0⟩], s.length) := by
  obtain ⟨h1, h2⟩ := clean_run h
  cases s with
  | nil => exact absurd rfl hne
  | cons c r =>
    have hk : (kind x c == 1) = true := by
      simp only [cleanB, List.all_cons, Bool.and_eq_true] at h
      exact h.1.1
    have hk' : kind x c = 1 := by simpa using hk
    have hn : nextS x (c :: r) = some (1, c :: r, 0, r.length + 1) := by
      have h1' : runL x 1 (c :: r) = r.length + 1 := by simpa using h1
      simp only [nextS, hk', h1']
      have ht : (c :: r).take (r.length + 1) = c :: r := by simp
      rw [ht, h2]
      rfl
    have e : ∀ f p, lexF x f [] p = ([], p) := by intro f p; cases f <;> rfl
    unfold lexS
    simp only [List.length_cons, lexF, hn]
    have hd : (c :: r).drop (r.length + 1) = [] := by simp
    rw [hd, e]
    simp
theorem powP_nil (b : Bool) (sz : Int) : powP b sz [] = .ok (1, []) := by cases b <;> rfl
/-- Each symbol alone is a unit. -/
theorem sym_parsed {x : Int} (hx : 1 ≤ x ∧ x ≤ 5) {s : List UInt8} (hs : s ∈ symsT x) :
    parseP x s = ⟨[⟨2, (findB (x - 1).toNat atomsT prefsT s).1, (findB (x - 1).toNat atomsT prefsT s).2.1, 1, 0, []⟩], 0, s.length, 0⟩ ∧ (findB (x - 1).toNat atomsT prefsT s).2.2 = true ∧ s.length ≤ 200 := by
  have hf := (row_find hx s).1 hs
  obtain ⟨a, p, h1, h2, h3, h4, h5⟩ := find_told hf
  have hn : (x - 1).toNat < 5 := by omega
  have hx1 : (((x - 1).toNat : Nat) : Int) + 1 = x := by omega
  have hc := symText_clean hn (a := a) (p := p)
  rw [h4, hx1] at hc
  have hne : s ≠ [] := by
    intro h
    simp only [toldB, Bool.and_eq_true] at h5
    rw [h] at h5
    simp at h5
  refine ⟨?_, hf, hc.2⟩
  have hN : isN x = true := by simp [isN, hx]
  have hlen : s.length ≤ 255 := by omega
  unfold parseP
  rw [if_pos hN, if_pos hlen, clean_lex hc.1 hne]
  simp only [Nat.lt_irrefl, if_false]
  have hi : ∀ inner : List Tok → Option Tok → Res (List StepA), mainP x s.length inner [⟨1, 0, s, 0⟩] none = .ok ([⟨2, (findB (x - 1).toNat atomsT prefsT s).1, (findB (x - 1).toNat atomsT prefsT s).2.1, 1, 0, []⟩], [], none) := by
    intro inner
    have hb : baseP x s.length inner [⟨1, 0, s, 0⟩] none = .ok ([⟨2, (findB (x - 1).toNat atomsT prefsT s).1, (findB (x - 1).toNat atomsT prefsT s).2.1, 1, 0, []⟩], [], none) := by
      simp only [baseP, symP, powP_nil, hf, unkP]
      rfl
    have hit : itemP x s.length inner [⟨1, 0, s, 0⟩] none = .ok ([⟨2, (findB (x - 1).toNat atomsT prefsT s).1, (findB (x - 1).toNat atomsT prefsT s).2.1, 1, 0, []⟩], [], none) := by
      simp only [itemP, itemB, hb]
      rfl
    unfold mainP
    have h5 : isT 5 [(⟨1, 0, s, 0⟩ : Tok)] = false := rfl
    simp only [h5, Bool.false_eq_true, if_false, hit]
    rfl
  unfold treeP
  rw [hi]
set_option maxRecDepth 10000 in
set_option maxHeartbeats 1000000 in
theorem parses_run (H : Has 7 E) {n r k rr p a : Int} {m : Nat} {cs : List AV} {t : List UInt8} (h8 : EvClosed E (.fn (.func 8) [] []) [] = some (.bool true))
    (hn : EvClosed E (.fn (.func 10) [] []) [.int .i64 n, .int .i64 5] = some (.int .i64 (n % 5))) (hk : IntKind.i64.wrap (1 + n % 5) = k)
    (h11 : EvClosed E (.fn (.func 11) [] []) [.int .i64 k] = some (.vs .shared m cs)) (hm : ¬ (m : Int) = 0)
    (hr : EvClosed E (.fn (.func 10) [] []) [.int .i64 r, .int .i64 m] = some (.int .i64 rr))
    (h14 : EvClosed E (.fn (.func 14) [] []) [.int .i64 k, .int .i64 rr] = some (.tuple [.str t, .bool true]))
    (h20 : EvClosed E (.fn (.func 20) [] []) [.int .i64 k, .str t] = some (.agg [.vs .full 1 [.int .i64 2, .int .i64 p, .int .i64 a, .int .i64 1, .int .i64 0, .str []], .int .i64 0, .int .i64 t.length, .int .i64 0]))
    (h13 : EvClosed E (.fn (.func 13) [] []) [.int .i64 k, .str t] = some (.tuple [.int .i64 p, .int .i64 a, .bool true])) :
    EvClosed E (.fn (.func 7) [] []) [.int .i64 n, .int .i64 r] = some (.bool true) := by
  rw [EvClosed_eq H.c7 rfl (vs := [.int .i64 n, .int .i64 r]) (by simp), EvFn_eq]
  have hm2 : ¬ m = 0 := by omega
  simp [f7, start, hm2, EvCall_closed H.c8 rfl, EvCall_closed H.c10 rfl, EvCall_closed H.c11 rfl, EvCall_closed H.c14 rfl, EvCall_closed H.c20 rfl, EvCall_closed H.c13 rfl, h8, hn, hk, h11, hm, hr, h14, h20, h13]
  try exact hm2
theorem legalParses_eq (H : Has 7 E) (n r : Int) : EvClosed E (.fn (.func 7) [] []) [.int .i64 n, .int .i64 r] = some (.bool true) := by
  have hk : 1 ≤ 1 + n % 5 ∧ 1 + n % 5 ≤ 5 := by omega
  have hw : IntKind.i64.wrap (1 + n % 5) = 1 + n % 5 := w64
  generalize hkk : 1 + n % 5 = k at hk hw
  have hl := syms_len hk
  have hl2 := symsT_len k
  have hrow := legalRow_eq (H.to 11) k
  have he : (symsT k).isEmpty = false := by
    cases h : symsT k with
    | nil => rw [h] at hl; simp at hl
    | cons a l => rfl
  have hat := legalAt_eq (H.to 14) k
  have hps := fun s => sym_parsed hk (s := s)
  simp only [textsV, he, Bool.false_eq_true, if_false] at hrow
  generalize symsT k = l at *
  have hm0 : (0 : Int) < l.length := by omega
  obtain ⟨i, hi, hb⟩ : ∃ i : Nat, i < l.length ∧ r % (l.length : Int) = i := ⟨(r % (l.length : Int)).toNat, by have := Int.emod_lt_of_pos r hm0; have := Int.emod_nonneg r (by omega : (l.length : Int) ≠ 0); omega, by have := Int.emod_nonneg r (by omega : (l.length : Int) ≠ 0); omega⟩
  have at_ : atOf l i = (l[i], true) := by simp [atOf, hi]
  obtain ⟨h1, h2, h3⟩ := hps l[i] (List.getElem_mem hi)
  have hp := parse_eq (H.to 20) k l[i] (by omega)
  have hf := found_eq (H.to 13) hk l[i]
  rw [h1] at hp
  rw [h2] at hf
  have hr10 := rest10_eq (H.to 10) (x := r) (m := l.length) hm0 (by omega)
  rw [hb] at hr10
  have ha := hat i
  rw [at_] at ha
  exact parses_run H (awake_eq (H.to 8)) (rest10_eq (H.to 10) (by omega) (by omega)) (by rw [hkk]; exact hw) hrow (by omega) hr10 ha (by simpa [Psd.cs, stepsV, StepA.cs] using hp) hf
end Go.Pv
