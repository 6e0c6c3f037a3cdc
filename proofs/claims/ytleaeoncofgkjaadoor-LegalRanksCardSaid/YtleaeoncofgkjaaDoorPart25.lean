/- Part 25 of the proof: what functions of the program come to. Conditions: none; definitions and theorems that the statement's proof uses. -/
import Derived.Test.YtleaeoncofgkjaaDoorPart22
import Derived.Test.YtleaeoncofgkjaaDoorPart24
import Derived.Test.YtleaeoncofgkjaaDoorPart8
/- What the statement LegalRanks comes to. Conditions: the functions' codes; theorems. -/
namespace Go.Pv
variable {E : Env}

/-- What ranks has of the functions that it calls. -/
structure RanksIn (E : Env) (n : Int) (s : List UInt8) (a b k : Int) (m : Nat) (cs : List AV) (rs p t ra rb : Int) (is_ : Bool) (ta tb : List UInt8) : Prop where
  h8 : EvClosed E (.fn (.func 8) [] []) [] = some (.bool true)
  hn : EvClosed E (.fn (.func 10) [] []) [.int .i64 n, .int .i64 5] = some (.int .i64 (n % 5))
  hk : IntKind.i64.wrap (1 + n % 5) = k
  h11 : EvClosed E (.fn (.func 11) [] []) [.int .i64 k] = some (.vs .shared m cs)
  h12 : EvClosed E (.fn (.func 12) [] []) [.int .i64 k, .str s] = some (.tuple [.int .i64 rs, .bool is_])
  h13 : EvClosed E (.fn (.func 13) [] []) [.int .i64 k, .str s] = some (.tuple [.int .i64 p, .int .i64 t, .bool is_])
  ha : EvClosed E (.fn (.func 10) [] []) [.int .i64 a, .int .i64 m] = some (.int .i64 ra)
  hb : EvClosed E (.fn (.func 10) [] []) [.int .i64 b, .int .i64 m] = some (.int .i64 rb)
  h14a : EvClosed E (.fn (.func 14) [] []) [.int .i64 k, .int .i64 ra] = some (.tuple [.str ta, .bool true])
  h14b : EvClosed E (.fn (.func 14) [] []) [.int .i64 k, .int .i64 rb] = some (.tuple [.str tb, .bool true])
  h12a : EvClosed E (.fn (.func 12) [] []) [.int .i64 k, .str ta] = some (.tuple [.int .i64 ra, .bool true])
  hm : ¬ (m : Int) < 300
  he : ((ta == tb) == (ra == rb)) = true
set_option maxRecDepth 10000 in
set_option maxHeartbeats 1000000 in
theorem ranks_short (H : Has 4 E) {n a b k : Int} {s : List UInt8} {m : Nat} {cs : List AV} {rs p t ra rb : Int} {is_ : Bool} {ta tb : List UInt8} (R : RanksIn E n s a b k m cs rs p t ra rb is_ ta tb) (hs : s.length ≤ 16) :
    EvClosed E (.fn (.func 4) [] []) [.int .i64 n, .str s, .agg [.int .i64 a, .int .i64 b]] = some (.bool true) := by
  rw [EvClosed_eq H.c4 rfl (vs := [.int .i64 n, .str s, .agg [.int .i64 a, .int .i64 b]]) (by simp), EvFn_eq]
  obtain ⟨h8, hn, hk, h11, h12, h13, ha, hb, h14a, h14b, h12a, hm, he⟩ := R
  have hsl : decide (16 < (s.length : Int)) = false := decide_eq_false (by omega)
  have hml : decide ((m : Int) < 300) = false := decide_eq_false hm
  simp [f4, start, EvCall_closed H.c8 rfl, EvCall_closed H.c10 rfl, EvCall_closed H.c11 rfl, EvCall_closed H.c12 rfl, EvCall_closed H.c13 rfl, EvCall_closed H.c14 rfl, h8, hn, hk, h11, h12, h13, ha, hb, h14a, h14b, h12a, hm, hsl, hml, he]
set_option maxRecDepth 10000 in
set_option maxHeartbeats 1000000 in
theorem ranks_long (H : Has 4 E) {n a b k : Int} {s : List UInt8} {m : Nat} {cs : List AV} {rs p t ra rb : Int} {is_ : Bool} {ta tb : List UInt8} (R : RanksIn E n (s.take 16) a b k m cs rs p t ra rb is_ ta tb) (hs : 16 < s.length) :
    EvClosed E (.fn (.func 4) [] []) [.int .i64 n, .str s, .agg [.int .i64 a, .int .i64 b]] = some (.bool true) := by
  rw [EvClosed_eq H.c4 rfl (vs := [.int .i64 n, .str s, .agg [.int .i64 a, .int .i64 b]]) (by simp), EvFn_eq]
  obtain ⟨h8, hn, hk, h11, h12, h13, ha, hb, h14a, h14b, h12a, hm, he⟩ := R
  have hsl : decide (16 < (s.length : Int)) = true := decide_eq_true (by omega)
  have hsl2 : (16 : Int) ≤ (s.length : Int) := by omega
  have hml : decide ((m : Int) < 300) = false := decide_eq_false hm
  simp [f4, start, EvCall_closed H.c8 rfl, EvCall_closed H.c10 rfl, EvCall_closed H.c11 rfl, EvCall_closed H.c12 rfl, EvCall_closed H.c13 rfl, EvCall_closed H.c14 rfl, h8, hn, hk, h11, h12, h13, ha, hb, h14a, h14b, h12a, hm, hsl, hsl2, hml, he]
theorem ranks_in (H : Has 4 E) (n a b : Int) (s : List UInt8) : ∃ k m cs rs p t ra rb is_ ta tb, RanksIn E n s a b k m cs rs p t ra rb is_ ta tb := by
  have hk : 1 ≤ 1 + n % 5 ∧ 1 + n % 5 ≤ 5 := by omega
  have hw : IntKind.i64.wrap (1 + n % 5) = 1 + n % 5 := w64
  generalize hkk : 1 + n % 5 = k at hk hw
  have hl := syms_len hk
  have hl2 := symsT_len k
  have hrow := legalRow_eq (H.to 11) k
  have he : (symsT k).isEmpty = false := by
    cases h : symsT k with
    | nil => rw [h] at hl; simp at hl
    | cons a l => rfl
  have hnd := rowT_nodup progB k
  have hrk := legalRank_eq (H.to 12) k
  have hat := legalAt_eq (H.to 14) k
  have hfd := find13_eq (H.to 13) progB_ok (table_eq (H.to 38)) k s
  have hmem := row_find hk s
  have hok := rank_ok (symsT k) s
  change (symsT k).Nodup at hnd
  simp only [textsV, he, Bool.false_eq_true, if_false] at hrow
  rw [if_pos hk, if_pos hk] at hfd
  have hdk : decide (1 ≤ k ∧ k ≤ 5) = true := decide_eq_true hk
  rw [hdk, Bool.true_and] at hfd
  generalize symsT k = l at *
  have hm0 : (0 : Int) < l.length := by omega
  obtain ⟨i, hi, ha⟩ : ∃ i : Nat, i < l.length ∧ a % (l.length : Int) = i := ⟨(a % (l.length : Int)).toNat, by have := Int.emod_lt_of_pos a hm0; have := Int.emod_nonneg a (by omega : (l.length : Int) ≠ 0); omega, by have := Int.emod_nonneg a (by omega : (l.length : Int) ≠ 0); omega⟩
  obtain ⟨j, hj, hb⟩ : ∃ i : Nat, i < l.length ∧ b % (l.length : Int) = i := ⟨(b % (l.length : Int)).toNat, by have := Int.emod_lt_of_pos b hm0; have := Int.emod_nonneg b (by omega : (l.length : Int) ≠ 0); omega, by have := Int.emod_nonneg b (by omega : (l.length : Int) ≠ 0); omega⟩
  have at_ : ∀ (q : Nat) (hq : q < l.length), atOf l q = (l[q], true) := by
    intro q hq
    have h1 : ¬ ((q : Int) < 0 ∨ (l.length : Int) ≤ q) := by omega
    simp [atOf, hq]
  have hr10 := fun z => rest10_eq (H.to 10) (x := z) (m := l.length) hm0 (by omega)
  refine ⟨k, l.length, l.map .str, (if rankOf l s = -1 then 0 else rankOf l s), (findB (k - 1).toNat progB.L progB.Q s).1, (findB (k - 1).toNat progB.L progB.Q s).2.1, i, j, (rankOf l s != -1), l[i], l[j], ⟨awake_eq (H.to 8), rest10_eq (H.to 10) (by omega) (by omega), ?_, hrow, hrk s, ?_, ?_, ?_, ?_, ?_, ?_, by omega, ?_⟩⟩
  · rw [hkk]; exact hw
  · rw [hfd]
    have : (rankOf l s != -1) = (findB (k - 1).toNat progB.L progB.Q s).2.2 := by
      rw [hok, Bool.eq_iff_iff, decide_eq_true_eq]
      exact hmem
    rw [this]
  · rw [hr10, ha]
  · rw [hr10, hb]
  · rw [hat, at_ i hi]
  · rw [hat, at_ j hj]
  · rw [hrk, rank_at hnd hi]
    have : ¬ (i : Int) = -1 := by omega
    simp [this]
  · rw [beq_iff_eq, Bool.eq_iff_iff]
    simp only [beq_iff_eq]
    constructor
    · intro h
      have h1 := rank_at hnd hi
      have h2 := rank_at hnd hj
      rw [h] at h1
      rw [h1] at h2
      exact h2
    · intro h
      have : i = j := by omega
      subst this
      rfl
theorem legalRanks_eq (H : Has 4 E) (n a b : Int) (s : List UInt8) : EvClosed E (.fn (.func 4) [] []) [.int .i64 n, .str s, .agg [.int .i64 a, .int .i64 b]] = some (.bool true) := by
  by_cases hs : s.length ≤ 16
  · obtain ⟨k, m, cs, rs, p, t, ra, rb, is_, ta, tb, R⟩ := ranks_in H n a b s
    exact ranks_short H R hs
  · obtain ⟨k, m, cs, rs, p, t, ra, rb, is_, ta, tb, R⟩ := ranks_in H n a b (s.take 16)
    exact ranks_long H R (by omega)
end Go.Pv
