/- Part 28 of the proof: what functions of the program come to. Conditions: none; definitions and theorems that the statement's proof uses. -/
import Derived.Test.YtleaeoncofgkjaaDoorPart27
/- The law's code at a sign. Conditions: the functions' codes; theorems. -/
namespace Go.Pv
variable {E : Env}
set_option maxRecDepth 20000 in
set_option maxHeartbeats 2000000 in
theorem pow_0_t_o (H : Has 6 E) {n power q0 q1 k : Int} {m z : Nat} {c2 c1 c0 : UInt8} {dg : List UInt8} {y : Sty} (P : PowIn E n power q0 q1 k m 0 z c2 c1 c0 dg y)
    (hp : (y.pow != 0) = true) (hm99 : m ≤ 99) {p a sz : Int}
    (hw : EvClosed E (.fn (.func 20) [] []) [.int .i64 k, .str (109 :: 94 :: dg)] = some (.agg [.vs .full 1 [.int .i64 2, .int .i64 p, .int .i64 a, .int .i64 m, .int .i64 0, .str []], .int .i64 0, .int .i64 sz, .int .i64 0]))
    (hl : EvClosed E (.fn (.func 20) [] []) [.int .i64 k, .str (109 :: dg)] = some (.agg [.nils, .int .i64 14, .int .i64 1, .int .i64 0]))
    {v : AV} (hv : v.isCell = true) {e2 e3 : Int} (h1 : EvClosed E (.fn (.func 20) [] []) [.int .i64 k, .str [109]] = some (.agg [v, .int .i64 0, .int .i64 e2, .int .i64 e3])) :
    EvClosed E (.fn (.func 6) [] []) [.int .i64 n, .int .i64 power, .agg [.int .i64 q0, .int .i64 q1]] = some (.bool true) := by
  rw [EvClosed_eq H.c6 rfl (vs := [.int .i64 n, .int .i64 power, .agg [.int .i64 q0, .int .i64 q1]]) (by simp), EvFn_eq]
  obtain ⟨h17, hn, hk, hm, hi, hz, z3, d2, d1, d0, hdg, hlen, hst⟩ := P
  have hz3 : (z : Int) ≤ 3 := by omega
  have hmin : z ≤ 9223372036854775804 := by omega
  have hl1 : dg.length + 1 ≤ 9223372036854775807 := by omega
  have hl2 : dg.length + 2 ≤ 9223372036854775807 := by omega
  have hl3 : dg.length + 3 ≤ 9223372036854775807 := by omega
  have hl3' : 3 + dg.length ≤ 9223372036854775807 := by omega
  have hl2' : 2 + dg.length ≤ 9223372036854775807 := by omega
  have hl1' : 1 + dg.length ≤ 9223372036854775807 := by omega
  have hl11 : dg.length + 1 + 1 ≤ 9223372036854775807 := by omega
  have hl12 : dg.length + 1 + 2 ≤ 9223372036854775807 := by omega
  have hpi := pow_ne y
  rw [hp] at hpi
  have hpn : ¬ y.pow = 0 := by simpa using hp
  have hb3 := bytes3 c2 c1 c0
  have w1 : IntKind.i64.wrap 1 = 1 := w64
  have w2 : IntKind.i64.wrap 2 = 2 := w64
  have w3 : IntKind.i64.wrap 3 = 3 := w64
  have h99 : decide (99 < (m : Int)) = false := decide_eq_false (by omega)
  simp [f6, start, EvCall_closed H.c17 rfl, EvCall_closed H.c18 rfl, EvCall_closed H.c19 rfl, EvCall_closed H.c20 rfl, h17, hn, hk, hm, hi, hz, hz3, z3, d2, d1, d0, hb3, hdg, hst, hmin, hl1, hl2, hl3, hl1', hl2', hl3', hl11, hl12, hw, hl, h1, push_set, push_setk, hpn, hpi, h99, hv, w1, w2, w3]
set_option maxRecDepth 20000 in
set_option maxHeartbeats 2000000 in
theorem pow_0_t_b (H : Has 6 E) {n power q0 q1 k : Int} {m z : Nat} {c2 c1 c0 : UInt8} {dg : List UInt8} {y : Sty} (P : PowIn E n power q0 q1 k m 0 z c2 c1 c0 dg y)
    (hp : (y.pow != 0) = true) (hm99 : 99 < m) {p a sz : Int}
    (hw : EvClosed E (.fn (.func 20) [] []) [.int .i64 k, .str (109 :: 94 :: dg)] = some (.agg [.nils, .int .i64 14, .int .i64 2, .int .i64 0]))
    (hl : EvClosed E (.fn (.func 20) [] []) [.int .i64 k, .str (109 :: dg)] = some (.agg [.nils, .int .i64 14, .int .i64 1, .int .i64 0]))
    {v : AV} (hv : v.isCell = true) {e2 e3 : Int} (h1 : EvClosed E (.fn (.func 20) [] []) [.int .i64 k, .str [109]] = some (.agg [v, .int .i64 0, .int .i64 e2, .int .i64 e3])) :
    EvClosed E (.fn (.func 6) [] []) [.int .i64 n, .int .i64 power, .agg [.int .i64 q0, .int .i64 q1]] = some (.bool true) := by
  rw [EvClosed_eq H.c6 rfl (vs := [.int .i64 n, .int .i64 power, .agg [.int .i64 q0, .int .i64 q1]]) (by simp), EvFn_eq]
  obtain ⟨h17, hn, hk, hm, hi, hz, z3, d2, d1, d0, hdg, hlen, hst⟩ := P
  have hz3 : (z : Int) ≤ 3 := by omega
  have hmin : z ≤ 9223372036854775804 := by omega
  have hl1 : dg.length + 1 ≤ 9223372036854775807 := by omega
  have hl2 : dg.length + 2 ≤ 9223372036854775807 := by omega
  have hl3 : dg.length + 3 ≤ 9223372036854775807 := by omega
  have hl3' : 3 + dg.length ≤ 9223372036854775807 := by omega
  have hl2' : 2 + dg.length ≤ 9223372036854775807 := by omega
  have hl1' : 1 + dg.length ≤ 9223372036854775807 := by omega
  have hl11 : dg.length + 1 + 1 ≤ 9223372036854775807 := by omega
  have hl12 : dg.length + 1 + 2 ≤ 9223372036854775807 := by omega
  have hpi := pow_ne y
  rw [hp] at hpi
  have hpn : ¬ y.pow = 0 := by simpa using hp
  have hb3 := bytes3 c2 c1 c0
  have w1 : IntKind.i64.wrap 1 = 1 := w64
  have w2 : IntKind.i64.wrap 2 = 2 := w64
  have w3 : IntKind.i64.wrap 3 = 3 := w64
  have h99 : decide (99 < (m : Int)) = true := decide_eq_true (by omega)
  simp [f6, start, EvCall_closed H.c17 rfl, EvCall_closed H.c18 rfl, EvCall_closed H.c19 rfl, EvCall_closed H.c20 rfl, h17, hn, hk, hm, hi, hz, hz3, z3, d2, d1, d0, hb3, hdg, hst, hmin, hl1, hl2, hl3, hl1', hl2', hl3', hl11, hl12, hw, hl, h1, push_set, push_setk, hpn, hpi, h99, hv, w1, w2, w3]
set_option maxRecDepth 20000 in
set_option maxHeartbeats 2000000 in
theorem pow_0_f_o (H : Has 6 E) {n power q0 q1 k : Int} {m z : Nat} {c2 c1 c0 : UInt8} {dg : List UInt8} {y : Sty} (P : PowIn E n power q0 q1 k m 0 z c2 c1 c0 dg y)
    (hp : (y.pow != 0) = false) (hm99 : m ≤ 99) {p a sz : Int}
    (hw : EvClosed E (.fn (.func 20) [] []) [.int .i64 k, .str (109 :: 94 :: dg)] = some (.agg [.nils, .int .i64 14, .int .i64 1, .int .i64 0]))
    (hl : EvClosed E (.fn (.func 20) [] []) [.int .i64 k, .str (109 :: dg)] = some (.agg [.vs .full 1 [.int .i64 2, .int .i64 p, .int .i64 a, .int .i64 m, .int .i64 0, .str []], .int .i64 0, .int .i64 sz, .int .i64 0]))
    {v : AV} (hv : v.isCell = true) {e2 e3 : Int} (h1 : EvClosed E (.fn (.func 20) [] []) [.int .i64 k, .str [109]] = some (.agg [v, .int .i64 0, .int .i64 e2, .int .i64 e3])) :
    EvClosed E (.fn (.func 6) [] []) [.int .i64 n, .int .i64 power, .agg [.int .i64 q0, .int .i64 q1]] = some (.bool true) := by
  rw [EvClosed_eq H.c6 rfl (vs := [.int .i64 n, .int .i64 power, .agg [.int .i64 q0, .int .i64 q1]]) (by simp), EvFn_eq]
  obtain ⟨h17, hn, hk, hm, hi, hz, z3, d2, d1, d0, hdg, hlen, hst⟩ := P
  have hz3 : (z : Int) ≤ 3 := by omega
  have hmin : z ≤ 9223372036854775804 := by omega
  have hl1 : dg.length + 1 ≤ 9223372036854775807 := by omega
  have hl2 : dg.length + 2 ≤ 9223372036854775807 := by omega
  have hl3 : dg.length + 3 ≤ 9223372036854775807 := by omega
  have hl3' : 3 + dg.length ≤ 9223372036854775807 := by omega
  have hl2' : 2 + dg.length ≤ 9223372036854775807 := by omega
  have hl1' : 1 + dg.length ≤ 9223372036854775807 := by omega
  have hl11 : dg.length + 1 + 1 ≤ 9223372036854775807 := by omega
  have hl12 : dg.length + 1 + 2 ≤ 9223372036854775807 := by omega
  have hpi := pow_ne y
  rw [hp] at hpi
  have hpn : y.pow = 0 := by simpa using hp
  have hb3 := bytes3 c2 c1 c0
  have w1 : IntKind.i64.wrap 1 = 1 := w64
  have w2 : IntKind.i64.wrap 2 = 2 := w64
  have w3 : IntKind.i64.wrap 3 = 3 := w64
  have h99 : decide (99 < (m : Int)) = false := decide_eq_false (by omega)
  simp [f6, start, EvCall_closed H.c17 rfl, EvCall_closed H.c18 rfl, EvCall_closed H.c19 rfl, EvCall_closed H.c20 rfl, h17, hn, hk, hm, hi, hz, hz3, z3, d2, d1, d0, hb3, hdg, hst, hmin, hl1, hl2, hl3, hl1', hl2', hl3', hl11, hl12, hw, hl, h1, push_set, push_setk, hpn, hpi, h99, hv, w1, w2, w3]
set_option maxRecDepth 20000 in
set_option maxHeartbeats 2000000 in
theorem pow_0_f_b (H : Has 6 E) {n power q0 q1 k : Int} {m z : Nat} {c2 c1 c0 : UInt8} {dg : List UInt8} {y : Sty} (P : PowIn E n power q0 q1 k m 0 z c2 c1 c0 dg y)
    (hp : (y.pow != 0) = false) (hm99 : 99 < m) {p a sz : Int}
    (hw : EvClosed E (.fn (.func 20) [] []) [.int .i64 k, .str (109 :: 94 :: dg)] = some (.agg [.nils, .int .i64 14, .int .i64 1, .int .i64 0]))
    (hl : EvClosed E (.fn (.func 20) [] []) [.int .i64 k, .str (109 :: dg)] = some (.agg [.nils, .int .i64 14, .int .i64 1, .int .i64 0]))
    {v : AV} (hv : v.isCell = true) {e2 e3 : Int} (h1 : EvClosed E (.fn (.func 20) [] []) [.int .i64 k, .str [109]] = some (.agg [v, .int .i64 0, .int .i64 e2, .int .i64 e3])) :
    EvClosed E (.fn (.func 6) [] []) [.int .i64 n, .int .i64 power, .agg [.int .i64 q0, .int .i64 q1]] = some (.bool true) := by
  rw [EvClosed_eq H.c6 rfl (vs := [.int .i64 n, .int .i64 power, .agg [.int .i64 q0, .int .i64 q1]]) (by simp), EvFn_eq]
  obtain ⟨h17, hn, hk, hm, hi, hz, z3, d2, d1, d0, hdg, hlen, hst⟩ := P
  have hz3 : (z : Int) ≤ 3 := by omega
  have hmin : z ≤ 9223372036854775804 := by omega
  have hl1 : dg.length + 1 ≤ 9223372036854775807 := by omega
  have hl2 : dg.length + 2 ≤ 9223372036854775807 := by omega
  have hl3 : dg.length + 3 ≤ 9223372036854775807 := by omega
  have hl3' : 3 + dg.length ≤ 9223372036854775807 := by omega
  have hl2' : 2 + dg.length ≤ 9223372036854775807 := by omega
  have hl1' : 1 + dg.length ≤ 9223372036854775807 := by omega
  have hl11 : dg.length + 1 + 1 ≤ 9223372036854775807 := by omega
  have hl12 : dg.length + 1 + 2 ≤ 9223372036854775807 := by omega
  have hpi := pow_ne y
  rw [hp] at hpi
  have hpn : y.pow = 0 := by simpa using hp
  have hb3 := bytes3 c2 c1 c0
  have w1 : IntKind.i64.wrap 1 = 1 := w64
  have w2 : IntKind.i64.wrap 2 = 2 := w64
  have w3 : IntKind.i64.wrap 3 = 3 := w64
  have h99 : decide (99 < (m : Int)) = true := decide_eq_true (by omega)
  simp [f6, start, EvCall_closed H.c17 rfl, EvCall_closed H.c18 rfl, EvCall_closed H.c19 rfl, EvCall_closed H.c20 rfl, h17, hn, hk, hm, hi, hz, hz3, z3, d2, d1, d0, hb3, hdg, hst, hmin, hl1, hl2, hl3, hl1', hl2', hl3', hl11, hl12, hw, hl, h1, push_set, push_setk, hpn, hpi, h99, hv, w1, w2, w3]
end Go.Pv
/- The law's code at a sign. Conditions: the functions' codes; theorems. -/
namespace Go.Pv
variable {E : Env}
set_option maxRecDepth 20000 in
set_option maxHeartbeats 2000000 in
theorem pow_1_t_o (H : Has 6 E) {n power q0 q1 k : Int} {m z : Nat} {c2 c1 c0 : UInt8} {dg : List UInt8} {y : Sty} (P : PowIn E n power q0 q1 k m 1 z c2 c1 c0 dg y)
    (hp : (y.pow != 0) = true) (hm99 : m ≤ 99) {p a sz : Int}
    (hw : EvClosed E (.fn (.func 20) [] []) [.int .i64 k, .str (109 :: 94 :: 43 :: dg)] = some (.agg [.vs .full 1 [.int .i64 2, .int .i64 p, .int .i64 a, .int .i64 m, .int .i64 0, .str []], .int .i64 0, .int .i64 sz, .int .i64 0]))
    (hl : EvClosed E (.fn (.func 20) [] []) [.int .i64 k, .str (109 :: 43 :: dg)] = some (.agg [.nils, .int .i64 14, .int .i64 1, .int .i64 0]))
    {v : AV} (hv : v.isCell = true) {e2 e3 : Int} (h1 : EvClosed E (.fn (.func 20) [] []) [.int .i64 k, .str [109]] = some (.agg [v, .int .i64 0, .int .i64 e2, .int .i64 e3])) :
    EvClosed E (.fn (.func 6) [] []) [.int .i64 n, .int .i64 power, .agg [.int .i64 q0, .int .i64 q1]] = some (.bool true) := by
  rw [EvClosed_eq H.c6 rfl (vs := [.int .i64 n, .int .i64 power, .agg [.int .i64 q0, .int .i64 q1]]) (by simp), EvFn_eq]
  obtain ⟨h17, hn, hk, hm, hi, hz, z3, d2, d1, d0, hdg, hlen, hst⟩ := P
  have hz3 : (z : Int) ≤ 3 := by omega
  have hmin : z ≤ 9223372036854775804 := by omega
  have hl1 : dg.length + 1 ≤ 9223372036854775807 := by omega
  have hl2 : dg.length + 2 ≤ 9223372036854775807 := by omega
  have hl3 : dg.length + 3 ≤ 9223372036854775807 := by omega
  have hl3' : 3 + dg.length ≤ 9223372036854775807 := by omega
  have hl2' : 2 + dg.length ≤ 9223372036854775807 := by omega
  have hl1' : 1 + dg.length ≤ 9223372036854775807 := by omega
  have hl11 : dg.length + 1 + 1 ≤ 9223372036854775807 := by omega
  have hl12 : dg.length + 1 + 2 ≤ 9223372036854775807 := by omega
  have hpi := pow_ne y
  rw [hp] at hpi
  have hpn : ¬ y.pow = 0 := by simpa using hp
  have hb3 := bytes3 c2 c1 c0
  have w1 : IntKind.i64.wrap 1 = 1 := w64
  have w2 : IntKind.i64.wrap 2 = 2 := w64
  have w3 : IntKind.i64.wrap 3 = 3 := w64
  have h99 : decide (99 < (m : Int)) = false := decide_eq_false (by omega)
  simp [f6, start, EvCall_closed H.c17 rfl, EvCall_closed H.c18 rfl, EvCall_closed H.c19 rfl, EvCall_closed H.c20 rfl, h17, hn, hk, hm, hi, hz, hz3, z3, d2, d1, d0, hb3, hdg, hst, hmin, hl1, hl2, hl3, hl1', hl2', hl3', hl11, hl12, hw, hl, h1, push_set, push_setk, hpn, hpi, h99, hv, w1, w2, w3]
set_option maxRecDepth 20000 in
set_option maxHeartbeats 2000000 in
theorem pow_1_t_b (H : Has 6 E) {n power q0 q1 k : Int} {m z : Nat} {c2 c1 c0 : UInt8} {dg : List UInt8} {y : Sty} (P : PowIn E n power q0 q1 k m 1 z c2 c1 c0 dg y)
    (hp : (y.pow != 0) = true) (hm99 : 99 < m) {p a sz : Int}
    (hw : EvClosed E (.fn (.func 20) [] []) [.int .i64 k, .str (109 :: 94 :: 43 :: dg)] = some (.agg [.nils, .int .i64 14, .int .i64 3, .int .i64 0]))
    (hl : EvClosed E (.fn (.func 20) [] []) [.int .i64 k, .str (109 :: 43 :: dg)] = some (.agg [.nils, .int .i64 14, .int .i64 1, .int .i64 0]))
    {v : AV} (hv : v.isCell = true) {e2 e3 : Int} (h1 : EvClosed E (.fn (.func 20) [] []) [.int .i64 k, .str [109]] = some (.agg [v, .int .i64 0, .int .i64 e2, .int .i64 e3])) :
    EvClosed E (.fn (.func 6) [] []) [.int .i64 n, .int .i64 power, .agg [.int .i64 q0, .int .i64 q1]] = some (.bool true) := by
  rw [EvClosed_eq H.c6 rfl (vs := [.int .i64 n, .int .i64 power, .agg [.int .i64 q0, .int .i64 q1]]) (by simp), EvFn_eq]
  obtain ⟨h17, hn, hk, hm, hi, hz, z3, d2, d1, d0, hdg, hlen, hst⟩ := P
  have hz3 : (z : Int) ≤ 3 := by omega
  have hmin : z ≤ 9223372036854775804 := by omega
  have hl1 : dg.length + 1 ≤ 9223372036854775807 := by omega
  have hl2 : dg.length + 2 ≤ 9223372036854775807 := by omega
  have hl3 : dg.length + 3 ≤ 9223372036854775807 := by omega
  have hl3' : 3 + dg.length ≤ 9223372036854775807 := by omega
  have hl2' : 2 + dg.length ≤ 9223372036854775807 := by omega
  have hl1' : 1 + dg.length ≤ 9223372036854775807 := by omega
  have hl11 : dg.length + 1 + 1 ≤ 9223372036854775807 := by omega
  have hl12 : dg.length + 1 + 2 ≤ 9223372036854775807 := by omega
  have hpi := pow_ne y
  rw [hp] at hpi
  have hpn : ¬ y.pow = 0 := by simpa using hp
  have hb3 := bytes3 c2 c1 c0
  have w1 : IntKind.i64.wrap 1 = 1 := w64
  have w2 : IntKind.i64.wrap 2 = 2 := w64
  have w3 : IntKind.i64.wrap 3 = 3 := w64
  have h99 : decide (99 < (m : Int)) = true := decide_eq_true (by omega)
  simp [f6, start, EvCall_closed H.c17 rfl, EvCall_closed H.c18 rfl, EvCall_closed H.c19 rfl, EvCall_closed H.c20 rfl, h17, hn, hk, hm, hi, hz, hz3, z3, d2, d1, d0, hb3, hdg, hst, hmin, hl1, hl2, hl3, hl1', hl2', hl3', hl11, hl12, hw, hl, h1, push_set, push_setk, hpn, hpi, h99, hv, w1, w2, w3]
set_option maxRecDepth 20000 in
set_option maxHeartbeats 2000000 in
theorem pow_1_f_o (H : Has 6 E) {n power q0 q1 k : Int} {m z : Nat} {c2 c1 c0 : UInt8} {dg : List UInt8} {y : Sty} (P : PowIn E n power q0 q1 k m 1 z c2 c1 c0 dg y)
    (hp : (y.pow != 0) = false) (hm99 : m ≤ 99) {p a sz : Int}
    (hw : EvClosed E (.fn (.func 20) [] []) [.int .i64 k, .str (109 :: 94 :: 43 :: dg)] = some (.agg [.nils, .int .i64 14, .int .i64 1, .int .i64 0]))
    (hl : EvClosed E (.fn (.func 20) [] []) [.int .i64 k, .str (109 :: 43 :: dg)] = some (.agg [.vs .full 1 [.int .i64 2, .int .i64 p, .int .i64 a, .int .i64 m, .int .i64 0, .str []], .int .i64 0, .int .i64 sz, .int .i64 0]))
    {v : AV} (hv : v.isCell = true) {e2 e3 : Int} (h1 : EvClosed E (.fn (.func 20) [] []) [.int .i64 k, .str [109]] = some (.agg [v, .int .i64 0, .int .i64 e2, .int .i64 e3])) :
    EvClosed E (.fn (.func 6) [] []) [.int .i64 n, .int .i64 power, .agg [.int .i64 q0, .int .i64 q1]] = some (.bool true) := by
  rw [EvClosed_eq H.c6 rfl (vs := [.int .i64 n, .int .i64 power, .agg [.int .i64 q0, .int .i64 q1]]) (by simp), EvFn_eq]
  obtain ⟨h17, hn, hk, hm, hi, hz, z3, d2, d1, d0, hdg, hlen, hst⟩ := P
  have hz3 : (z : Int) ≤ 3 := by omega
  have hmin : z ≤ 9223372036854775804 := by omega
  have hl1 : dg.length + 1 ≤ 9223372036854775807 := by omega
  have hl2 : dg.length + 2 ≤ 9223372036854775807 := by omega
  have hl3 : dg.length + 3 ≤ 9223372036854775807 := by omega
  have hl3' : 3 + dg.length ≤ 9223372036854775807 := by omega
  have hl2' : 2 + dg.length ≤ 9223372036854775807 := by omega
  have hl1' : 1 + dg.length ≤ 9223372036854775807 := by omega
  have hl11 : dg.length + 1 + 1 ≤ 9223372036854775807 := by omega
  have hl12 : dg.length + 1 + 2 ≤ 9223372036854775807 := by omega
  have hpi := pow_ne y
  rw [hp] at hpi
  have hpn : y.pow = 0 := by simpa using hp
  have hb3 := bytes3 c2 c1 c0
  have w1 : IntKind.i64.wrap 1 = 1 := w64
  have w2 : IntKind.i64.wrap 2 = 2 := w64
  have w3 : IntKind.i64.wrap 3 = 3 := w64
  have h99 : decide (99 < (m : Int)) = false := decide_eq_false (by omega)
  simp [f6, start, EvCall_closed H.c17 rfl, EvCall_closed H.c18 rfl, EvCall_closed H.c19 rfl, EvCall_closed H.c20 rfl, h17, hn, hk, hm, hi, hz, hz3, z3, d2, d1, d0, hb3, hdg, hst, hmin, hl1, hl2, hl3, hl1', hl2', hl3', hl11, hl12, hw, hl, h1, push_set, push_setk, hpn, hpi, h99, hv, w1, w2, w3]
set_option maxRecDepth 20000 in
set_option maxHeartbeats 2000000 in
theorem pow_1_f_b (H : Has 6 E) {n power q0 q1 k : Int} {m z : Nat} {c2 c1 c0 : UInt8} {dg : List UInt8} {y : Sty} (P : PowIn E n power q0 q1 k m 1 z c2 c1 c0 dg y)
    (hp : (y.pow != 0) = false) (hm99 : 99 < m) {p a sz : Int}
    (hw : EvClosed E (.fn (.func 20) [] []) [.int .i64 k, .str (109 :: 94 :: 43 :: dg)] = some (.agg [.nils, .int .i64 14, .int .i64 1, .int .i64 0]))
    (hl : EvClosed E (.fn (.func 20) [] []) [.int .i64 k, .str (109 :: 43 :: dg)] = some (.agg [.nils, .int .i64 14, .int .i64 2, .int .i64 0]))
    {v : AV} (hv : v.isCell = true) {e2 e3 : Int} (h1 : EvClosed E (.fn (.func 20) [] []) [.int .i64 k, .str [109]] = some (.agg [v, .int .i64 0, .int .i64 e2, .int .i64 e3])) :
    EvClosed E (.fn (.func 6) [] []) [.int .i64 n, .int .i64 power, .agg [.int .i64 q0, .int .i64 q1]] = some (.bool true) := by
  rw [EvClosed_eq H.c6 rfl (vs := [.int .i64 n, .int .i64 power, .agg [.int .i64 q0, .int .i64 q1]]) (by simp), EvFn_eq]
  obtain ⟨h17, hn, hk, hm, hi, hz, z3, d2, d1, d0, hdg, hlen, hst⟩ := P
  have hz3 : (z : Int) ≤ 3 := by omega
  have hmin : z ≤ 9223372036854775804 := by omega
  have hl1 : dg.length + 1 ≤ 9223372036854775807 := by omega
  have hl2 : dg.length + 2 ≤ 9223372036854775807 := by omega
  have hl3 : dg.length + 3 ≤ 9223372036854775807 := by omega
  have hl3' : 3 + dg.length ≤ 9223372036854775807 := by omega
  have hl2' : 2 + dg.length ≤ 9223372036854775807 := by omega
  have hl1' : 1 + dg.length ≤ 9223372036854775807 := by omega
  have hl11 : dg.length + 1 + 1 ≤ 9223372036854775807 := by omega
  have hl12 : dg.length + 1 + 2 ≤ 9223372036854775807 := by omega
  have hpi := pow_ne y
  rw [hp] at hpi
  have hpn : y.pow = 0 := by simpa using hp
  have hb3 := bytes3 c2 c1 c0
  have w1 : IntKind.i64.wrap 1 = 1 := w64
  have w2 : IntKind.i64.wrap 2 = 2 := w64
  have w3 : IntKind.i64.wrap 3 = 3 := w64
  have h99 : decide (99 < (m : Int)) = true := decide_eq_true (by omega)
  simp [f6, start, EvCall_closed H.c17 rfl, EvCall_closed H.c18 rfl, EvCall_closed H.c19 rfl, EvCall_closed H.c20 rfl, h17, hn, hk, hm, hi, hz, hz3, z3, d2, d1, d0, hb3, hdg, hst, hmin, hl1, hl2, hl3, hl1', hl2', hl3', hl11, hl12, hw, hl, h1, push_set, push_setk, hpn, hpi, h99, hv, w1, w2, w3]
end Go.Pv
