/- Part 6 of the proof: what functions of the program come to. Conditions: none; definitions and theorems that the statement's proof uses. -/
import Derived.Test.YtleaeoncofgkjaaDoorPart5
/- What the reference's functions of chapter 7 come to: of, kind. Conditions: the functions' codes; theorems. -/
namespace Go.Pv
variable {E : Env}

theorem refOf_eq (H : Has 19 E) (x : Int) : EvClosed E (.fn (.func 19) [] []) [.int .i64 x] = some (.agg (sty x).cs) := by
  rw [EvClosed_eq H.c19 rfl (vs := [.int .i64 x]) (by simp), EvFn_eq]
  cases hx : isN x
  · have h1 : (x == 1) = false := by simp [isN] at hx ⊢; omega
    have h2 : (x == 2) = false := by simp [isN] at hx ⊢; omega
    have h3 : (x == 3) = false := by simp [isN] at hx ⊢; omega
    have h4 : (x == 4) = false := by simp [isN] at hx ⊢; omega
    have h5 : (x == 5) = false := by simp [isN] at hx ⊢; omega
    simp [f19, start, h1, h2, h3, h4, h5, sty, hx, Sty.cs, sty0]
  · rcases isN_cases hx with rfl | rfl | rfl | rfl | rfl <;> simp [f19, start, sty, hx, Sty.cs, styL]
theorem sty_mul (x : Int) : (((sty x).mul.toNat : Int) == 0) = !isN x := by
  cases hx : isN x
  · simp [sty, hx, sty0]
  · rcases isN_cases hx with rfl | rfl | rfl | rfl | rfl <;> simp [sty, hx, styL]
theorem u8_eq {c : UInt8} {k : Nat} (h : c.toNat = k) (hk : k < 256 := by omega) : c = UInt8.ofNat k := by
  apply UInt8.toNat.inj
  rw [h, UInt8.toNat_ofNat']
  omega
set_option maxHeartbeats 4000000 in
theorem refKind_eq (H : Has 193 E) (x : Int) (c : UInt8) : EvClosed E (.fn (.func 193) [] []) [.int .i64 x, b8 c] = some (.int .i64 (kind x c)) := by
  rw [EvClosed_eq H.c193 rfl (vs := [.int .i64 x, b8 c]) (by simp), EvFn_eq]
  have ho := refOf_eq (H.to 19) x
  have hmul := sty_mul x
  simp only [Sty.cs] at ho
  cases hx : isN x
  · rw [hx] at hmul
    simp only [Bool.not_false] at hmul
    simp [f193, start, EvCall_closed H.c19 rfl, ho, kind, hx, hmul]
  · rw [hx] at hmul
    simp only [Bool.not_true] at hmul
    simp only [kind, hx, if_true, kindS_int]
    by_cases h0 : ((c.toNat : Int) == 0) = true
    · rw [if_pos h0]
      simp [f193, start, EvCall_closed H.c19 rfl, ho, h0, hmul]
    · rw [if_neg h0]
      have h0' : ((c.toNat : Int) == 0) = false := by simpa using h0
      have F : ∀ k : Int, (c.toNat : Int) ≠ k → ((c.toNat : Int) == k) = false := fun k hk => by simpa using hk
      have B : ∀ k : Nat, c.toNat ≠ k → (c.toNat == k) = false := fun k hk => by simpa using hk
      have D : ∀ {p : Prop} [Decidable p], p → decide p = true := fun hp => decide_eq_true hp
      have N : ∀ {p : Prop} [Decidable p], ¬ p → decide p = false := fun hp => decide_eq_false hp
      have hc := c.toNat_lt
      have hcl : (97 ≤ c.toNat ∧ c.toNat ≤ 122) ∨ (65 ≤ c.toNat ∧ c.toNat ≤ 90) ∨ c.toNat = 37 ∨ c.toNat = 39 ∨ c.toNat = 95 ∨ c.toNat = 91 ∨ c.toNat = 93 ∨ (48 ≤ c.toNat ∧ c.toNat ≤ 57) ∨ (c.toNat < 48 ∧ c.toNat ≠ 37 ∧ c.toNat ≠ 39) ∨ (58 ≤ c.toNat ∧ c.toNat ≤ 64) ∨ (91 ≤ c.toNat ∧ c.toNat ≤ 96 ∧ c.toNat ≠ 91 ∧ c.toNat ≠ 93 ∧ c.toNat ≠ 95) ∨ 123 ≤ c.toNat := by omega
      rcases hcl with h | h | h | h | h | h | h | h | h | h | h | h
      · simp [f193, start, EvCall_closed H.c19 rfl, ho, h0', hmul, D (p := (97 : Int) ≤ c.toNat) (by omega), D (p := (c.toNat : Int) ≤ 122) (by omega)]
      · simp [f193, start, EvCall_closed H.c19 rfl, ho, h0', hmul, N (p := (97 : Int) ≤ c.toNat) (by omega), D (p := (65 : Int) ≤ c.toNat) (by omega), D (p := (c.toNat : Int) ≤ 90) (by omega)]
      · simp [f193, start, EvCall_closed H.c19 rfl, ho, hmul, h]
      · simp [f193, start, EvCall_closed H.c19 rfl, ho, hmul, h]
      · simp [f193, start, EvCall_closed H.c19 rfl, ho, hmul, h]
      · simp [f193, start, EvCall_closed H.c19 rfl, ho, hmul, h]
      · simp [f193, start, EvCall_closed H.c19 rfl, ho, hmul, h]
      · simp [f193, start, EvCall_closed H.c19 rfl, ho, h0', hmul, N (p := (97 : Int) ≤ c.toNat) (by omega), N (p := (65 : Int) ≤ c.toNat) (by omega), F 37 (by omega), F 39 (by omega), F 95 (by omega), F 91 (by omega), F 93 (by omega), D (p := (48 : Int) ≤ c.toNat) (by omega), D (p := (c.toNat : Int) ≤ 57) (by omega), B 37 (by omega), B 39 (by omega), B 95 (by omega), B 91 (by omega), B 93 (by omega)]
      · cases e1 : ((c.toNat : Int) == 43) <;> cases e2 : ((c.toNat : Int) == 45) <;> simp [f193, start, EvCall_closed H.c19 rfl, ho, h0', hmul, e1, e2, N (p := (97 : Int) ≤ c.toNat) (by omega), N (p := (65 : Int) ≤ c.toNat) (by omega), F 37 (by omega), F 39 (by omega), F 95 (by omega), F 91 (by omega), F 93 (by omega), N (p := (48 : Int) ≤ c.toNat) (by omega), B 37 (by omega), B 39 (by omega), B 95 (by omega), B 91 (by omega), B 93 (by omega)] <;> (repeat' split) <;> rfl
      · cases e1 : ((c.toNat : Int) == 43) <;> cases e2 : ((c.toNat : Int) == 45) <;> simp [f193, start, EvCall_closed H.c19 rfl, ho, h0', hmul, e1, e2, N (p := (97 : Int) ≤ c.toNat) (by omega), N (p := (65 : Int) ≤ c.toNat) (by omega), F 37 (by omega), F 39 (by omega), F 95 (by omega), F 91 (by omega), F 93 (by omega), D (p := (48 : Int) ≤ c.toNat) (by omega), N (p := (c.toNat : Int) ≤ 57) (by omega), B 37 (by omega), B 39 (by omega), B 95 (by omega), B 91 (by omega), B 93 (by omega)] <;> (repeat' split) <;> rfl
      · cases e1 : ((c.toNat : Int) == 43) <;> cases e2 : ((c.toNat : Int) == 45) <;> simp [f193, start, EvCall_closed H.c19 rfl, ho, h0', hmul, e1, e2, N (p := (97 : Int) ≤ c.toNat) (by omega), D (p := (65 : Int) ≤ c.toNat) (by omega), N (p := (c.toNat : Int) ≤ 90) (by omega), F 37 (by omega), F 39 (by omega), F 95 (by omega), F 91 (by omega), F 93 (by omega), D (p := (48 : Int) ≤ c.toNat) (by omega), N (p := (c.toNat : Int) ≤ 57) (by omega), B 37 (by omega), B 39 (by omega), B 95 (by omega), B 91 (by omega), B 93 (by omega)] <;> (repeat' split) <;> rfl
      · cases e1 : ((c.toNat : Int) == 43) <;> cases e2 : ((c.toNat : Int) == 45) <;> simp [f193, start, EvCall_closed H.c19 rfl, ho, h0', hmul, e1, e2, D (p := (97 : Int) ≤ c.toNat) (by omega), N (p := (c.toNat : Int) ≤ 122) (by omega), D (p := (65 : Int) ≤ c.toNat) (by omega), N (p := (c.toNat : Int) ≤ 90) (by omega), F 37 (by omega), F 39 (by omega), F 95 (by omega), F 91 (by omega), F 93 (by omega), D (p := (48 : Int) ≤ c.toNat) (by omega), N (p := (c.toNat : Int) ≤ 57) (by omega), B 37 (by omega), B 39 (by omega), B 95 (by omega), B 91 (by omega), B 93 (by omega)] <;> (repeat' split) <;> rfl
end Go.Pv
/- Raising letters, and whether a text may be a note's: what the functions come to. Conditions: the functions' codes; theorems. -/
namespace Go.Pv
variable {E : Env}

theorem bytesOf_b8 : ∀ (s : List UInt8), bytesOf (s.map b8) = some s
  | [] => rfl
  | c :: s => by
    simp only [List.map_cons, b8, bytesOf]
    rw [bytesOf_b8 s]
    simp
theorem pre_at (pre : List UInt8) (c : UInt8) (rest : List UInt8) : ((pre.map b8 ++ b8 c :: rest.map b8).drop pre.length).take 1 = [b8 c] := by
  rw [List.drop_left' (by simp)]
  rfl
theorem pre_set (pre : List UInt8) (c d : UInt8) (rest : List UInt8) : setCells pre.length [b8 d] (pre.map b8 ++ b8 c :: rest.map b8) = (pre ++ [d]).map b8 ++ rest.map b8 := by
  simp only [setCells]
  rw [List.set_append_right _ _ (by simp)]
  simp
theorem mapped_loop {g : UInt8 → UInt8} {f : AV} {h : AHeap} (hf : ∀ c hh, (∀ k, k < h.blks.length → hh.bl k = h.bl k) → EvCall E f [b8 c] hh = some (.ret (b8 (g c)), hh)) : ∀ (rest pre : List UInt8), pre.length + rest.length < 9223372036854775807 → ∀ F,
    mask k77_0 F = s77_0 f (.rs h.blks.length 0 (pre.length + rest.length)) (.rs h.blks.length 0 (pre.length + rest.length)) (.int .i64 (pre.length + rest.length : Nat)) (.int .i64 pre.length) →
    EvCode E (.loop k77_0 l77_0) F (h.still.push (.cells (pre.map b8 ++ rest.map b8))) = some (.exit 0, x77_0 (.rs h.blks.length 0 (pre.length + rest.length)), h.still.push (.cells ((pre ++ rest.map g).map b8)))
  | [], pre, hlen, F, hF => by
    rw [EvCode_loop, hF]
    simp [l77_0, s77_0, x77_0]
  | c :: rest, pre, hlen, F, hF => by
    have ih := mapped_loop hf rest (pre ++ [g c]) (by simp at hlen ⊢; omega)
    have hc := hf c (h.still.push (.cells (pre.map b8 ++ b8 c :: rest.map b8))) (fun k hk => by rw [bl_push, if_neg (by simp; omega)]; rfl)
    rw [EvCode_loop, hF]
    generalize EvCode E (.loop k77_0 l77_0) = lp at ih ⊢
    simp only [List.length_cons] at hlen
    simp only [List.map_cons]
    have hset := push_setk (h := h.still) (x := .cells (pre.map b8 ++ b8 c :: rest.map b8)) (y := .cells (setCells pre.length [b8 (g c)] (pre.map b8 ++ b8 c :: rest.map b8))) (k := h.blks.length) rfl
    rw [pre_set] at hset
    have hlt : (pre.length : Int) < (pre.length : Int) + ((rest.length : Int) + 1) := by omega
    have hps := pre_set pre c (g c) rest
    have hpa := pre_at pre c rest
    have hle : pre.length ≤ pre.length + rest.length := by omega
    simp only [b8, setCells] at hps hpa hset hc
    simp [l77_0, s77_0, hlt, hpa, hc, hps, push_setk, w64 (n := (pre.length : Int) + 1)]
    rw [show pre.length + (rest.length + 1) = (pre ++ [g c]).length + rest.length by simp; omega]
    have := ih
    simp only [b8, List.map_append, List.map_cons, List.map_nil, List.append_assoc, List.cons_append, List.nil_append] at this ⊢
    rw [this _ (by simp [s77_0]; omega)]
    simp
theorem mapped_eq (H : Has 77 E) {g : UInt8 → UInt8} {f : AV} {h : AHeap} (s : List UInt8) (hs : s.length < 1000000) (hf : ∀ c hh, (∀ k, k < h.blks.length → hh.bl k = h.bl k) → EvCall E f [b8 c] hh = some (.ret (b8 (g c)), hh)) :
    EvCall E (.fn (.func 77) [] []) [.str s, f] h = some (.ret (.str (s.map g)), h) := by
  rw [EvCall_reader H.c77 rfl, EvFn_eq]
  have hl := mapped_loop hf s [] (by simp; omega)
  have hb := bytesOf_b8 (s.map g)
  simp only [List.map_nil, List.nil_append, List.length_nil, Nat.zero_add, b8, Int.natCast_zero] at hl hb
  simp [f77, start, (by omega : s.length ≤ 140737488355328)]
  rw [hl _ (by simp [s77_0])]
  simp at hb
  simp [x77_0, take_map_len, hb]

def raise1 (fold : Bool) (c : UInt8) : UInt8 := if fold && decide (97 ≤ c.toNat) && decide (c.toNat ≤ 122) then UInt8.ofNat (c.toNat - 32) else c
def raise (x : Int) (s : List UInt8) : List UInt8 := s.map (raise1 (sty x).fold)
theorem raise1_toNat {c : UInt8} (h1 : 97 ≤ c.toNat) : ((UInt8.ofNat (c.toNat - 32)).toNat : Int) = c.toNat - 32 := by
  have := c.toNat_lt
  rw [UInt8.toNat_ofNat']
  omega
theorem raiseC_eq (H : Has 78 E) {h : AHeap} {b : Nat} {st : Sty} (hb : h.bl b = some (.cells st.cs)) (c : UInt8) : EvCall E (.fn (.func 78) [] [.ref b 0]) [b8 c] h = some (.ret (b8 (raise1 st.fold c)), h) := by
  rw [EvCall_reader H.c78 rfl, EvFn_eq]
  simp only [Sty.cs] at hb
  have hc := c.toNat_lt
  cases hf : st.fold
  · simp [f78, start, hb, hf, raise1]
  · by_cases h1 : 97 ≤ c.toNat
    · by_cases h2 : c.toNat ≤ 122
      · have w1 : IntKind.u8.wrap ((c.toNat : Int) - 97) = (c.toNat : Int) - 97 := by rw [IntKind.wrap_u8]; omega
        have w2 : IntKind.u8.wrap ((c.toNat : Int) - 97 + 65) = (c.toNat : Int) - 32 := by rw [IntKind.wrap_u8]; omega
        have h3 := raise1_toNat h1
        simp [f78, start, hb, hf, raise1, decide_eq_true (p := (97 : Int) ≤ c.toNat) (by omega), decide_eq_true (p := (c.toNat : Int) ≤ 122) (by omega), w1, w2, h1, h2]
        omega
      · simp [f78, start, hb, hf, raise1, decide_eq_true (p := (97 : Int) ≤ c.toNat) (by omega), decide_eq_false (p := (c.toNat : Int) ≤ 122) (by omega), h2]
    · simp [f78, start, hb, hf, raise1, decide_eq_false (p := (97 : Int) ≤ c.toNat) (by omega), h1]
theorem raise_eq (H : Has 64 E) (x : Int) (s : List UInt8) (hs : s.length < 1000000) : EvClosed E (.fn (.func 64) [] []) [.int .i64 x, .str s] = some (.str (raise x s)) := by
  rw [EvClosed_eq H.c64 rfl (vs := [.int .i64 x, .str s]) (by simp), EvFn_eq]
  have ho := of_eq (H.to 44) x
  have hm := mapped_eq (H.to 77) (g := raise1 (sty x).fold) (f := .fn (.func 78) [] [.ref 0 0]) (h := heap0.push (.cells (sty x).cs)) s hs (fun c hh hk => raiseC_eq (H.to 78) (by rw [hk 0 (by simp)]; simp) c)
  simp only [Sty.cs] at ho hm
  simp [f64, start, EvCall_closed H.c44 rfl, ho, push_set, push_setk, hm, raise]
end Go.Pv
