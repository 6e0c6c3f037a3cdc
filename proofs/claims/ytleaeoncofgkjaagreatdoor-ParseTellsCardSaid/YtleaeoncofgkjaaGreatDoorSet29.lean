/- A part of the proof: functions of the program in the evaluator's code, and what they come to. Conditions: none; definitions and theorems that the statement's proof uses. -/
import Derived.Test.YtleaeoncofgkjaaGreatDoorSet14
/- A text that is spoilt. Conditions: the functions' codes; theorems. -/
namespace Go.Pv
variable {E : Env}
def tlen (x : Int) (l : List Tok) : Nat := (joinS x l).length
theorem next_text {x : Int} {s : List UInt8} {k : Int} {t : List UInt8} {n : Int} {l : Nat} (h : nextS x s = some (k, t, n, l)) : (if k == 9 then t.length + 2 else t.length) ≤ l := by
  cases s with
  | nil => cases h
  | cons c r =>
    simp only [nextS] at h
    have r1 := runL_le x 1 (c :: r)
    have r2 := runL_le x 2 (c :: r)
    split at h
    · cases h
    · split at h
      · simp only [Option.some.injEq, Prod.mk.injEq] at h
        obtain ⟨rfl, rfl, _, rfl⟩ := h
        have : (raise x ((c :: r).take (runL x 1 (c :: r)))).length = ((c :: r).take (runL x 1 (c :: r))).length := by simp [raise]
        rw [show ((1 : Int) == 9) = false by decide, this, List.length_take]
        simp only [Bool.false_eq_true, if_false]
        omega
      · split at h
        · cases hq : numOf ((c :: r).take (runL x 2 (c :: r))) with
          | none => rw [hq] at h; cases h
          | some v =>
            rw [hq] at h
            simp only [Option.map_some, Option.some.injEq, Prod.mk.injEq] at h
            obtain ⟨rfl, rfl, _, rfl⟩ := h
            rw [show ((2 : Int) == 9) = false by decide, List.length_take]
            simp only [Bool.false_eq_true, if_false]
            omega
        · split at h
          · cases hq : noteS x r with
            | none => rw [hq] at h; cases h
            | some w =>
              rw [hq] at h
              simp only [Option.map_some, Option.some.injEq, Prod.mk.injEq] at h
              obtain ⟨rfl, rfl, _, rfl⟩ := h
              simp
          · rename_i h9
            simp only [Option.some.injEq, Prod.mk.injEq] at h
            obtain ⟨rfl, rfl, _, rfl⟩ := h
            rw [show (kind x c == 9) = false by simpa using h9]
            simp
theorem tok_len (x : Int) (t : Tok) : (tokT x t).length = if t.kind == 9 then t.text.length + 2 else t.text.length := by
  unfold tokT
  split <;> simp
theorem lexF_join (x : Int) : ∀ (f : Nat) (s : List UInt8) (p : Nat), (joinS x (lexF x f s p).1).length ≤ s.length
  | 0, s, p => by simp [lexF, joinS]
  | f + 1, s, p => by
    cases h : nextS x s with
    | none => simp [lexF, h, joinS]
    | some g =>
      obtain ⟨k, u, n, l⟩ := g
      obtain ⟨l1, l2⟩ := next_len h
      have h3 := next_text h
      have := lexF_join x f (s.drop l) (p + l)
      simp only [List.length_drop, joinS] at this
      simp only [lexF, h, joinS, List.flatMap_cons, List.length_append, tok_len]
      omega
theorem tok_le (x : Int) {t : Tok} {l : List Tok} (h : t ∈ l) : t.text.length ≤ (joinS x l).length := by
  induction l with
  | nil => cases h
  | cons a r ih =>
    have ha := tok_len x a
    have e : (joinS x (a :: r)).length = (tokT x a).length + (joinS x r).length := by simp [joinS]
    rw [e, ha]
    rcases List.mem_cons.1 h with rfl | h
    · split <;> omega
    · have := ih h
      omega
theorem join_app (x : Int) (a b : List Tok) : joinS x (a ++ b) = joinS x a ++ joinS x b := by simp [joinS]
theorem joinV_eq (H : Has 165 E) (x : Int) (l : List Tok) (hl : l.length < 1000000) (ht : ∀ t ∈ l, t.text.length < 1000000) : EvClosed E (.fn (.func 165) [] []) [.int .i64 x, .vs .shared l.length (l.flatMap Tok.cs)] = some (.str (joinS x l)) := by
  cases l with
  | cons a r =>
    have := join_eq H x (a :: r) hl ht
    simpa [toksV] using this
  | nil =>
    rw [EvClosed_eq H.c165 rfl (vs := [.int .i64 x, .vs .shared 0 []]) (by simp), EvFn_eq]
    have ho := refOf_eq (H.to 19) x
    simp only [Sty.cs] at ho
    simp [f165, start, EvCall_closed H.c19 rfl, ho, l165_0, joinS]
    rw [EvCode_loop]
    simp
def takeS (s : List UInt8) (n : Nat) : List UInt8 := s.take n
theorem short157_eq (H : Has 157 E) (s : List UInt8) (n : Nat) (_hn : n < 1000000) : EvClosed E (.fn (.func 157) [] []) [.str s, .int .i64 n] = some (.str (s.take n)) := by
  rw [EvClosed_eq H.c157 rfl (vs := [.str s, .int .i64 n]) (by simp), EvFn_eq]
  by_cases h : n < s.length
  · have d : decide ((n : Int) < (s.length : Int)) = true := decide_eq_true (by omega)
    have d2 : (n : Int) ≤ (s.length : Int) := by omega
    have d3 : n ≤ s.length := by omega
    simp [f157, start, d2, h]
  · have d : decide ((n : Int) < (s.length : Int)) = false := decide_eq_false (by omega)
    rw [List.take_of_length_le (by omega)]
    simp [f157, start, h]
def spoilS (x : Int) (s : List UInt8) (how at_ oth : Int) (tx : List UInt8) : List UInt8 :=
  let l := (lexS x s).1
  if l.isEmpty then s else
  let i := (at_ % l.length).toNat
  let k := (oth % l.length).toNat
  if how % 4 = 0 then joinS x (l.take i) ++ joinS x (l.drop (i + 1)) else
  if how % 4 = 1 then joinS x (l.take i) ++ joinS x ((l.take (i + 1)).drop i) ++ joinS x ((l.take (i + 1)).drop i) ++ joinS x (l.drop (i + 1)) else
  if how % 4 = 2 then joinS x (l.take i) ++ joinS x ((l.take (k + 1)).drop k) ++ joinS x (l.drop (i + 1)) else
  joinS x (l.take i) ++ tx.take 20 ++ joinS x (l.drop (i + 1))
theorem join_take_le (x : Int) (l : List Tok) (i : Nat) : (joinS x (l.take i)).length ≤ (joinS x l).length := by
  have := congrArg List.length (join_app x (l.take i) (l.drop i))
  rw [List.take_append_drop, List.length_append] at this
  omega
theorem join_drop_le (x : Int) (l : List Tok) (i : Nat) : (joinS x (l.drop i)).length ≤ (joinS x l).length := by
  have := congrArg List.length (join_app x (l.take i) (l.drop i))
  rw [List.take_append_drop, List.length_append] at this
  omega
theorem join_cut_le (x : Int) (l : List Tok) (i j : Nat) : (joinS x ((l.take j).drop i)).length ≤ (joinS x l).length := Nat.le_trans (join_drop_le x _ i) (join_take_le x l j)
theorem spoil_len (x : Int) (s : List UInt8) (how at_ oth : Int) (tx : List UInt8) : (spoilS x s how at_ oth tx).length ≤ 4 * s.length + 20 := by
  have h : (joinS x (lexS x s).1).length ≤ s.length := lexF_join x _ _ _
  unfold spoilS
  dsimp only
  generalize (lexS x s).1 = l at *
  generalize (at_ % l.length).toNat = i
  generalize (oth % l.length).toNat = k
  have h1 := join_take_le x l i
  have h2 := join_drop_le x l (i + 1)
  have h3 := join_cut_le x l i (i + 1)
  have h4 := join_cut_le x l k (k + 1)
  have h5 : (tx.take 20).length ≤ 20 := by simp; omega
  split
  · omega
  · split
    · rw [List.length_append]; omega
    · split
      · simp only [List.length_append]; omega
      · split <;> simp only [List.length_append] <;> omega
set_option maxHeartbeats 4000000 in
theorem spoil_eq (H : Has 156 E) (x : Int) (s : List UInt8) (hs : s.length < 900000) (how at_ oth : Int) (tx : List UInt8) : EvClosed E (.fn (.func 156) [] []) [.int .i64 x, .str s, .agg [.int .i64 how, .int .i64 at_, .int .i64 oth, .str tx]] = some (.str (spoilS x s how at_ oth tx)) := by
  rw [EvClosed_eq H.c156 rfl (vs := [.int .i64 x, .str s, .agg [.int .i64 how, .int .i64 at_, .int .i64 oth, .str tx]]) (by simp), EvFn_eq]
  obtain ⟨g, v, e1, G, ro, rot, hold⟩ := each164_open (H.to 164) x s hs (heap0.push (.cells [.int .i64 how, .int .i64 at_, .int .i64 oth, .str tx])) rfl (Nat.le_refl _)
  have hb := hold 0 (by simp)
  simp at hb
  have n0 := blk_ne hb
  have hlen := lexF_len x s.length s 0
  have e : lexF x s.length s 0 = lexS x s := rfl
  have hjn : (joinS x (lexS x s).1).length ≤ s.length := lexF_join x _ _ _
  rw [e] at hlen
  have vc := G.cell
  have vcs := G.cells
  unfold AV.cells? at vcs
  have hmem : ∀ t ∈ (lexS x s).1, t.text.length < 1000000 := fun t h => by have := tok_le x h; omega
  have hll := hlen.1
  unfold spoilS
  dsimp only
  generalize (lexS x s).1 = l at *
  generalize (lexS x s).2 = e2 at *
  rcases G with ⟨rfl, h0, h00⟩ | ⟨k, rfl, hcl, hk1, hk2, hpos⟩
  · have hl0 : l = [] := List.eq_nil_of_length_eq_zero h00
    subst hl0
    simp [f156, start, e1]
  · have hle : l.isEmpty = false := by cases l with
      | nil => simp at hpos
      | cons _ _ => rfl
    have hlz : ((l.length : Int) == 0) = false := by simp; intro h; rw [h] at hpos; simp at hpos
    have r18 := fun (a : Int) => rest18_eq (H.to 18) (x := a) (m := (l.length : Int)) (by omega) (by omega)
    have r4 := rest18_eq (H.to 18) (x := how) (m := 4) (by omega) (by omega)
    obtain ⟨i, hi⟩ : ∃ i : Nat, at_ % (l.length : Int) = i := ⟨(at_ % (l.length : Int)).toNat, by have := Int.emod_nonneg at_ (b := (l.length : Int)) (by omega); omega⟩
    obtain ⟨j, hj⟩ : ∃ j : Nat, oth % (l.length : Int) = j := ⟨(oth % (l.length : Int)).toNat, by have := Int.emod_nonneg oth (b := (l.length : Int)) (by omega); omega⟩
    have hil : i < l.length := by have := Int.emod_lt_of_pos at_ (b := (l.length : Int)) (by omega); omega
    have hjl : j < l.length := by have := Int.emod_lt_of_pos oth (b := (l.length : Int)) (by omega); omega
    have ri := r18 at_
    have rj := r18 oth
    rw [hi] at ri ⊢
    rw [hj] at rj ⊢
    simp only [hle, Bool.false_eq_true, if_false, Int.toNat_natCast]
    have lt : ∀ (a b : Nat), ((l.take b).drop a).length ≤ l.length := fun a b => by simp; omega
    have mt : ∀ (a b : Nat), ∀ t ∈ (l.take b).drop a, t.text.length < 1000000 := fun a b t h => hmem t (List.mem_of_mem_take (List.mem_of_mem_drop h))
    have jn := fun (a b : Nat) => joinV_eq (H.to 165) x ((l.take b).drop a) (by have := lt a b; omega) (mt a b)
    have j1 := jn 0 i
    have j2 := jn i (i + 1)
    have j3 := jn (i + 1) l.length
    have j4 := jn j (j + 1)
    have k1 := join_take_le x l i
    have k2 := join_drop_le x l (i + 1)
    have k3 := join_cut_le x l i (i + 1)
    have k4 := join_cut_le x l j (j + 1)
    have k5 : (tx.take 20).length ≤ 20 := by simp; omega
    have t20 : EvClosed E (.fn (.func 157) [] []) [.str tx, .int .i64 20] = some (.str (tx.take 20)) := short157_eq (H.to 157) tx 20 (by omega)
    have z1 : ((l.take i).drop 0).length = i := by simp; omega
    have z2 : ((l.take (i + 1)).drop i).length = 1 := by simp; omega
    have z3 : ((l.take l.length).drop (i + 1)).length = l.length - (i + 1) := by simp
    have z4 : ((l.take (j + 1)).drop j).length = 1 := by simp; omega
    have y1 : (l.flatMap Tok.cs).take (i * 4) = (l.take i).flatMap Tok.cs := fm_take Tok.len _ _
    have y2 : ((l.flatMap Tok.cs).take ((i + 1) * 4)).drop (i * 4) = ((l.take (i + 1)).drop i).flatMap Tok.cs := by rw [fm_take Tok.len, fm_drop Tok.len]
    have y3 : (((l.flatMap Tok.cs).take (l.length * 4)).drop ((i + 1) * 4)) = (l.drop (i + 1)).flatMap Tok.cs := by rw [fm_take Tok.len, List.take_length, fm_drop Tok.len]
    have y4 : ((l.flatMap Tok.cs).take ((j + 1) * 4)).drop (j * 4) = ((l.take (j + 1)).drop j).flatMap Tok.cs := by rw [fm_take Tok.len, fm_drop Tok.len]
    rw [z1, List.drop_zero] at j1
    rw [z2] at j2
    rw [z3, List.take_length] at j3
    rw [z4] at j4
    have shs := fun (m : List Tok) => shutL_flat (n := 0) (t := 0) (f := Tok.cs) (fun t => t.shut) m
    have s1 := shs (l.take i)
    have s2 := shs ((l.take (i + 1)).drop i)
    have s3 := shs (l.drop (i + 1))
    have s4 := shs ((l.take (j + 1)).drop j)
    generalize joinS x (l.take i) = a1 at *
    generalize joinS x ((l.take (i + 1)).drop i) = a2 at *
    generalize joinS x (l.drop (i + 1)) = a3 at *
    generalize joinS x ((l.take (j + 1)).drop j) = a4 at *
    generalize (l.take i).flatMap Tok.cs = c1 at *
    generalize ((l.take (i + 1)).drop i).flatMap Tok.cs = c2 at *
    generalize (l.drop (i + 1)).flatMap Tok.cs = c3 at *
    generalize ((l.take (j + 1)).drop j).flatMap Tok.cs = c4 at *
    generalize l.flatMap Tok.cs = ca at *
    generalize joinS x l = a at *
    generalize tx.take 20 = t2 at *
    have w1 : IntKind.i64.wrap ((i : Int) + 1) = (i : Int) + 1 := w64
    have w2 : IntKind.i64.wrap ((j : Int) + 1) = (j : Int) + 1 := w64
    have q1 : (i : Int) ≤ (l.length : Int) := by omega
    have q2 : (i : Int) + 1 ≤ (l.length : Int) := by omega
    have q3 : (j : Int) + 1 ≤ (l.length : Int) := by omega
    have q4 : i ≤ l.length := by omega
    have q5 : i + 1 ≤ l.length := by omega
    have q6 : j + 1 ≤ l.length := by omega
    have m1 : a1.length + a3.length ≤ 9223372036854775807 := by omega
    have m2 : a1.length + a2.length ≤ 9223372036854775807 := by omega
    have m3 : a1.length + a2.length + a2.length ≤ 9223372036854775807 := by omega
    have m3b : a1.length + (a2.length + a2.length) ≤ 9223372036854775807 := by omega
    have m4b : a1.length + (a2.length + a2.length) + a3.length ≤ 9223372036854775807 := by omega
    have m4 : a1.length + a2.length + a2.length + a3.length ≤ 9223372036854775807 := by omega
    have m5 : a1.length + a4.length ≤ 9223372036854775807 := by omega
    have m6 : a1.length + a4.length + a3.length ≤ 9223372036854775807 := by omega
    have m7 : a1.length + t2.length ≤ 9223372036854775807 := by omega
    have m8 : a1.length + t2.length + a3.length ≤ 9223372036854775807 := by omega
    have p1 : (0 : Int) ≤ (i : Int) + 1 := by omega
    have p2 : (0 : Int) ≤ (j : Int) + 1 := by omega
    have p3 : (i : Int) ≤ (i : Int) + 1 := by omega
    have p4 : (j : Int) ≤ (j : Int) + 1 := by omega
    have hw4 : how % 4 = 0 ∨ how % 4 = 1 ∨ how % 4 = 2 ∨ how % 4 = 3 := by omega
    generalize how % 4 = w4 at *
    rcases hw4 with rfl | rfl | rfl | rfl
    all_goals simp [f156, start, e1, hb, EvCall_closed H.c18 rfl, EvCall_closed H.c165 rfl, EvCall_closed H.c157 rfl, r4, ri, rj, j1, j2, j3, j4, t20, y1, y2, y3, y4, hlz, w1, w2, hcl, p1, p2, p3, p4, q1, q2, q3, m1, m2, m3, m4b, m5, m6, m7, m8]
end Go.Pv
