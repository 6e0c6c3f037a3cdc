/- Part 22 of the proof: what functions of the program come to. Conditions: none; definitions and theorems that the statement's proof uses. -/
import Derived.Test.YtleaeoncofgkjaaDoorPart21
/- What the statement LegalTells comes to. Conditions: the functions' codes; theorems. -/
namespace Go.Pv
variable {E : Env} {n : Nat}

theorem tells_loop (l : List (List UInt8)) (hl : l.length < 5000) {t0 t1 t2 : AV} {h : AHeap} : ∀ (m i : Nat), i + m = l.length → ∀ F, mask k9_0 F = s9_0 t0 t1 t2 (textsV l) (textsV l) (.int .i64 i) →
    EvCode E (.loop k9_0 l9_0) F h = some (.exit 0, x9_0 t0 t1 t2 (textsV l), h)
  | 0, i, hi, F, hF => by
    have hi' : i = l.length := by omega
    subst hi'
    rw [EvCode_loop, hF]
    unfold textsV
    split
    · rename_i he
      have : l = [] := by simpa using he
      subst this
      simp [l9_0, s9_0, x9_0]
    · simp [l9_0, s9_0, x9_0]
  | m + 1, i, hi, F, hF => by
    have hlt : i < l.length := by omega
    have he : l.isEmpty = false := by
      cases l with
      | nil => simp at hlt
      | cons a l => rfl
    have ih := tells_loop l hl (t0 := t0) (t1 := t1) (t2 := t2) (h := h) m (i + 1) (by omega)
    rw [EvCode_loop, hF]
    simp only [textsV, he, Bool.false_eq_true, if_false] at ih ⊢
    generalize EvCode E (.loop k9_0 l9_0) = lp at ih ⊢
    simp [l9_0, s9_0, hlt, map_at hlt, (by omega : 1 ≤ l.length - i), w64 (n := (i : Int) + 1)]
    exact ih _ (by simp [s9_0])
/-- What a round of tells has of the functions that it calls. -/
structure TellsIn (E : Env) (x : Int) (s : List UInt8) (r : Int) (row : AV) (k : Int) (b : Bool) (t : List UInt8) (is_ : Bool) : Prop where
  h11 : EvClosed E (.fn (.func 11) [] []) [.int .i64 x] = some row
  h21 : EvClosed E (.fn (.func 21) [] []) [.int .i64 x] = some row
  h12 : EvClosed E (.fn (.func 12) [] []) [.int .i64 x, .str s] = some (.tuple [.int .i64 (if b then k else 0), .bool b])
  h22 : EvClosed E (.fn (.func 22) [] []) [row, .str s] = some (.int .i64 k)
  h14 : EvClosed E (.fn (.func 14) [] []) [.int .i64 x, .int .i64 r] = some (.tuple [.str t, .bool is_])
  hk : decide (0 ≤ k) = b
set_option maxHeartbeats 1000000 in
theorem tells_nil (H : Has 9 E) {x : Int} {s : List UInt8} {r k : Int} {b : Bool} (T : TellsIn E x s r .nils k b [] false) : EvClosed E (.fn (.func 9) [] []) [.int .i64 x, .str s, .int .i64 r] = some (.bool true) := by
  rw [EvClosed_eq H.c9 rfl (vs := [.int .i64 x, .str s, .int .i64 r]) (by simp), EvFn_eq]
  obtain ⟨h11, h21, h12, h22, h14, hk⟩ := T
  have hl := fun h => tells_loop (E := E) [] (by simp) (t0 := .int .i64 x) (t1 := .str s) (t2 := .int .i64 r) (h := h) 0 0 rfl
  simp only [textsV, List.isEmpty_nil, if_true] at hl
  have hx : (decide (0 ≤ r) && decide (r < (0 : Int))) = false := by
    cases h : decide (0 ≤ r)
    · rfl
    · have : ¬ r < 0 := by simp at h; omega
      simp [this]
  simp [f9, start, EvCall_closed H.c11 rfl, EvCall_closed H.c21 rfl, h11, h21]
  rw [hl _ _ (by simp [s9_0])]
  cases hc : decide (0 ≤ r)
  · cases b <;> simp [x9_0, EvCall_closed H.c12 rfl, EvCall_closed H.c14 rfl, EvCall_closed H.c22 rfl, h12, h14, h22, hk, hc]
  · have hc' : ¬ r < 0 := by simp at hc; omega
    cases b <;> simp [x9_0, EvCall_closed H.c12 rfl, EvCall_closed H.c14 rfl, EvCall_closed H.c22 rfl, h12, h14, h22, hk, hc, hc']
set_option maxHeartbeats 1000000 in
theorem tells_in (H : Has 9 E) {x : Int} {s : List UInt8} {k : Int} {b : Bool} {l : List (List UInt8)} (hlen : l.length < 5000) {i : Nat} (hi : i < l.length) (T : TellsIn E x s i (.vs .shared l.length (l.map .str)) k b l[i] true) : EvClosed E (.fn (.func 9) [] []) [.int .i64 x, .str s, .int .i64 i] = some (.bool true) := by
  rw [EvClosed_eq H.c9 rfl (vs := [.int .i64 x, .str s, .int .i64 i]) (by simp), EvFn_eq]
  obtain ⟨h11, h21, h12, h22, h14, hk⟩ := T
  have hl := fun h => tells_loop (E := E) l hlen (t0 := .int .i64 x) (t1 := .str s) (t2 := .int .i64 i) (h := h) l.length 0 (by omega)
  have hie : l.isEmpty = false := by
    cases l with
    | nil => simp at hi
    | cons a l => rfl
  simp only [textsV, hie, Bool.false_eq_true, if_false] at hl
  simp [f9, start, EvCall_closed H.c11 rfl, EvCall_closed H.c21 rfl, h11, h21]
  rw [hl _ _ (by simp [s9_0])]
  cases b <;> simp [x9_0, EvCall_closed H.c12 rfl, EvCall_closed H.c14 rfl, EvCall_closed H.c22 rfl, h12, h14, h22, hk, hi, map_at hi, (by omega : 1 ≤ l.length - i)]
set_option maxHeartbeats 1000000 in
theorem tells_out (H : Has 9 E) {x : Int} {s : List UInt8} {r k : Int} {b : Bool} {l : List (List UInt8)} (hlen : l.length < 5000) (hne : l.isEmpty = false) (hr : r < 0 ∨ (l.length : Int) ≤ r) (T : TellsIn E x s r (.vs .shared l.length (l.map .str)) k b [] false) : EvClosed E (.fn (.func 9) [] []) [.int .i64 x, .str s, .int .i64 r] = some (.bool true) := by
  rw [EvClosed_eq H.c9 rfl (vs := [.int .i64 x, .str s, .int .i64 r]) (by simp), EvFn_eq]
  obtain ⟨h11, h21, h12, h22, h14, hk⟩ := T
  have hl := fun h => tells_loop (E := E) l hlen (t0 := .int .i64 x) (t1 := .str s) (t2 := .int .i64 r) (h := h) l.length 0 (by omega)
  simp only [textsV, hne, Bool.false_eq_true, if_false] at hl
  simp [f9, start, EvCall_closed H.c11 rfl, EvCall_closed H.c21 rfl, h11, h21]
  rw [hl _ _ (by simp [s9_0])]
  rcases hr with hr | hr
  · have hc : decide (0 ≤ r) = false := decide_eq_false (by omega)
    cases b <;> simp [x9_0, EvCall_closed H.c12 rfl, EvCall_closed H.c14 rfl, EvCall_closed H.c22 rfl, h12, h14, h22, hk, hc]
  · have hc : decide (0 ≤ r) = true := decide_eq_true (by omega)
    have hd : decide (r < (l.length : Int)) = false := decide_eq_false (by omega)
    cases b <;> simp [x9_0, EvCall_closed H.c12 rfl, EvCall_closed H.c14 rfl, EvCall_closed H.c22 rfl, h12, h14, h22, hk, hc, hd]
theorem tells_eq (H : Has 9 E) (x : Int) (s : List UInt8) (r : Int) : EvClosed E (.fn (.func 9) [] []) [.int .i64 x, .str s, .int .i64 r] = some (.bool true) := by
  have h11 := legalRow_eq (H.to 11) x
  have h12 := legalRank_eq (H.to 12) x s
  have h14 := legalAt_eq (H.to 14) x r
  have h21 := legalRefRow_eq (H.to 21) x
  have hlen := symsT_len x
  have h22 := refRank_eq (H.to 22) (symsT x) hlen s
  have hrr := rankOf_range (symsT x) s
  generalize symsT x = l at *
  have hr : ∃ (k : Int) (b : Bool), rankOf l s = k ∧ (if k = -1 then 0 else k) = (if b then k else 0) ∧ (k != -1) = b ∧ decide (0 ≤ k) = b := by
    rcases hrr with h | ⟨i, _, h⟩
    · exact ⟨-1, false, h, by simp, by simp, by simp⟩
    · exact ⟨i, true, h, by rw [if_neg (by omega)]; simp, by simp, by simp⟩
  obtain ⟨k, b, hk, hk1, hk2, hk3⟩ := hr
  rw [hk, hk2, hk1] at h12
  rw [hk] at h22
  cases hie : l.isEmpty
  · simp only [textsV, hie, Bool.false_eq_true, if_false] at h11 h21 h22
    by_cases hc : 0 ≤ r ∧ r < l.length
    · obtain ⟨i, rfl⟩ : ∃ i : Nat, r = i := ⟨r.toNat, by omega⟩
      have hi : i < l.length := by omega
      have ha : atOf l i = (l[i], true) := by
        rw [atOf, if_pos hc]
        simp [hi]
      rw [ha] at h14
      exact tells_in H hlen hi ⟨h11, h21, h12, h22, h14, hk3⟩
    · have ha : atOf l r = ([], false) := if_neg hc
      rw [ha] at h14
      exact tells_out H hlen hie (by omega) ⟨h11, h21, h12, h22, h14, hk3⟩
  · have : l = [] := by simpa using hie
    subst this
    have ha : atOf [] r = ([], false) := if_neg (by simp only [List.length_nil]; omega)
    rw [ha] at h14
    simp only [textsV, List.isEmpty_nil, if_true] at h11 h21 h22
    exact tells_nil H ⟨h11, h21, h12, h22, h14, hk3⟩
theorem legalTells_eq (H : Has 3 E) (x : Int) (s : List UInt8) (r : Int) : EvClosed E (.fn (.func 3) [] []) [.int .i64 x, .str s, .int .i64 r] = some (.bool true) := by
  rw [EvClosed_eq H.c3 rfl (vs := [.int .i64 x, .str s, .int .i64 r]) (by simp), EvFn_eq]
  have h8 := awake_eq (H.to 8)
  have h9 := fun x s r => tells_eq (H.to 9) x s r
  have h10 := rest10_eq (H.to 10) (x := x) (m := 8) (by omega) (by omega)
  have h11 := rest10_eq (H.to 10) (x := r) (m := 900) (by omega) (by omega)
  have hw : IntKind.i64.wrap (x % 8 - 1) = x % 8 - 1 := w64
  by_cases hc : s.length ≤ 16
  · have : decide ((16 : Int) < s.length) = false := decide_eq_false (by omega)
    simp [f3, start, EvCall_closed H.c8 rfl, EvCall_closed H.c9 rfl, EvCall_closed H.c10 rfl, h8, h9, h10, h11, hw, hc, this]
  · have : decide ((16 : Int) < s.length) = true := decide_eq_true (by omega)
    have h16 : (16 : Int) ≤ s.length := by omega
    simp [f3, start, EvCall_closed H.c8 rfl, EvCall_closed H.c9 rfl, EvCall_closed H.c10 rfl, h8, h9, h10, h11, hw, hc, this, h16]
end Go.Pv
