/- Part 19 of the proof: what functions of the program come to. Conditions: none; definitions and theorems that the statement's proof uses. -/
import Derived.Test.YtleaeoncofgkjaaDoorPart18
/- Symbols are told once each; how many; a rank in the reference; a rest. Conditions: the functions' codes; theorems. -/
namespace Go.Pv
variable {E : Env} {B : Tb} {n : Nat}

/-! ### No symbol is told twice -/
theorem mem_toldL {L : List AtomR} {Q : List PrefR} {p : Int} {l : List (AtomR × Nat)} {y : Nat × Int} (h : y ∈ toldL n L Q p l) : y.2 = p ∧ toldB n L Q (symTxt n L Q y) y.2 y.1 = true ∧ ∃ x ∈ l, x.2 = y.1 := by
  simp only [toldL, List.mem_map, List.mem_filter] at h
  obtain ⟨x, ⟨h1, h2⟩, rfl⟩ := h
  exact ⟨rfl, h2, x, h1, rfl⟩
theorem told_inj {L : List AtomR} {Q : List PrefR} {x y : Nat × Int} (hx : toldB n L Q (symTxt n L Q x) x.2 x.1 = true) (hy : toldB n L Q (symTxt n L Q y) y.2 y.1 = true) (he : symTxt n L Q x = symTxt n L Q y) : x = y := by
  rw [he] at hx
  simp only [toldB, Bool.and_eq_true, beq_iff_eq] at hx hy
  have h1 : (x.1 : Int) = y.1 := hx.2.2.2.symm.trans hy.2.2.2
  have h2 : x.2 = y.2 := hx.2.2.1.symm.trans hy.2.2.1
  exact Prod.ext (by omega) h2
theorem zipIdx_nodup {α : Type} : ∀ (l : List α) (i : Nat), ((l.zipIdx i).map (·.2)).Nodup := by
  intro l i
  rw [List.zipIdx_map_snd]
  exact List.nodup_range'
theorem toldL_nodup (L : List AtomR) (Q : List PrefR) (p : Int) {l : List (AtomR × Nat)} (h : (l.map (·.2)).Nodup) : (toldL n L Q p l).Nodup := by
  induction l with
  | nil => simp [toldL]
  | cons x l ih =>
    rw [List.map_cons, List.nodup_cons] at h
    rw [toldL_cons]
    split
    · rw [List.nodup_cons]
      refine ⟨fun hm => ?_, ih h.2⟩
      obtain ⟨_, _, y, hy, he⟩ := mem_toldL hm
      exact h.1 (List.mem_map.2 ⟨y, hy, he⟩)
    · exact ih h.2
theorem mem_allFrom {L : List AtomR} {Q : List PrefR} {i : Nat} {y : Nat × Int} (h : y ∈ allFrom n L Q i) : toldB n L Q (symTxt n L Q y) y.2 y.1 = true ∧ (i : Int) - 1 ≤ y.2 ∧ y.1 < L.length ∧ y.2 < Q.length := by
  simp only [allFrom, List.mem_flatMap, List.mem_range'_1] at h
  obtain ⟨k, hk, h⟩ := h
  obtain ⟨h1, h2, x, hx, he⟩ := mem_toldL h
  have := List.snd_lt_of_mem_zipIdx hx
  exact ⟨h2, by omega, by omega, by omega⟩
theorem allFrom_nodup (L : List AtomR) (Q : List PrefR) : ∀ (m i : Nat), i + m = Q.length + 1 → (allFrom n L Q i).Nodup
  | 0, i, hi => by
    have : i = Q.length + 1 := by omega
    subst this
    rw [allFrom_end]
    simp
  | m + 1, i, hi => by
    rw [allFrom_step (by omega), List.nodup_append]
    refine ⟨toldL_nodup L Q _ (zipIdx_nodup _ _), allFrom_nodup L Q m (i + 1) (by omega), fun a ha b hb hab => ?_⟩
    subst hab
    have h1 := (mem_toldL ha).1
    have h2 := (mem_allFrom hb).2.1
    omega
theorem rowT_nodup (B : Tb) (x : Int) : (rowT B x).Nodup := by
  unfold rowT rowL
  split
  · have h := allFrom_nodup (n := (x - 1).toNat) B.L B.Q (B.Q.length + 1) 0 (by omega)
    have hm : ∀ y ∈ allFrom (x - 1).toNat B.L B.Q 0, toldB (x - 1).toNat B.L B.Q (symTxt (x - 1).toNat B.L B.Q y) y.2 y.1 = true := fun y hy => (mem_allFrom hy).1
    generalize allFrom (x - 1).toNat B.L B.Q 0 = l at h hm
    induction l with
    | nil => simp
    | cons y l ih =>
      rw [List.nodup_cons] at h
      rw [List.map_cons, List.nodup_cons]
      refine ⟨fun hh => ?_, ih h.2 fun z hz => hm z (List.mem_cons_of_mem _ hz)⟩
      obtain ⟨z, hz, he⟩ := List.mem_map.1 hh
      have := told_inj (hm z (List.mem_cons_of_mem _ hz)) (hm y List.mem_cons_self) he
      subst this
      exact h.1 hz
  · simp
theorem allFrom_len (L : List AtomR) (Q : List PrefR) : ∀ (m i : Nat), i + m = Q.length + 1 → (allFrom n L Q i).length ≤ m * L.length
  | 0, i, hi => by
    have : i = Q.length + 1 := by omega
    subst this
    rw [allFrom_end]
    simp
  | m + 1, i, hi => by
    rw [allFrom_step (by omega), List.length_append, Nat.add_mul]
    have h1 := toldL_len (n := n) L Q ((i : Int) - 1) (L.zipIdx 0)
    have h2 := allFrom_len L Q m (i + 1) (by omega)
    simp at h1
    omega

/-! ### A rank in the reference; a rest -/
theorem refRank_loop (s : List UInt8) (l : List (List UInt8)) (hl : l.length < 5000) {h : AHeap} : ∀ (m i : Nat), i + m = l.length → ∀ F, mask k22_0 F = s22_0 (textsV l) (.str s) (.int .i64 i) →
    EvCode E (.loop k22_0 l22_0) F h = some (if rankOf (l.drop i) s = -1 then (.exit 0, x22_0, h) else (.ret, r22 (.int .i64 (i + rankOf (l.drop i) s)), h))
  | 0, i, hi, F, hF => by
    have hi' : i = l.length := by omega
    subst hi'
    rw [EvCode_loop, hF]
    unfold textsV
    split
    · rename_i he
      have : l = [] := by simpa using he
      subst this
      simp [l22_0, s22_0, x22_0, rankOf, idxV]
    · simp [l22_0, s22_0, x22_0, rankOf, idxV]
  | m + 1, i, hi, F, hF => by
    have hlt : i < l.length := by omega
    have he : l.isEmpty = false := by
      cases l with
      | nil => simp at hlt
      | cons a l => rfl
    have ih := refRank_loop s l hl (h := h) m (i + 1) (by omega)
    have hr : rankOf (l.drop i) s = if l[i] == s then 0 else if rankOf (l.drop (i + 1)) s = -1 then -1 else rankOf (l.drop (i + 1)) s + 1 := by
      rw [List.drop_eq_getElem_cons hlt]
      exact idxV_cons _ _ _
    rw [EvCode_loop, hF, hr]
    simp only [textsV, he, Bool.false_eq_true, if_false] at ih ⊢
    generalize EvCode E (.loop k22_0 l22_0) = lp at ih ⊢
    cases hp : (l[i] == s)
    · simp [l22_0, s22_0, hlt, map_at hlt, hp, (by omega : 1 ≤ l.length - i), w64 (n := (i : Int) + 1)]
      rw [ih _ (by simp [s22_0])]
      have : rankOf (l.drop (i + 1)) s = -1 ∨ ∃ k : Nat, k < (l.drop (i + 1)).length ∧ rankOf (l.drop (i + 1)) s = k := idxV_range _ _
      rcases this with hq | ⟨k, _, hq⟩
      · simp [hq]
      · rw [hq, if_neg (by omega), if_neg (by omega), if_neg (by omega)]
        simp [r22]
        omega
    · simp [l22_0, s22_0, hlt, map_at hlt, hp, (by omega : 1 ≤ l.length - i), r22]
theorem textsV_shut (l : List (List UInt8)) : shut 0 0 (textsV l) = some (textsV l) := by
  unfold textsV
  have := shutL_map (n := 0) (t := 0) shut_str l
  split <;> simp [this]
theorem refRank_eq (H : Has 22 E) (l : List (List UInt8)) (hl : l.length < 5000) (s : List UInt8) : EvClosed E (.fn (.func 22) [] []) [textsV l, .str s] = some (.int .i64 (rankOf l s)) := by
  rw [EvClosed_eq H.c22 rfl (vs := [textsV l, .str s]) (by simp [textsV_shut]), EvFn_eq]
  simp [f22, start]
  rw [refRank_loop s l hl l.length 0 (by omega) _ (by simp [s22_0])]
  by_cases hq : rankOf l s = -1 <;> simp [hq, x22_0, r22]
theorem rest10_eq (H : Has 10 E) {x m : Int} (hm : 0 < m) (hm2 : m < 1000000) : EvClosed E (.fn (.func 10) [] []) [.int .i64 x, .int .i64 m] = some (.int .i64 (x % m)) := by
  rw [EvClosed_eq H.c10 rfl (vs := [.int .i64 x, .int .i64 m]) (by simp), EvFn_eq]
  have h0 : m ≠ 0 := by omega
  have hb : -m < x.tmod m ∧ x.tmod m < m := ⟨Int.lt_tmod_of_pos x hm, Int.tmod_lt_of_pos x hm⟩
  have hw : IntKind.i64.wrap (x.tmod m + m) = x.tmod m + m := w64
  have he : (x.tmod m + m).tmod m = x % m := by
    have h1 : (x.tmod m + m).tmod m = (x.tmod m + m) % m := Int.tmod_eq_emod_of_nonneg (by omega)
    rw [h1, Int.add_emod_right]
    have h3 : x.tmod m = x - m * x.tdiv m := by have := Int.mul_tdiv_add_tmod x m; omega
    rw [h3, Int.sub_mul_emod_self_left]
  simp [f10, start, h0, hw, he]
end Go.Pv
