/- Part 30 of the proof: what functions of the program come to. Conditions: none; definitions and theorems that the statement's proof uses. -/
import Derived.Test.YtleaeoncofgkjaaDoorPart28
import Derived.Test.YtleaeoncofgkjaaDoorPart29
import Derived.Test.YtleaeoncofgkjaaDoorPart2
import Derived.ChangeSame
/- What the statement ParsePowers comes to: it holds. Conditions: the functions' codes; theorems. -/
namespace Go.Pv
variable {E : Env} {x : Int}

theorem u8_small {n : Nat} (h : n ≤ 9) : IntKind.u8.wrap (48 + (n : Int)) = (UInt8.ofNat (48 + n)).toNat := by
  have : n = 0 ∨ n = 1 ∨ n = 2 ∨ n = 3 ∨ n = 4 ∨ n = 5 ∨ n = 6 ∨ n = 7 ∨ n = 8 ∨ n = 9 := by omega
  rcases this with rfl | rfl | rfl | rfl | rfl | rfl | rfl | rfl | rfl | rfl <;> rfl
theorem dig_small {n : Nat} (h : n ≤ 9) : isDig (UInt8.ofNat (48 + n)).toNat = true ∧ dig (UInt8.ofNat (48 + n)) = n := by
  have : n = 0 ∨ n = 1 ∨ n = 2 ∨ n = 3 ∨ n = 4 ∨ n = 5 ∨ n = 6 ∨ n = 7 ∨ n = 8 ∨ n = 9 := by omega
  rcases this with rfl | rfl | rfl | rfl | rfl | rfl | rfl | rfl | rfl | rfl <;> decide
/-- Noughts, and a number's three digits. -/
def dgs (m z : Nat) : List UInt8 := List.take z [48, 48, 48] ++ [UInt8.ofNat (48 + m / 100), UInt8.ofNat (48 + m / 10 % 10), UInt8.ofNat (48 + m % 10)]
theorem dgs_ok {m z : Nat} (hm : m ≤ 200) (hz : z ≤ 3) : digits (dgs m z) ∧ dvalF 0 (dgs m z) = m ∧ dgs m z ≠ [] ∧ (dgs m z).length ≤ 6 := by
  have h2 := dig_small (n := m / 100) (by omega)
  have h1 := dig_small (n := m / 10 % 10) (by omega)
  have h0 := dig_small (n := m % 10) (by omega)
  have h48 : isDig (48 : UInt8).toNat = true := by decide
  have d48 : dig 48 = 0 := by decide
  unfold dgs
  generalize UInt8.ofNat (48 + m / 100) = c2 at h2 ⊢
  generalize UInt8.ofNat (48 + m / 10 % 10) = c1 at h1 ⊢
  generalize UInt8.ofNat (48 + m % 10) = c0 at h0 ⊢
  have hz' : z = 0 ∨ z = 1 ∨ z = 2 ∨ z = 3 := by omega
  refine ⟨?_, ?_, by simp, by simp; omega⟩
  · intro c hc
    rcases List.mem_append.1 hc with q | q
    · have : c = 48 := by
        have := List.mem_of_mem_take q
        simpa using this
      rw [this]
      exact h48
    · simp only [List.mem_cons, List.not_mem_nil, or_false] at q
      rcases q with rfl | rfl | rfl
      · exact h2.1
      · exact h1.1
      · exact h0.1
  · have e0 : ∀ l, dvalF 0 (48 :: l) = dvalF 0 l := fun l => by
      show dvalF (0 * 10 + dig 48) l = dvalF 0 l
      rw [d48]
    have e1 : dvalF 0 [c2, c1, c0] = ((0 * 10 + m / 100) * 10 + m / 10 % 10) * 10 + m % 10 := by
      show ((0 * 10 + dig c2) * 10 + dig c1) * 10 + dig c0 = _
      rw [h2.2, h1.2, h0.2]
    have e2 : dvalF 0 [c2, c1, c0] = m := by rw [e1]; omega
    rcases hz' with rfl | rfl | rfl | rfl
    · exact e2
    · exact (e0 _).trans e2
    · exact (e0 _).trans ((e0 _).trans e2)
    · exact (e0 _).trans ((e0 _).trans ((e0 _).trans e2))
theorem mod_nat (a : Int) {b : Nat} (hb : 0 < b) : ∃ i : Nat, i < b ∧ a % (b : Int) = i :=
  ⟨(a % (b : Int)).toNat, by have := Int.emod_lt_of_pos a (by omega : (0 : Int) < b); have := Int.emod_nonneg a (by omega : (b : Int) ≠ 0); omega, by have := Int.emod_nonneg a (by omega : (b : Int) ≠ 0); omega⟩
set_option maxHeartbeats 4000000 in
theorem parsePowers_eq (H : Has 6 E) (n power q0 q1 : Int) : EvClosed E (.fn (.func 6) [] []) [.int .i64 n, .int .i64 power, .agg [.int .i64 q0, .int .i64 q1]] = some (.bool true) := by
  obtain ⟨m, hm, em⟩ := mod_nat power (b := 201) (by omega)
  obtain ⟨i, hi, ei⟩ := mod_nat q0 (b := 3) (by omega)
  obtain ⟨z, hz, ez⟩ := mod_nat q1 (b := 4) (by omega)
  have hk : 1 ≤ 1 + n % 5 ∧ 1 + n % 5 ≤ 5 := by omega
  have hw : IntKind.i64.wrap (1 + n % 5) = 1 + n % 5 := w64
  generalize hkk : 1 + n % 5 = k at hk hw
  have hx : isN k = true := by simp [isN, hk]
  obtain ⟨g1, g2, g3, g4⟩ := dgs_ok (m := m) (z := z) (by omega) (by omega)
  have hst := refOf_eq (H.to 19) k
  rw [sty_cl] at hst
  have e18 : ∀ (a : Int) (b : Nat), 0 < b → b < 1000000 → EvClosed E (.fn (.func 18) [] []) [.int .i64 a, .int .i64 b] = some (.int .i64 (a % b)) := fun a b h1 h2 => rest18_eq (H.to 18) (by omega) (by omega)
  have f1 := e18 power 201 (by omega) (by omega)
  have f2 := e18 q0 3 (by omega) (by omega)
  have f3 := e18 q1 4 (by omega) (by omega)
  rw [em] at f1
  rw [ei] at f2
  rw [ez] at f3
  have P : PowIn E n power q0 q1 k m i z (UInt8.ofNat (48 + m / 100)) (UInt8.ofNat (48 + m / 10 % 10)) (UInt8.ofNat (48 + m % 10)) (dgs m z) (sty k) := by
    refine ⟨awake17_eq (H.to 17), rest18_eq (H.to 18) (by omega) (by omega), by rw [hkk]; exact hw, f1, f2, f3, by omega, ?_, ?_, ?_, rfl, g4, hst⟩
    · have a : IntKind.i64.wrap ((m : Int) / 100) = ((m / 100 : Nat) : Int) := by rw [w64]; rfl
      have b : IntKind.i64.wrap (48 + ((m / 100 : Nat) : Int)) = 48 + ((m / 100 : Nat) : Int) := w64
      rw [a, b]
      exact u8_small (by omega)
    · have a : IntKind.i64.wrap ((m : Int) / 10) = ((m / 10 : Nat) : Int) := by rw [w64]; rfl
      have c : (((m / 10 : Nat) : Int)).tmod 10 = ((m / 10 % 10 : Nat) : Int) := rfl
      have b : IntKind.i64.wrap (48 + ((m / 10 % 10 : Nat) : Int)) = 48 + ((m / 10 % 10 : Nat) : Int) := w64
      rw [a, c, b]
      exact u8_small (by omega)
    · have c : ((m : Int)).tmod 10 = ((m % 10 : Nat) : Int) := rfl
      have b : IntKind.i64.wrap (48 + ((m % 10 : Nat) : Int)) = 48 + ((m % 10 : Nat) : Int) := w64
      rw [c, b]
      exact u8_small (by omega)
  have h1 := parse_eq (H.to 20) k [109] (by simp)
  simp only [Psd.cs, m_ok hx] at h1
  have hv := stepsV_cell (parseP k [109]).tree
  have pe := fun s hs => parse_eq (H.to 20) k s hs
  have right := fun sg (hsg : sg = [] ∨ sg = [43] ∨ sg = [45]) hat hh => powers_right hx hsg g1 g3 g2 (by omega) (by omega) hat hh
  have wrong := fun sg (hsg : sg = [] ∨ sg = [43] ∨ sg = [45]) hat hh => powers_wrong hx hsg g1 g3 g2 (by omega) (by omega) hat hh
  have hi' : i = 0 ∨ i = 1 ∨ i = 2 := by omega
  generalize dgs m z = dg at *
  cases hp : (sty k).pow != 0
  · rw [hp] at right wrong
    simp only [Bool.false_eq_true, if_false, if_true] at right wrong
    have R := fun sg hsg => right sg hsg [] rfl
    have W := fun sg hsg => wrong sg hsg [94] rfl
    simp only [List.nil_append, List.singleton_append] at R W
    rcases hi' with rfl | rfl | rfl
    · have r := R [] (.inl rfl)
      have w := W [] (.inl rfl)
      simp only [List.nil_append, List.singleton_append] at r w
      have q := pe (109 :: dg) (by simp; omega)
      have q' := pe (109 :: 94 :: dg) (by simp; omega)
      rw [w] at q'
      by_cases h99 : m ≤ 99
      · rw [if_pos h99] at r
        rw [r] at q
        exact pow_0_f_o H P hp h99 (by simpa [Psd.cs, stepsV] using q') (by simpa [Psd.cs, stepsV, StepA.cs, signed] using q) hv h1
      · rw [if_neg h99] at r
        rw [r] at q
        exact pow_0_f_b H P hp (by omega) (by simpa [Psd.cs, stepsV] using q') (by simpa [Psd.cs, stepsV] using q) hv h1 (p := 0) (a := 0) (sz := 0)
    · have r := R [43] (.inr (.inl rfl))
      have w := W [43] (.inr (.inl rfl))
      simp only [List.nil_append, List.singleton_append] at r w
      have q := pe (109 :: 43 :: dg) (by simp; omega)
      have q' := pe (109 :: 94 :: 43 :: dg) (by simp; omega)
      rw [w] at q'
      by_cases h99 : m ≤ 99
      · rw [if_pos h99] at r
        rw [r] at q
        exact pow_1_f_o H P hp h99 (by simpa [Psd.cs, stepsV] using q') (by simpa [Psd.cs, stepsV, StepA.cs, signed] using q) hv h1
      · rw [if_neg h99] at r
        rw [r] at q
        exact pow_1_f_b H P hp (by omega) (by simpa [Psd.cs, stepsV] using q') (by simpa [Psd.cs, stepsV] using q) hv h1 (p := 0) (a := 0) (sz := 0)
    · have r := R [45] (.inr (.inr rfl))
      have w := W [45] (.inr (.inr rfl))
      simp only [List.nil_append, List.singleton_append] at r w
      have q := pe (109 :: 45 :: dg) (by simp; omega)
      have q' := pe (109 :: 94 :: 45 :: dg) (by simp; omega)
      rw [w] at q'
      by_cases h99 : m ≤ 99
      · rw [if_pos h99] at r
        rw [r] at q
        exact pow_2_f_o H P hp h99 (by simpa [Psd.cs, stepsV] using q') (by simpa [Psd.cs, stepsV, StepA.cs, signed] using q) hv h1
      · rw [if_neg h99] at r
        rw [r] at q
        exact pow_2_f_b H P hp (by omega) (by simpa [Psd.cs, stepsV] using q') (by simpa [Psd.cs, stepsV] using q) hv h1 (p := 0) (a := 0) (sz := 0)
  · rw [hp] at right wrong
    simp only [Bool.false_eq_true, if_false, if_true] at right wrong
    have R := fun sg hsg => right sg hsg [94] rfl
    have W := fun sg hsg => wrong sg hsg [] rfl
    simp only [List.nil_append, List.singleton_append] at R W
    rcases hi' with rfl | rfl | rfl
    · have r := R [] (.inl rfl)
      have w := W [] (.inl rfl)
      simp only [List.nil_append, List.singleton_append] at r w
      have q := pe (109 :: 94 :: dg) (by simp; omega)
      have q' := pe (109 :: dg) (by simp; omega)
      rw [w] at q'
      by_cases h99 : m ≤ 99
      · rw [if_pos h99] at r
        rw [r] at q
        exact pow_0_t_o H P hp h99 (by simpa [Psd.cs, stepsV, StepA.cs, signed] using q) (by simpa [Psd.cs, stepsV] using q') hv h1
      · rw [if_neg h99] at r
        rw [r] at q
        exact pow_0_t_b H P hp (by omega) (by simpa [Psd.cs, stepsV] using q) (by simpa [Psd.cs, stepsV] using q') hv h1 (p := 0) (a := 0) (sz := 0)
    · have r := R [43] (.inr (.inl rfl))
      have w := W [43] (.inr (.inl rfl))
      simp only [List.nil_append, List.singleton_append] at r w
      have q := pe (109 :: 94 :: 43 :: dg) (by simp; omega)
      have q' := pe (109 :: 43 :: dg) (by simp; omega)
      rw [w] at q'
      by_cases h99 : m ≤ 99
      · rw [if_pos h99] at r
        rw [r] at q
        exact pow_1_t_o H P hp h99 (by simpa [Psd.cs, stepsV, StepA.cs, signed] using q) (by simpa [Psd.cs, stepsV] using q') hv h1
      · rw [if_neg h99] at r
        rw [r] at q
        exact pow_1_t_b H P hp (by omega) (by simpa [Psd.cs, stepsV] using q) (by simpa [Psd.cs, stepsV] using q') hv h1 (p := 0) (a := 0) (sz := 0)
    · have r := R [45] (.inr (.inr rfl))
      have w := W [45] (.inr (.inr rfl))
      simp only [List.nil_append, List.singleton_append] at r w
      have q := pe (109 :: 94 :: 45 :: dg) (by simp; omega)
      have q' := pe (109 :: 45 :: dg) (by simp; omega)
      rw [w] at q'
      by_cases h99 : m ≤ 99
      · rw [if_pos h99] at r
        rw [r] at q
        exact pow_2_t_o H P hp h99 (by simpa [Psd.cs, stepsV, StepA.cs, signed] using q) (by simpa [Psd.cs, stepsV] using q') hv h1
      · rw [if_neg h99] at r
        rw [r] at q
        exact pow_2_t_b H P hp (by omega) (by simpa [Psd.cs, stepsV] using q) (by simpa [Psd.cs, stepsV] using q') hv h1 (p := 0) (a := 0) (sz := 0)
end Go.Pv
/- A call's end as a row wants it, where its arguments hold no place. Conditions: none; lemmas. -/
namespace Go.Pv
open Go.RowKit Go.ChangeShapes Go.WideShapes
variable {H : Type} {enc : TypeId × Value → H} {P : Program}

theorem post_new {f : Func} {s : ChangeSpec} {apart fresh handsOn again : Bool} {W W' : World} {args : Array Value} {v : Value} {ds gs : List (DataW H)}
    (hW : DataW.Whole enc P f.params.toList s.vars apart W args.toList ds gs [])
    (hres : ∀ (b : Nat) (sp : Nat → Bool) (hd : Bool), DataW.TrodAll enc P W' b sp hd f.resultTypes.toList (v.resultList f.resultTypes.size) (s.fn H (ds ++ gs)).results [])
    (hargs : ∀ sp : Nat → Bool, DataW.TrodAll enc P W' 0 sp true f.params.toList args.toList (s.fn H (ds ++ gs)).args [])
    (hvars : ∀ sp : Nat → Bool, DataW.TrodVars enc P W' sp s.vars (s.fn H (ds ++ gs)).vars []) (hk : W.keptBut W' (fun _ => False))
    (hok : ∀ (j : Nat) (t : TypeId) (r : Value), f.resultTypes[j]? = some t → (v.resultList f.resultTypes.size)[j]? = some r → Value.okWide P W' .any 0 t r) :
    s.post enc P f apart fresh handsOn again W args v W' := by
  refine ⟨ds, gs, [], [], [], [], hW, hres _ _ _, hargs _, hvars _, World.keptBut_mono (fun p hp => hp.elim) hk, fun _ => ?_⟩
  refine ⟨hok, _, _, ([] ++ []) ++ [], ⟨[] ++ [], [], trodAll_append (hargs _) (hres _ _ _), hvars _, rfl, ?_, ?_⟩, ?_⟩
  · intro b off hp
    simp at hp
  · intro ha
    simp
  · intro p hp _
    simp at hp
end Go.Pv
