/- A part of the proof: functions of the program in the evaluator's code, and what they come to. Conditions: none; definitions and theorems that the statement's proof uses. -/
import Derived.Test.YtleaeoncofgkjaaGreatDoorSet12
import Derived.Test.YtleaeoncofgkjaaGreatDoorSet9
import Derived.Test.YtleaeoncofgkjaaGreatDoorSet22
/- The program's functions on trees: what may be, what is sound. Conditions: the functions' codes; theorems. -/
namespace Go.Pv
variable {E : Env} {h : AHeap}
theorem takes179_eq (H : Has 179 E) (s : StepA) : EvClosed E (.fn (.func 179) [] []) [.agg s.cs] = some (.int .i64 (takesI s.op)) := by
  rw [EvClosed_eq H.c179 rfl (vs := [.agg s.cs]) (by simp [StepA.cs]), EvFn_eq]
  unfold takesI
  cases h3 : s.op == 3
  · cases h4 : s.op == 4
    · cases h5 : s.op == 5
      · cases h6 : s.op == 6 <;> simp [f179, start, StepA.cs, h3, h4, h5, h6]
      · simp [f179, start, StepA.cs, h3, h4, h5]
    · simp [f179, start, StepA.cs, h3, h4]
  · simp [f179, start, StepA.cs, h3]
theorem odd_print : ∀ {s : List UInt8}, printB s = true → oddAt s = -1
  | [], _ => rfl
  | c :: s, h => by
    simp only [printB, List.all_cons, Bool.and_eq_true, decide_eq_true_eq] at h
    have ih := odd_print (s := s) (by simp only [printB]; exact h.2)
    simp only [oddAt]
    rw [if_neg (by omega), ih]
    rfl
theorem oddAt_neg {s : List UInt8} (h : printB s = true) : decide (oddAt s < 0) = true := by rw [odd_print h]; rfl
set_option maxRecDepth 20000 in
set_option maxHeartbeats 4000000 in
theorem symbol200_eq (H : Has 200 E) {p a n : Int} (a0 : 0 ≤ a) (a1 : a < atomsT.length) (p0 : -1 ≤ p) (p1 : p < prefsT.length) (n0 : -99 ≤ n) (n1 : n ≤ 99) (hm : p = -1 ∨ metricT a = true) :
    EvClosed E (.fn (.func 200) [] []) [.agg (StepA.cs ⟨2, p, a, n, 0, []⟩)] = some (.bool true) := by
  rw [EvClosed_eq H.c200 rfl (vs := [.agg (StepA.cs ⟨2, p, a, n, 0, []⟩)]) (by simp [StepA.cs]), EvFn_eq]
  have ht := table_eq (H.to 38)
  simp only [Tb.V, Tb.A, Tb.P, progB] at ht
  obtain ⟨k, rfl⟩ : ∃ k : Nat, a = k := ⟨a.toNat, by omega⟩
  have hk : k < atomsT.length := by omega
  have d1 : decide ((k : Int) < 0) = false := decide_eq_false (by omega)
  have d2 : decide ((atomsT.length : Int) ≤ (k : Int)) = false := decide_eq_false (by omega)
  have d2' : ¬ atomsT.length ≤ k := by omega
  have d3 : decide (p < 0) = false ∨ p = -1 := by
    by_cases h : p < 0
    · exact .inr (by omega)
    · exact .inl (decide_eq_false h)
  have d4 : decide (p < (prefsT.length : Int)) = true := decide_eq_true p1
  have d5 : decide (n < -99) = false := decide_eq_false (by omega)
  have d6 : decide (99 < n) = false := decide_eq_false (by omega)
  have hm0 : ((atomsT.flatMap (acs .shared)).drop (k * 12 + 5)).take 1 = [.bool (metricT k)] := by
    have : metricT k = atomsT[k].metric := by simp [metricT, hk]
    rw [this, fm_at (acs_len .shared) hk (by omega)]
    rfl
  have hlA : (atomsT.flatMap (acs .shared)).length = atomsT.length * 12 := fm_len (acs_len .shared) _
  have hx1 : k * 12 < atomsT.length * 12 := by omega
  have hx2 : 5 < atomsT.length * 12 - k * 12 := by omega
  have hx3 : 1 ≤ atomsT.length * 12 - (k * 12 + 5) := by omega
  generalize atomsT.flatMap (acs .shared) = cA at *
  cases hp : p == -1 with
  | true =>
    simp [f200, start, StepA.cs, EvCall_closed H.c38 rfl, ht, push_setk, d1, d2', d5, d6, hp]
  | false =>
    have hpn : ¬ p = -1 := by simpa using hp
    have hm' : metricT k = true := by
      rcases hm with rfl | hm
      · cases hp
      · exact hm
    have d3 : decide (0 ≤ p) = true := decide_eq_true (by omega)
    have d3' : 0 ≤ p := by omega
    rw [hm'] at hm0
    simp [f200, start, StepA.cs, EvCall_closed H.c38 rfl, ht, push_setk, d1, d2', d3', d4, d5, d6, hp, hk, hlA, hx1, hx2, hx3, hm0]
set_option maxRecDepth 20000 in
set_option maxHeartbeats 4000000 in
theorem may180_eq (H : Has 180 E) {s : StepA} (hs : StepOk s) : EvClosed E (.fn (.func 180) [] []) [.agg s.cs] = some (.bool true) := by
  rw [EvClosed_eq H.c180 rfl (vs := [.agg s.cs]) (by simp [StepA.cs]), EvFn_eq]
  cases hs with
  | num n h1 =>
    simp [f180, start, StepA.cs, h1]
  | sym p a n a0 a1 p0 p1 n0 n1 hm =>
    have hy := symbol200_eq (H.to 200) a0 a1 p0 p1 n0 n1 hm
    simp only [StepA.cs] at hy
    simp [f180, start, StepA.cs, EvCall_closed H.c200 rfl, hy]
  | op o ho =>
    rcases ho with rfl | rfl | rfl <;> simp [f180, start, StepA.cs]
  | text o s ho hpr hl =>
    have hx : EvClosed E (.fn (.func 202) [] []) [.str s, .fn (.func 201) [] []] = some (.int .i64 (oddAt s)) := by
      rw [EvClosed_ext H.x202 (vs := [.str s, .fn (.func 201) [] []]) (by simp)]
      rfl
    have hd := oddAt_neg hpr
    rcases ho with rfl | rfl <;> simp [f180, start, StepA.cs, EvCall_ext H.x202, hx, hd]
theorem put178_eq (H : Has 178 E) {s : StepA} (hs : StepOk s) {b : Nat} {n : Int} (hb : h.bl b = some (.cells [.int .i64 n])) (hro : h.ro = 0) (hn : takesI s.op ≤ n) (hn2 : n < 1000000) :
    EvCall E (.fn (.func 178) [] [.ref b 0]) [.agg s.cs] h = some (.ret (.bool true), (h.push (.cells s.cs)).setBlk b (.cells [.int .i64 (n + (1 - takesI s.op))])) := by
  rw [EvCall_open H.c178 rfl, EvFn_eq]
  have ht := takes179_eq (H.to 179) s
  have hm := may180_eq (H.to 180) hs
  have hr : 0 ≤ takesI s.op ∧ takesI s.op ≤ 2 := by
    unfold takesI
    split
    · omega
    · split <;> omega
  have hd : decide (takesI s.op ≤ n) = true := decide_eq_true hn
  have w1 : IntKind.i64.wrap (1 - takesI s.op) = 1 - takesI s.op := w64
  have w2 : IntKind.i64.wrap (n + (1 - takesI s.op)) = n + (1 - takesI s.op) := w64
  have nb := blk_ne hb
  simp only [StepA.cs] at ht hm ⊢
  generalize takesI s.op = k at *
  simp [f178, start, EvCall_closed H.c179 rfl, EvCall_closed H.c180 rfl, ht, hm, hb, hro, nb, hn, w1, w2]
set_option maxHeartbeats 2000000 in
theorem sound168_loop (H : Has 168 E) {own : Own} {t : List StepA} (hok : ∀ s ∈ t, StepOk s) (hl : t.length < 1000000) : ∀ (m i : Nat), i + m = t.length → ∀ (n k : Int) (h : AHeap), 0 ≤ n → n ≤ i → leaves n (t.drop i) = some k → h.bl 0 = some (.cells [.int .i64 n]) → h.ro = 0 →
    ∃ h', (∀ F, mask k168_0 F = s168_0 (.vs own t.length (t.flatMap StepA.cs)) (.ref 0 0) (.fn (.func 178) [] [.ref 0 0]) (.vs own t.length (t.flatMap StepA.cs)) (.int .i64 t.length) (.int .i64 i) →
      EvCode E (.loop k168_0 l168_0) F h = some (.exit 0, x168_0 (.vs own t.length (t.flatMap StepA.cs)) (.ref 0 0), h')) ∧ h'.bl 0 = some (.cells [.int .i64 k])
  | 0, i, hi, n, k, h, hn, hni, hlv, hb, hro => by
    have : i = t.length := by omega
    subst this
    rw [List.drop_length] at hlv
    simp only [leaves] at hlv
    cases hlv
    refine ⟨h, fun F hF => ?_, hb⟩
    rw [EvCode_loop, hF]
    simp [l168_0, s168_0, x168_0]
  | m + 1, i, hi, n, k, h, hn, hni, hlv, hb, hro => by
    have hlt : i < t.length := by omega
    rw [List.drop_eq_getElem_cons hlt] at hlv
    simp only [leaves] at hlv
    split at hlv
    · cases hlv
    · rename_i htk
      have hr : 0 ≤ takesI t[i].op ∧ takesI t[i].op ≤ 2 := by
        unfold takesI
        split
        · omega
        · split <;> omega
      have e : n + (1 - takesI t[i].op) = n - takesI t[i].op + 1 := by omega
      have h0 : (h.push (.cells t[i].cs)).bl 0 = some (.cells [.int .i64 n]) := by
        rw [bl_push, if_neg (blk_ne hb)]
        exact hb
      have hput := put178_eq (H.to 178) (hok t[i] (List.getElem_mem hlt)) h0 (by simpa using hro) (by omega) (by omega)
      rw [e] at hput
      obtain ⟨h', ih, hb'⟩ := sound168_loop H (own := own) hok hl m (i + 1) (by omega) (n - takesI t[i].op + 1) k (((h.push (.cells t[i].cs)).push (.cells t[i].cs)).setBlk 0 (.cells [.int .i64 (n - takesI t[i].op + 1)])) (by omega) (by omega) hlv (by simp; exact fun _ => ⟨_, hb⟩) (by simpa using hro)
      have e6 : ((t.flatMap StepA.cs).drop (i * 6)).take 6 = t[i].cs := fm_el StepA.len hlt
      have ll : (t.flatMap StepA.cs).length = t.length * 6 := fm_len StepA.len t
      have hd : decide ((i : Int) < (t.length : Int)) = true := decide_eq_true (by omega)
      have h6 : 6 ≤ t.length * 6 - i * 6 := by omega
      have h60 : i * 6 < t.length * 6 := by omega
      have w1 : IntKind.i64.wrap ((i : Int) + 1) = (i : Int) + 1 := w64
      refine ⟨h', fun F hF => ?_, hb'⟩
      rw [EvCode_loop, hF]
      have cl : t[i].cs.length = 6 := StepA.len _
      have ca6 := List.all_eq_true.1 (StepA.all t[i])
      have ctake : t[i].cs.take 6 = t[i].cs := by rw [List.take_of_length_le (by rw [StepA.len]; exact Nat.le_refl _)]
      have cset : setCells 0 t[i].cs [.int .i64 0, .int .i64 0, .int .i64 0, .int .i64 0, .int .i64 0, .str []] = t[i].cs := setCells_app t[i].cs [.int .i64 0, .int .i64 0, .int .i64 0, .int .i64 0, .int .i64 0, .str []] [] (by rw [StepA.len]; rfl)
      generalize t[i].cs = cc at *
      generalize t.flatMap StepA.cs = ca at *
      generalize EvCode E (.loop k168_0 l168_0) = lp at ih ⊢
      simp [l168_0, s168_0, hlt, ll, h6, h60, e6, cl, cset, push_setk, hro]
      rw [if_pos ca6]
      simp [cl, ctake, hput, w1]
      refine ih _ ?_
      simp [s168_0]
theorem sound168_eq (H : Has 168 E) {v : AV} {t : Tr} (ht : TrOk t) (hv : TreeV v t.steps) (hl : t.steps.length ≤ 255) : EvClosed E (.fn (.func 168) [] []) [v] = some (.bool true) := by
  obtain ⟨v', sv, hv'⟩ := tree_shut hv
  rw [EvClosed_eq H.c168 rfl (vs := [v']) (by simp [sv]), EvFn_eq]
  have hpos := Tr.steps_pos t
  rcases hv' with ⟨_, h0⟩ | ⟨own, rfl⟩
  · rw [h0] at hpos
    simp at hpos
  · have d : decide ((t.steps.length : Int) ≤ 255) = true := decide_eq_true (by omega)
    obtain ⟨h', lp, hb⟩ := sound168_loop (E := E) H (own := own) (tr_steps ht) (by omega) t.steps.length 0 (by omega) 0 1 (heap0.push (.cells [.int .i64 0])) (by omega) (by omega) (leaves_tr ht 0 (by omega)) (by simp) (by simp)
    simp [f168, start, push_setk]
    rw [lp _ (by simp [s168_0])]
    simp [x168_0, hb, d]
end Go.Pv
/- A symbol that is found is told. Conditions: none; theorems. -/
namespace Go.Pv
variable {n : Nat} {L : List AtomR} {Q : List PrefR}
theorem atomIdx_at {s : List UInt8} {a : Nat} (h : atomIdx n L s = a) : ∃ ha : a < L.length, L[a].code n = s ∧ s.isEmpty = false := by
  unfold atomIdx at h
  split at h
  · omega
  · rename_i hs
    have hs' : s.isEmpty = false := by simpa using hs
    unfold idxV at h
    split at h
    · rename_i hany
      have ha : L.findIdx (fun a => a.code n == s) = a := by omega
      have hl : L.findIdx (fun a => a.code n == s) < L.length := List.findIdx_lt_length.2 (by simpa using hany)
      refine ⟨by omega, ?_, hs'⟩
      have := List.findIdx_getElem (w := hl)
      subst ha
      simpa using this
    · omega
theorem hasP_app {s p : List UInt8} (h : hasP s p = true) : s = p ++ s.drop p.length := by
  simp only [hasP, Bool.and_eq_true, decide_eq_true_eq] at h
  have := eq_of_beq h.2
  conv => lhs; rw [← List.take_append_drop p.length s]
  rw [this]
theorem firstP_at {s : List UInt8} : ∀ (ps : List PrefR) (i : Nat), (firstP n L s ps i).2.2 = true → ∃ (j : Nat) (hj : j < ps.length), firstP n L s ps i = (((i + j : Nat) : Int), (restOf n L s ps[j]).1, true) ∧ (restOf n L s ps[j]).2 = true
  | [], i, h => by simp [firstP] at h
  | p :: ps, i, h => by
    simp only [firstP] at h ⊢
    split
    · rename_i hr
      exact ⟨0, by simp, by simp, by simpa using hr⟩
    · rename_i hr
      rw [if_neg hr] at h
      obtain ⟨j, hj, h1, h2⟩ := firstP_at ps (i + 1) h
      refine ⟨j + 1, by simpa using hj, ?_, by simpa using h2⟩
      rw [h1]
      simp
      omega
theorem find_told {s : List UInt8} (h : (findB n L Q s).2.2 = true) : ∃ (a : Nat) (p : Int), a < L.length ∧ -1 ≤ p ∧ p < Q.length ∧ symText n L Q p a = s ∧ toldB n L Q s p a = true := by
  unfold findB at h
  split at h
  · rename_i hne
    have hne' : ¬ atomIdx n L s = -1 := by simpa using hne
    rcases atomIdx_range (n := n) L s with hr | ⟨a, ha, hr⟩
    · exact absurd hr hne'
    · obtain ⟨ha2, h1, h2⟩ := atomIdx_at hr
      refine ⟨a, -1, ha, by omega, by omega, ?_, ?_⟩
      · simp [symText, textA, ha, h1]
      · have hf : findB n L Q s = (-1, (a : Int), true) := by rw [findB, if_pos hne, hr]
        simp [toldB, hf, h2]
  · rename_i hne
    obtain ⟨j, hj, h1, h2⟩ := firstP_at Q 0 h
    have hf : findB n L Q s = ((j : Int), (restOf n L s Q[j]).1, true) := by rw [findB, if_neg hne, h1]; simp
    unfold restOf at h2 hf
    simp only at h2 hf
    split at h2
    · cases h2
    · rename_i hc
      rw [if_neg hc] at hf
      simp only [Bool.or_eq_true, Bool.not_eq_true', not_or, Bool.not_eq_false] at hc
      have hP : hasP s (Q[j].code n) = true := by
        cases hq : hasP s (Q[j].code n)
        · simp [cutP, hq] at hc
        · rfl
      have hcut : cutP s (Q[j].code n) = (s.drop (Q[j].code n).length, true) := by simp [cutP, hP]
      rw [hcut] at hc h2 hf
      simp only [Bool.and_eq_true, bne_iff_ne, ne_eq] at h2
      rcases atomIdx_range (n := n) L (s.drop (Q[j].code n).length) with hr | ⟨a, ha, hr⟩
      · exact absurd hr h2.1
      · obtain ⟨ha2, e1, e2⟩ := atomIdx_at hr
        rw [hr] at h2 hf
        have hmet : L[a].metric = true := by simpa [ha] using h2.2
        have hs := hasP_app hP
        have hpne : (Q[j].code n).isEmpty = false := by
          cases hq : Q[j].code n with
          | nil => rw [hq] at hc; simp at hc
          | cons b l => rfl
        have hsne : s.isEmpty = false := by
          rw [hs]
          cases hq : Q[j].code n with
          | nil => rw [hq] at hpne; cases hpne
          | cons b l => rfl
        refine ⟨a, j, ha, by omega, by omega, ?_, ?_⟩
        · have hne1 : ¬ ((j : Int) = -1) := by omega
          simp only [symText, hne1, if_false, textP, Int.toNat_natCast, List.getElem?_eq_getElem ha, List.getElem?_eq_getElem hj, e1, e2, hpne, hmet]
          simpa using hs.symm
        · simp [toldB, hf, hsne]
end Go.Pv
/- What is parsed is a tree; where an error stands. Conditions: none; theorems. -/
namespace Go.Pv
variable {x sz : Int} {s : List UInt8}
structure TokIn (s : List UInt8) (k : Tok) : Prop where
  low : 0 ≤ k.pos
  high : k.pos ≤ s.length
  lft : k.kind = 7 → s[k.pos.toNat]? = some 40
  sym : k.kind = 1 → 0 < k.text.length ∧ k.pos + k.text.length ≤ s.length
  note : k.kind = 9 → printB k.text = true ∧ k.text.length ≤ s.length
theorem kind_left {c : UInt8} (h : kind x c = 7) : c = 40 := by
  unfold kind at h
  split at h
  · rw [kindS_int] at h
    have e : (c.toNat : Int) = 40 := by
      repeat' split at h
      all_goals first | omega | (simp only [beq_iff_eq] at *; omega)
    exact UInt8.toNat.inj (by show c.toNat = 40; omega)
  · omega
theorem plain_print {t : List UInt8} (h : plain x t = true) : printB t = true := by
  simp only [plain, plainS, Bool.and_eq_true, Bool.not_eq_true', List.any_eq_false, badB, Bool.or_eq_true, decide_eq_true_eq, not_or] at h
  unfold printB
  rw [List.all_eq_true]
  intro c hc
  have := h.1 c hc
  simp only [Bool.and_eq_true, decide_eq_true_eq]
  omega
theorem next_in {s : List UInt8} {p : Nat} {r : List UInt8} (hr : s.drop p = r) {k : Int} {t : List UInt8} {n : Int} {l : Nat} (h : nextS x r = some (k, t, n, l)) : TokIn s ⟨k, p, t, n⟩ := by
  have hl := next_len h
  have hp : p + r.length = s.length := by
    have := congrArg List.length hr
    rw [List.length_drop] at this
    cases r with
    | nil => cases h
    | cons c r => simp only [List.length_cons] at this ⊢; omega
  cases r with
  | nil => cases h
  | cons c r =>
    have hc : s[p]? = some c := by
      have := congrArg (·[0]?) hr
      simpa using this
    simp only [nextS] at h
    simp only [List.length_cons] at hp hl
    split at h
    · cases h
    · split at h
      · have r1 := runL_le x 1 (c :: r)
        cases h
        refine ⟨by simp, by simp; omega, fun h => by simp at h, fun _ => ?_, fun h => by simp at h⟩
        simp only [raise, List.length_map, List.length_take]
        simp only [List.length_cons] at r1 ⊢
        omega
      · split at h
        · simp only [Option.map_eq_some_iff] at h
          obtain ⟨v, _, h⟩ := h
          cases h
          exact ⟨by simp, by simp; omega, fun h => by simp at h, fun h => by simp at h, fun h => by simp at h⟩
        · split at h
          · simp only [Option.map_eq_some_iff] at h
            obtain ⟨v, hv, h⟩ := h
            cases h
            refine ⟨by simp, by simp; omega, fun h => by simp at h, fun h => by simp at h, fun _ => ?_⟩
            unfold noteS at hv
            simp only at hv
            split at hv
            · rename_i hq
              cases hv
              rw [Bool.and_eq_true] at hq
              refine ⟨plain_print hq.2, ?_⟩
              simp only [List.length_take]
              omega
            · cases hv
          · rename_i h1 h2 h9
            cases h
            refine ⟨by simp, by simp; omega, fun h => ?_, fun h => ?_, fun h => ?_⟩
            · rw [kind_left h] at hc
              simpa using hc
            · exact absurd (show (kind x c == 1) = true by simpa using h) h1
            · exact absurd (show (kind x c == 9) = true by simpa using h) h9
theorem lexF_in (x : Int) (s : List UInt8) : ∀ (f : Nat) (r : List UInt8) (p : Nat), s.drop p = r → p ≤ s.length → (∀ k ∈ (lexF x f r p).1, TokIn s k) ∧ (lexF x f r p).1.length + p ≤ (lexF x f r p).2 ∧ (lexF x f r p).2 ≤ s.length
  | 0, r, p, hr, hp => ⟨fun k hk => by simp [lexF] at hk, by simp [lexF], hp⟩
  | f + 1, r, p, hr, hp => by
    simp only [lexF]
    cases h : nextS x r with
    | none => exact ⟨fun k hk => by simp at hk, by simp, hp⟩
    | some q =>
      obtain ⟨k, t, n, l⟩ := q
      have hl := next_len h
      have hlen : r.length = s.length - p := by rw [← hr, List.length_drop]
      obtain ⟨h1, h2, h3⟩ := lexF_in x s f (r.drop l) (p + l) (by rw [← hr, List.drop_drop]) (by omega)
      simp only
      refine ⟨fun k' hk => ?_, by simp only [List.length_cons]; omega, h3⟩
      rcases List.mem_cons.1 hk with rfl | hk
      · exact next_in hr h
      · exact h1 k' hk
def ErrOk (s : List UInt8) (e : PErr) : Prop := 0 ≤ e.2 ∧ e.2 ≤ s.length ∧ (e.1 = 14 ∨ (e.1 = 13 ∧ s[e.2.toNat]? = some 40))
theorem err14 {k : Tok} (h : TokIn s k) : ErrOk s (14, k.pos) := ⟨h.low, h.high, .inl rfl⟩
theorem err_end : ErrOk s (14, (s.length : Int)) := ⟨by simp, by simp, .inl rfl⟩
abbrev GoodT (s : List UInt8) (l : List Tok) : Prop := ∀ k ∈ l, TokIn s k
def OutP (s : List UInt8) (W : Tr → Nat → Prop) (r : Nat) (l : List Tok) (u : Option Tok) : Res (List StepA) → Prop
  | .ok (t, l', u') => ∃ c dp, l = c ++ l' ∧ Even dp c ∧ dp ≤ r ∧ (u' = none → u = none ∧ ∃ tr, Tr.steps tr = t ∧ TrOk tr ∧ W tr dp) ∧ (∀ k, u' = some k → u = some k ∨ (k ∈ l ∧ k.kind = 1))
  | .error e => ErrOk s e
theorem GoodT.tail {c l' : List Tok} (h : GoodT s (c ++ l')) : GoodT s l' := fun k hk => h k (List.mem_append_right _ hk)
theorem numP_out {lo hi : Int} {l : List Tok} (hg : GoodT s l) : match numP s.length lo hi l with
    | .ok (n, l') => ∃ k, l = k :: l' ∧ k.kind = 2 ∧ lo ≤ n ∧ n ≤ hi
    | .error e => ErrOk s e := by
  cases l with
  | nil => exact err_end
  | cons t r =>
    by_cases hq : ((t.kind == 2 && decide (lo ≤ t.n)) && decide (t.n ≤ hi)) = true
    · simp only [numP, if_pos hq]
      simp only [Bool.and_eq_true, beq_iff_eq, decide_eq_true_eq] at hq
      exact ⟨t, rfl, hq.1.1, hq.1.2, hq.2⟩
    · simp only [numP, if_neg hq]
      exact err14 (hg t List.mem_cons_self)
theorem powN_out {l : List Tok} (hg : GoodT s l) : match powN s.length l with
    | .ok (n, l') => ∃ c, l = c ++ l' ∧ Even 0 c ∧ -99 ≤ n ∧ n ≤ 99
    | .error e => ErrOk s e := by
  cases l with
  | nil => exact err_end
  | cons t r =>
    have h1 := numP_out (lo := 0) (hi := 99) (l := r) (fun k hk => hg k (List.mem_cons_of_mem _ hk))
    have h2 := numP_out (lo := 0) (hi := 99) (l := t :: r) hg
    by_cases h3 : t.kind = 3
    · simp only [powN, h3, beq_self_eq_true, if_true]
      cases hq : numP (s.length : Int) 0 99 r with
      | error e => rw [hq] at h1; exact h1
      | ok v =>
        obtain ⟨n, l'⟩ := v
        rw [hq] at h1
        obtain ⟨k, e, hk, n0, n1⟩ := h1
        refine ⟨[t, k], by rw [e]; rfl, even_cons (by omega) (by omega) (even_one (by omega) (by omega)), ?_⟩
        split <;> omega
    · have h3' : (t.kind == 3) = false := by simpa using h3
      simp only [powN, h3', Bool.false_eq_true, if_false]
      cases hq : numP (s.length : Int) 0 99 (t :: r) with
      | error e => rw [hq] at h2; exact h2
      | ok v =>
        obtain ⟨n, l'⟩ := v
        rw [hq] at h2
        obtain ⟨k, e, hk, n0, n1⟩ := h2
        exact ⟨[k], e, even_one (by omega) (by omega), by omega, by omega⟩
theorem powP_out {pow : Bool} {l : List Tok} (hg : GoodT s l) : match powP pow s.length l with
    | .ok (n, l') => ∃ c, l = c ++ l' ∧ (c = [] ∨ Even 0 c) ∧ -99 ≤ n ∧ n ≤ 99
    | .error e => ErrOk s e := by
  cases pow with
  | true =>
    cases h6 : isT 6 l with
    | true =>
      cases l with
      | nil => simp [isT] at h6
      | cons t r =>
        have hk : t.kind = 6 := by simpa [isT] using h6
        have h := powN_out (l := r) (fun k hk => hg k (List.mem_cons_of_mem _ hk))
        simp only [powP, h6, if_true, List.tail_cons]
        cases hq : powN (s.length : Int) r with
        | error e => rw [hq] at h; exact h
        | ok v =>
          obtain ⟨n, l'⟩ := v
          rw [hq] at h
          obtain ⟨c, e, he, n0, n1⟩ := h
          exact ⟨t :: c, by rw [e]; rfl, .inr (even_cons (by omega) (by omega) he), n0, n1⟩
    | false =>
      simp only [powP, h6, if_true, Bool.false_eq_true, if_false]
      exact ⟨[], rfl, .inl rfl, by decide, by decide⟩
  | false =>
    by_cases h : (isT 3 l || isT 2 l) = true
    · simp only [powP, h, if_true, Bool.false_eq_true, if_false]
      have h := powN_out (l := l) hg
      cases hq : powN (s.length : Int) l with
      | error e => rw [hq] at h; exact h
      | ok v =>
        obtain ⟨n, l'⟩ := v
        rw [hq] at h
        obtain ⟨c, e, he, n0, n1⟩ := h
        exact ⟨c, e, .inr he, n0, n1⟩
    · simp only [powP, h, Bool.false_eq_true, if_false]
      exact ⟨[], rfl, .inl rfl, by decide, by decide⟩
theorem find_ok {n : Nat} {t : List UInt8} (h : (findB n atomsT prefsT t).2.2 = true) : ∃ p a, findB n atomsT prefsT t = (p, a, true) ∧ 0 ≤ a ∧ a < atomsT.length ∧ -1 ≤ p ∧ p < prefsT.length ∧ (p = -1 ∨ metricT a = true) := by
  obtain ⟨a, p, ha, hp, hq, ht, htb⟩ := find_told h
  simp only [toldB, Bool.and_eq_true, Bool.not_eq_true', beq_iff_eq] at htb
  obtain ⟨h0, h1, h2, h3⟩ := htb
  refine ⟨p, a, Prod.ext h2 (Prod.ext h3 h1), by omega, by omega, hp, hq, ?_⟩
  by_cases hpn : p = -1
  · exact .inl hpn
  · refine .inr ?_
    rw [← ht] at h0
    simp only [symText, hpn, if_false, textP] at h0
    simp only [metricT, Int.toNat_natCast]
    cases hL : atomsT[a]? with
    | none => rw [hL] at h0; simp at h0
    | some b =>
      rw [hL] at h0
      cases hm : b.metric
      · exfalso
        cases hQ : prefsT[p.toNat]? with
        | none => rw [hQ] at h0; simp at h0
        | some q => rw [hQ] at h0; simp [hm] at h0
      · simp [hm]
theorem symP_out {W : Tr → Nat → Prop} {r0 : Nat} {t : Tok} {r : List Tok} {u : Option Tok} (ht : t.kind = 1) (hg : GoodT s (t :: r)) (hW : ∀ p a n, W (.sym p a n) 0) : OutP s W r0 (t :: r) u (symP x s.length t r u) := by
  have h := powP_out (pow := (sty x).pow != 0) (l := r) (fun k hk => hg k (List.mem_cons_of_mem _ hk))
  unfold symP
  cases hq : powP ((sty x).pow != 0) (s.length : Int) r with
  | error e => rw [hq] at h; exact h
  | ok v =>
    obtain ⟨n, r'⟩ := v
    rw [hq] at h
    obtain ⟨c, e, hc, n0, n1⟩ := h
    refine ⟨t :: c, 0, by rw [e]; rfl, ?_, Nat.zero_le _, fun hu => ?_, fun k hk => ?_⟩
    · rcases hc with rfl | hc
      · exact even_one (by omega) (by omega)
      · exact even_cons (by omega) (by omega) hc
    · unfold unkP at hu
      split at hu
      · cases hu
      · rename_i hne
        subst hu
        have hok : (findB (x - 1).toNat atomsT prefsT t.text).2.2 = true := by
          cases hf : (findB (x - 1).toNat atomsT prefsT t.text).2.2
          · rw [hf] at hne; simp at hne
          · rfl
        obtain ⟨p, a, ef, a0, a1, p0, p1, hm⟩ := find_ok hok
        rw [ef]
        exact ⟨rfl, .sym p a n, rfl, .sym p a n a0 a1 p0 p1 n0 n1 hm, hW p a n⟩
    · unfold unkP at hk
      split at hk
      · cases hk
        exact .inr ⟨List.mem_cons_self, ht⟩
      · exact .inl hk
def Wb (tr : Tr) (dp : Nat) : Prop := tr.deep + (if inB 6 tr.steps then 1 else 0) ≤ dp
def Wi (tr : Tr) (dp : Nat) : Prop := tr.deep + (if looseB (lastOp tr.steps) then 1 else 0) ≤ dp
def Wm (tr : Tr) (dp : Nat) : Prop := tr.deep ≤ dp
theorem wb_wi {tr : Tr} {dp : Nat} (h : Wb tr dp) : Wi tr dp := by
  unfold Wb at h
  unfold Wi
  cases hl : looseB (lastOp tr.steps)
  · simp only [Bool.false_eq_true, if_false]
    omega
  · have : inB 6 tr.steps = true := by simp [inB, hl]
    rw [this] at h
    simpa using h
section
variable {inner : List Tok → Option Tok → Res (List StepA)} {r0 : Nat}
abbrev InnerOk (s : List UInt8) (r0 : Nat) (inner : List Tok → Option Tok → Res (List StepA)) : Prop := ∀ t r u, t.kind = 7 → GoodT s (t :: r) → OutP s Wb r0 (t :: r) u (inner (t :: r) u)
theorem baseP_out (hi : InnerOk s r0 inner) (l : List Tok) (u : Option Tok) (hg : GoodT s l) : OutP s Wb r0 l u (baseP x s.length inner l u) := by
  cases l with
  | nil => exact err_end
  | cons t r =>
    by_cases h1 : t.kind = 1
    · simp only [baseP, h1, beq_self_eq_true, if_true]
      exact symP_out h1 hg (fun p a n => by simp [Wb, Tr.deep, inB, looseB, lastOp, Tr.steps])
    · have h1' : (t.kind == 1) = false := by simpa using h1
      by_cases h2 : t.kind = 2
      · have h := numP_out (lo := 1) (hi := maxNum) hg
        simp only [baseP, h2, beq_self_eq_true, if_true]
        cases hq : numP (s.length : Int) 1 maxNum (t :: r) with
        | error e => rw [hq] at h; exact h
        | ok v =>
          obtain ⟨n, l'⟩ := v
          rw [hq] at h
          obtain ⟨k, e, hk, n0, n1⟩ := h
          exact ⟨[k], 0, e, even_one (by omega) (by omega), Nat.zero_le _, fun hu => ⟨hu, .num n, rfl, .num n n0, by simp [Wb, Tr.deep, inB, looseB, lastOp, Tr.steps]⟩, fun k' hk' => .inl hk'⟩
      · have h2' : (t.kind == 2) = false := by simpa using h2
        by_cases h7 : t.kind = 7
        · simp only [baseP, h7, beq_self_eq_true, if_true]
          exact hi t r u h7 hg
        · have h7' : (t.kind == 7) = false := by simpa using h7
          simp only [baseP, h1', h2', h7', Bool.false_eq_true, if_false]
          exact err14 (hg t List.mem_cons_self)
theorem itemB_out (hs : s.length < 1000000) (hi : InnerOk s r0 inner) (l : List Tok) (u : Option Tok) (hg : GoodT s l) : OutP s Wi r0 l u (itemB x s.length inner l u) := by
  have h := baseP_out (x := x) hi l u hg
  unfold itemB
  cases hq : baseP x (s.length : Int) inner l u with
  | error e => rw [hq] at h; exact h
  | ok v =>
    obtain ⟨t, l', u'⟩ := v
    rw [hq] at h
    obtain ⟨c, dp, e, he, hd, hu, hk⟩ := h
    cases l' with
    | nil => exact ⟨c, dp, e, he, hd, fun h => by obtain ⟨h1, tr, h2, h3, h4⟩ := hu h; exact ⟨h1, tr, h2, h3, wb_wi h4⟩, hk⟩
    | cons k r =>
      by_cases h9 : k.kind = 9
      · simp only [noteP, h9, beq_self_eq_true, if_true]
        have hkt := (hg k (by rw [e]; simp)).note h9
        refine ⟨c ++ [k], dp, by rw [e]; simp, ?_, hd, fun h => ?_, hk⟩
        · have := even_app he (even_one (k := k) (by omega) (by omega))
          rwa [Nat.max_zero] at this
        · obtain ⟨h1, tr, h2, h3, h4⟩ := hu h
          refine ⟨h1, .note tr k.text, by simp [Tr.steps, h2], .note tr _ h3 hkt.1 (by omega), ?_⟩
          have e6 : looseB (lastOp (Tr.note tr k.text).steps) = false := by simp [Tr.steps, lastOp, looseB]
          simp only [Wi, e6, Bool.false_eq_true, if_false, Nat.add_zero]
          exact h4
      · have h9' : (k.kind == 9) = false := by simpa using h9
        simp only [noteP, h9', Bool.false_eq_true, if_false]
        exact ⟨c, dp, e, he, hd, fun h => by obtain ⟨h1, tr, h2, h3, h4⟩ := hu h; exact ⟨h1, tr, h2, h3, wb_wi h4⟩, hk⟩
theorem itemP_out (hs : s.length < 1000000) (hi : InnerOk s r0 inner) (l : List Tok) (u : Option Tok) (hg : GoodT s l) : OutP s Wi r0 l u (itemP x s.length inner l u) := by
  cases l with
  | nil => exact itemB_out (x := x) hs hi [] u hg
  | cons t r =>
    by_cases h9 : t.kind = 9
    · simp only [itemP, h9, beq_self_eq_true, if_true]
      have hkt := (hg t List.mem_cons_self).note h9
      exact ⟨[t], 0, rfl, even_one (by omega) (by omega), Nat.zero_le _, fun hu => ⟨hu, .alone t.text, rfl, .alone _ hkt.1 (by omega), by simp [Wi, Tr.deep, looseB, lastOp, Tr.steps]⟩, fun k hk => .inl hk⟩
    · have h9' : (t.kind == 9) = false := by simpa using h9
      simp only [itemP, h9', Bool.false_eq_true, if_false]
      exact itemB_out hs hi (t :: r) u hg
theorem loopP_out (hs : s.length < 1000000) (hi : InnerOk s r0 inner) : ∀ (f : Nat) (t : List StepA) (l : List Tok) (u : Option Tok) (c : List Tok) (dp : Nat) (u0 : Option Tok), Even dp c → dp ≤ r0 → GoodT s (c ++ l) →
    (u = none → u0 = none ∧ ∃ tr, Tr.steps tr = t ∧ TrOk tr ∧ Wm tr dp) → (∀ k, u = some k → u0 = some k ∨ (k ∈ c ++ l ∧ k.kind = 1)) → OutP s Wm r0 (c ++ l) u0 (loopP x s.length inner f t l u)
  | 0, t, l, u, c, dp, u0, he, hd, hg, hu, hk => ⟨c, dp, rfl, he, hd, hu, hk⟩
  | f + 1, t, [], u, c, dp, u0, he, hd, hg, hu, hk => ⟨c, dp, rfl, he, hd, hu, hk⟩
  | f + 1, t, k :: r, u, c, dp, u0, he, hd, hg, hu, hk => by
    by_cases h45 : (k.kind == 4 || k.kind == 5) = true
    · simp only [loopP, h45, if_true]
      have hkd : k.kind = 4 ∨ k.kind = 5 := by simpa using h45
      have hgr : GoodT s r := fun k' hk' => hg k' (List.mem_append_right _ (List.mem_cons_of_mem _ hk'))
      have h := itemP_out (x := x) hs hi r u hgr
      cases hq : itemP x (s.length : Int) inner r u with
      | error e => rw [hq] at h; exact h
      | ok v =>
        obtain ⟨t', l', u'⟩ := v
        rw [hq] at h
        obtain ⟨c', dp', e, he', hd', hu', hk'⟩ := h
        have el : c ++ k :: r = (c ++ k :: c') ++ l' := by rw [e]; simp
        rw [el] at hg ⊢
        refine loopP_out hs hi f _ l' u' (c ++ k :: c') (max dp dp') u0 (even_app he (even_cons (by omega) (by omega) he')) (by omega) hg (fun h => ?_) (fun k2 h2 => ?_)
        · obtain ⟨h1, tr', h2, h3, h4⟩ := hu' h
          obtain ⟨g1, tr, g2, g3, g4⟩ := hu h1
          refine ⟨g1, .bin (if k.kind == 4 then 3 else 4) tr tr', ?_, .bin _ _ _ (by split <;> simp) g3 h3, ?_⟩
          · simp [Tr.steps, g2, h2, stepO]
          · simp only [Wm, Wi, Tr.deep] at g4 h4 ⊢
            have hin : inB (if (k.kind == 4) = true then 3 else 4) tr'.steps = looseB (lastOp tr'.steps) := by
              unfold inB
              split <;> simp
            rw [hin]
            omega
        · rcases hk' k2 h2 with h2 | ⟨h2, h3⟩
          · rcases hk k2 h2 with h2 | ⟨h2, h3⟩
            · exact .inl h2
            · rw [el] at h2; exact .inr ⟨h2, h3⟩
          · exact .inr ⟨by rw [← el]; exact List.mem_append_right _ (List.mem_cons_of_mem _ h2), h3⟩
    · have h45' : (k.kind == 4 || k.kind == 5) = false := by simpa using h45
      simp only [loopP, h45', Bool.false_eq_true, if_false]
      exact ⟨c, dp, rfl, he, hd, hu, hk⟩
theorem mainP_out (hs : s.length < 1000000) (hi : InnerOk s r0 inner) (l : List Tok) (u : Option Tok) (hg : GoodT s l) : OutP s Wm r0 l u (mainP x s.length inner l u) := by
  unfold mainP
  cases h5 : isT 5 l with
  | true =>
    cases l with
    | nil => simp [isT] at h5
    | cons k r =>
      have hk5 : k.kind = 5 := by simpa [isT] using h5
      simp only [if_true, List.tail_cons]
      have h := itemP_out (x := x) hs hi r u (fun k' hk' => hg k' (List.mem_cons_of_mem _ hk'))
      cases hq : itemP x (s.length : Int) inner r u with
      | error e => rw [hq] at h; exact h
      | ok v =>
        obtain ⟨t', l', u'⟩ := v
        rw [hq] at h
        obtain ⟨c', dp', e, he', hd', hu', hk'⟩ := h
        have el : k :: r = (k :: c') ++ l' := by rw [e]; simp
        rw [el] at hg ⊢
        refine loopP_out hs hi _ _ l' u' (k :: c') dp' u (even_cons (by omega) (by omega) he') hd' hg (fun h => ?_) (fun k2 h2 => ?_)
        · obtain ⟨h1, tr', h2, h3, h4⟩ := hu' h
          refine ⟨h1, .inv tr', by simp [Tr.steps, h2, stepO], .inv _ h3, ?_⟩
          simp only [Wm, Wi, Tr.deep] at h4 ⊢
          have hin : inB 5 tr'.steps = looseB (lastOp tr'.steps) := by simp [inB]
          rw [hin]
          exact h4
        · rcases hk' k2 h2 with h2 | ⟨h2, h3⟩
          · exact .inl h2
          · exact .inr ⟨by rw [← el]; exact List.mem_cons_of_mem _ h2, h3⟩
  | false =>
    simp only [Bool.false_eq_true, if_false]
    have h := itemP_out (x := x) hs hi l u hg
    cases hq : itemP x (s.length : Int) inner l u with
    | error e => rw [hq] at h; exact h
    | ok v =>
      obtain ⟨t', l', u'⟩ := v
      rw [hq] at h
      obtain ⟨c', dp', e, he', hd', hu', hk'⟩ := h
      rw [e] at hg hk' ⊢
      refine loopP_out hs hi _ _ l' u' c' dp' u he' hd' hg (fun h => ?_) hk'
      obtain ⟨h1, tr', h2, h3, h4⟩ := hu' h
      refine ⟨h1, tr', h2, h3, ?_⟩
      simp only [Wm, Wi] at h4 ⊢
      omega
end
theorem levelP_out (hs : s.length < 1000000) : ∀ r0 : Nat, InnerOk s r0 (levelP x s.length r0)
  | 0, t, l, u, h7, hg => by
    have ht := hg t List.mem_cons_self
    exact ⟨ht.low, ht.high, .inr ⟨rfl, ht.lft h7⟩⟩
  | r0 + 1, t, l, u, h7, hg => by
    have h := mainP_out (x := x) hs (levelP_out hs r0) l u (fun k' hk' => hg k' (List.mem_cons_of_mem _ hk'))
    unfold levelP
    simp only [List.tail_cons]
    cases hq : mainP x (s.length : Int) (levelP x (s.length : Int) r0) l u with
    | error e => rw [hq] at h; exact h
    | ok v =>
      obtain ⟨t', l', u'⟩ := v
      rw [hq] at h
      obtain ⟨c, dp, e, he, hd, hu, hk⟩ := h
      cases l' with
      | nil => exact err_end
      | cons k r =>
        by_cases h8 : k.kind = 8
        · simp only [closeP, h8, beq_self_eq_true, if_true]
          refine ⟨t :: (c ++ [k]), dp + 1, by rw [e]; simp, even_brk he h7 h8, by omega, fun h => ?_, fun k2 h2 => ?_⟩
          · obtain ⟨h1, tr, h2, h3, h4⟩ := hu h
            refine ⟨h1, tr, h2, h3, ?_⟩
            simp only [Wm, Wb] at h4 ⊢
            split <;> omega
          · rcases hk k2 h2 with h2 | ⟨h2, h3⟩
            · exact .inl h2
            · exact .inr ⟨List.mem_cons_of_mem _ h2, h3⟩
        · have h8' : (k.kind == 8) = false := by simpa using h8
          simp only [closeP, h8', Bool.false_eq_true, if_false]
          exact err14 (hg k (by rw [e]; simp))
def SoundP (s : List UInt8) (ns : Int) (p : Psd) : Prop :=
  (p.err = 0 ∧ p.pos = s.length ∧ p.len = 0 ∧ (∃ tr, Tr.steps tr = p.tree ∧ TrOk tr ∧ (tr.deep : Int) ≤ ns) ∧ p.tree.length ≤ 255 ∧ ns ≤ 32) ∨
  (p.tree = [] ∧ 0 ≤ p.pos ∧ p.pos ≤ s.length ∧ ((p.err = 15 ∧ 0 < p.len ∧ p.pos + p.len ≤ s.length) ∨ (p.len = 0 ∧ (p.err = 14 ∨ (p.err = 13 ∧ s[p.pos.toNat]? = some 40) ∨ (p.err = 12 ∧ 255 < s.length)))))
theorem treeP_few (x sz : Int) (l : List Tok) : (treeP x sz l).tree.length ≤ l.length := by
  have hf := mainP_fits (x := x) (sz := sz) (levelP_fits (x := x) (sz := sz) 32) l none
  unfold treeP
  split
  · simp
  · simp
  · simp
  · rename_i h
    rw [h] at hf
    simp only [Fits, List.length_nil] at hf
    simp only
    omega
theorem treeP_sound {l : List Tok} {ns : Int} (hs : s.length < 1000000) (hg : GoodT s l) (hl : l.length ≤ 255) (hn : ∀ dp : Nat, Even dp l → ns = dp) : SoundP s ns (treeP x s.length l) := by
  have h := mainP_out (x := x) hs (levelP_out (x := x) hs 32) l none hg
  have hsm := treeP_few x s.length l
  unfold treeP at hsm ⊢
  cases hq : mainP x (s.length : Int) (levelP x (s.length : Int) 32) l none with
  | error e =>
    rw [hq] at h
    obtain ⟨h1, h2, h3⟩ := h
    refine .inr ⟨rfl, h1, h2, .inr ⟨rfl, ?_⟩⟩
    rcases h3 with h3 | h3
    · exact .inl h3
    · exact .inr (.inl h3)
  | ok v =>
    obtain ⟨t, l', u⟩ := v
    rw [hq] at h hsm
    obtain ⟨c, dp, e, he, hd, hu, hk⟩ := h
    cases l' with
    | cons k r =>
      have hkk := hg k (by rw [e]; simp)
      exact .inr ⟨rfl, hkk.low, hkk.high, .inr ⟨rfl, .inl rfl⟩⟩
    | nil =>
      rw [List.append_nil] at e
      subst e
      cases u with
      | some k =>
        rcases hk k rfl with h | ⟨h1, h2⟩
        · cases h
        · have hkk := hg k h1
          have hsy := hkk.sym h2
          exact .inr ⟨rfl, hkk.low, hkk.high, .inl ⟨rfl, by simp only; omega, hsy.2⟩⟩
      | none =>
        obtain ⟨_, tr, h2, h3, h4⟩ := hu rfl
        have hns := hn dp he
        refine .inl ⟨rfl, rfl, rfl, ⟨tr, h2, h3, ?_⟩, ?_, by omega⟩
        · simp only [Wm] at h4
          omega
        · simp only at hsm ⊢
          omega
theorem nestF_pos : ∀ (l : List Tok) (d m : Int), m ≤ nestF d m l
  | [], d, m => Int.le_refl _
  | k :: l, d, m => by
    have := nestF_pos l (nestStep d k) (max m (nestStep d k))
    simp only [nestF]
    omega
theorem parse_sound (hx : isN x = true) (hs : s.length < 1000000) : SoundP s (nestF 0 0 (lexS x s).1) (parseP x s) := by
  obtain ⟨h1, h2, h3⟩ := lexF_in x s s.length s 0 rfl (Nat.zero_le _)
  have e : lexF x s.length s 0 = lexS x s := rfl
  rw [e] at h1 h2 h3
  unfold parseP
  rw [if_pos hx]
  by_cases hl : s.length ≤ 255
  · rw [if_pos hl]
    generalize (lexS x s).1 = l at *
    generalize (lexS x s).2 = en at *
    by_cases hen : en < s.length
    · rw [if_pos hen]
      refine treeP_sound hs (fun k hk => ?_) (by simp; omega) (fun dp he => ?_)
      · rcases List.mem_append.1 hk with hk | hk
        · exact h1 k hk
        · simp only [List.mem_singleton] at hk
          subst hk
          exact ⟨by simp, by simp; omega, fun h => by simp at h, fun h => by simp at h, fun h => by simp at h⟩
      · obtain ⟨g1, g2⟩ := nest_app l [⟨0, en, [], 0⟩] 0 0
        have h0 := he 0 0
        rw [g1, g2] at h0
        simp only [nestD, nestF, nestStep] at h0
        have hp := nestF_pos l 0 0
        have e7 : ¬ ((0 : Int) = 7) := by decide
        have e8 : ¬ ((0 : Int) = 8) := by decide
        simp only [e7, e8, if_false] at h0
        omega
    · rw [if_neg hen]
      refine treeP_sound hs h1 (by omega) (fun dp he => ?_)
      have := (he 0 0).2
      omega
  · rw [if_neg hl]
    exact .inr ⟨rfl, by simp, by simp, .inr ⟨rfl, .inr (.inr ⟨rfl, by omega⟩)⟩⟩
end Go.Pv
