/- A part of the proof: functions of the program in the evaluator's code, and what they come to. Conditions: none; definitions and theorems that the statement's proof uses. -/
import Derived.Test.YtleaeoncofgkjaaGreatDoorSet14
import Derived.Test.YtleaeoncofgkjaaGreatDoorSet12
import Derived.ChangeSlices
import Derived.ChangeMaps5
import Derived.OpenShut
import Derived.Lib.SmallJoins
import Derived.Test.YtleaeoncofgkjaaGreatDoorSet5
import Derived.KernelRfl
import Derived.Test.YtleaeoncofgkjaaGreatDoorChecked
/- Arguments: opened, and shut behind the call. Conditions: what the program's types are; lemmas. -/
namespace Go.Pv
open Go.RowKit Go.ChangeShapes Go.WideShapes Go.ChangeMaps Go.WideElems Go.Deep Go.Joins
variable {H : Type} {enc : TypeId × Value → H} {T : Tie} {W : World} {t e : TypeId} {v : Value} {d : DataW H} {ps : List MemPlace} {b0 : Nat}
structure ArgOk (enc : TypeId × Value → H) (T : Tie) (W : World) (t : TypeId) (v : Value) (d : DataW H) (ps : List MemPlace) (av : AV) : Prop where
  rep : RepV T (Ghost.met W) W av v
  shut : ∀ W' : World, W.keptBut W' (fun _ => False) → ∀ sp : Nat → Bool, (∀ p ∈ ps, sp p.block = true) → DataW.Trod enc T.P W' 0 sp true t v d ps
theorem arg_int (ht : T.P.underlying t = some (.int .i64)) (hval : Value.okWide T.P W .any b0 t v) (hd : DataW.Trod enc T.P W 0 (fun _ => true) true t v d ps) : ∃ n, ArgOk enc T W t v d ps (.int .i64 n) := by
  obtain ⟨n, rfl, rfl, rfl, w⟩ := open_int ht hval hd
  exact ⟨n, ⟨by simp [RepV], fun W' _ sp _ => shut_int ht w⟩⟩
theorem arg_string (ht : T.P.underlying t = some .string) (hval : Value.okWide T.P W .any b0 t v) (hd : DataW.Trod enc T.P W 0 (fun _ => true) true t v d ps) : ∃ s, ArgOk enc T W t v d ps (.str s) := by
  obtain ⟨s, rfl, rfl, rfl, w⟩ := open_string ht hval hd
  exact ⟨s.data.toList, ⟨by simp [RepV], fun W' _ sp _ => shut_string ht w⟩⟩
theorem rep_ints {G : Ghost} : ∀ l : List Int, RepL T G W (l.map (.int .i64)) (l.map (.int .i64))
  | [] => by simp [RepL]
  | n :: l => by
    simp only [List.map_cons, RepL]
    exact ⟨_, _, rfl, by simp [RepV], rep_ints l⟩
theorem row_mem {a : Addr} {n : Nat} (hn : 0 < n) : MemPlace.cell a.block a.off ∈ MemPlace.row a n := by
  simp only [MemPlace.row, List.mem_map, List.mem_range]
  exact ⟨0, hn, by simp⟩
theorem arg_ints (ht : T.P.underlying t = some (.slice e)) (he : T.P.underlying e = some (.int .i64)) (hc : T.P.cellsOf e = 1) (hval : Value.okWide T.P W .any b0 t v) (hd : DataW.Trod enc T.P W 0 (fun _ => true) true t v d ps) :
    ∃ L av, IntsV av L ∧ ArgOk enc T W t v d ps av := by
  obtain ⟨a0, l0, c0, rfl⟩ := okWide_slice ht hval
  obtain ⟨fuel, hf⟩ := hd
  rcases open_ints ht he hc hf with ⟨h1, h2⟩ | ⟨a, len, cap, zs, h1, hb, hl, hm, hz, h2, hcell, hw⟩
  · simp only [Value.cells, List.cons.injEq, Value.slice.injEq, and_true] at h1
    obtain ⟨rfl, rfl, rfl⟩ := h1
    simp only [Prod.mk.injEq] at h2
    obtain ⟨rfl, rfl⟩ := h2
    refine ⟨[], .nils, .inl ⟨rfl, rfl⟩, by simp [RepV], fun W' _ sp _ => ⟨1, ?_⟩⟩
    simp [DataW.trod, Value.cells, ht]
  · simp only [Value.cells, List.cons.injEq, Value.slice.injEq, and_true] at h1
    obtain ⟨rfl, rfl, rfl⟩ := h1
    simp only [Prod.mk.injEq] at h2
    obtain ⟨rfl, rfl⟩ := h2
    simp only [if_true] at hz
    have hlz : (zs.take l0).length = l0 := by rw [List.length_take]; omega
    refine ⟨zs.take l0, .vs .shared l0 ((zs.take l0).map (.int .i64)), .inr ⟨.shared, by rw [hlz]⟩, ?_, fun W' hk sp hsp => ?_⟩
    · simp only [RepV]
      refine ⟨_, _, rfl, hl, by simp, by simp, by simp, fun hne => ?_, fun h0 => by simp [h0]⟩
      have hpos : 0 < zs.length := by
        cases zs with
        | nil => simp at hne
        | cons _ _ => simp
      obtain ⟨b, off, rfl, hcl⟩ := ints_at hcell hpos
      have hc0 := hcl 0 hpos
      obtain ⟨c, ce, fz, hblk⟩ : ∃ c ce fz, W.heap[b]? = some (.cells c ce fz) := by
        cases hq : W.heap[b]? with
        | none => simp [World.cell?, hq] at hc0
        | some ob =>
          cases ob <;> first | (simp [World.cell?, hq] at hc0; done) | skip
          exact ⟨_, _, _, rfl⟩
      have hcell' : ∀ j, j < zs.length → c[off + j]? = some (.int .i64 (zs.getD j 0)) := fun j hj => by
        have := hcl j hj
        simp only [World.cell?, hblk] at this
        simpa using this
      refine ⟨b, off, c.size, rfl, by simp [Ghost.met, hblk], ?_, ?_⟩
      · have := hcell' (zs.length - 1) (by omega)
        have := (Array.getElem?_eq_some_iff.1 this).1
        rw [List.length_map, hlz]
        omega
      · refine RepM.of_list (rep_ints _) fun i x hx => ?_
        have hi : i < (zs.take l0).length := by
          have := (List.getElem?_eq_some_iff.1 hx).1
          simpa using this
        rw [List.getElem?_map, List.getElem?_eq_getElem hi] at hx
        simp only [Option.map_some, Option.some.injEq] at hx
        subst hx
        have hi2 : i < zs.length := by omega
        rw [hcl i hi2]
        congr 2
        rw [List.getElem_take]
        simp [List.getD, hi2]
    · rcases Nat.eq_zero_or_pos zs.length with h0 | hpos
      · refine ⟨0 + 2, ?_⟩
        exact shut_ints 0 ht he hc (Nat.zero_le _) hl hm (by rw [h0]; split <;> omega) (fun i hi => by omega) hw
      · refine ⟨0 + 2, ?_⟩
        have hspb := hsp _ (row_mem (a := a) hpos)
        obtain ⟨b, off, rfl, hcl⟩ := ints_at hcell hpos
        have hb' : b < W.heap.size := by
          have hc0 := hcl 0 hpos
          cases hq : W.heap[b]? with
          | none => simp [World.cell?, hq] at hc0
          | some ob => exact (Array.getElem?_eq_some_iff.1 hq).1
        exact shut_ints' 0 ht he hc (Nat.zero_le _) hl hm (by
          have : sp b = true := hspb
          rw [this]; simpa using hz) (fun i hi => by rw [hk.cell hb' (by simp)]; exact hcl i hi) hw
def Flat (enc : TypeId × Value → H) (P : Program) (t : TypeId) : Prop := ∀ (W W' : World) (sp sp' : Nat → Bool) (n : Nat) (cs : List Value), DataW.trod enc P W 0 sp true n t cs = DataW.trod enc P W' 0 sp' true n t cs
variable {P : Program}
theorem flat_int {k : IntKind} (ht : P.underlying t = some (.int k)) : Flat enc P t := by
  intro W W' sp sp' n cs
  cases n with
  | zero => rfl
  | succ n =>
    have one : ∀ (W W' : World) (sp sp' : Nat → Bool) x, DataW.trod enc P W 0 sp true (n + 1) t cs = some x → DataW.trod enc P W' 0 sp' true (n + 1) t cs = some x := by
      intro W W' sp sp' x h
      obtain ⟨m, rfl, rfl, hw⟩ := DataW.trod_int ht h
      exact trod_int_mk n ht hw
    apply Option.ext
    intro x
    exact ⟨one _ _ _ _ x, one _ _ _ _ x⟩
theorem flat_string (ht : P.underlying t = some .string) : Flat enc P t := by
  intro W W' sp sp' n cs
  cases n with
  | zero => rfl
  | succ n =>
    have one : ∀ (W W' : World) (sp sp' : Nat → Bool) x, DataW.trod enc P W 0 sp true (n + 1) t cs = some x → DataW.trod enc P W' 0 sp' true (n + 1) t cs = some x := by
      intro W W' sp sp' x h
      obtain ⟨s, rfl, rfl, hw⟩ := DataW.trod_string ht h
      simp [DataW.trod, ht, hw]
    apply Option.ext
    intro x
    exact ⟨one _ _ _ _ x, one _ _ _ _ x⟩
theorem mapM_same {α β : Type} {f g : α → Option β} : ∀ l : List α, (∀ a ∈ l, f a = g a) → l.mapM f = l.mapM g
  | [], _ => rfl
  | a :: l, h => by
    rw [List.mapM_cons, List.mapM_cons, h a (by simp), mapM_same l fun b hb => h b (by simp [hb])]
theorem flat_struct {fs : Array Field} (ht : P.underlying t = some (.struct fs)) (hf : ∀ f ∈ fs.toList, Flat enc P f.type) : Flat enc P t := by
  intro W W' sp sp' n cs
  cases n with
  | zero => rfl
  | succ n =>
    simp only [DataW.trod, ht]
    rw [mapM_same _ fun f h => hf f h W W' sp sp' n _]
theorem flat_array {m : Nat} (ht : P.underlying t = some (.array m e)) (hf : Flat enc P e) : Flat enc P t := by
  intro W W' sp sp' n cs
  cases n with
  | zero => rfl
  | succ n =>
    simp only [DataW.trod, ht]
    rw [mapM_same _ fun i _ => hf W W' sp sp' n _]
theorem flat_shut (hf : Flat enc T.P t) {av : AV} (hr : RepV T (Ghost.met W) W av v) (hd : DataW.Trod enc T.P W 0 (fun _ => true) true t v d ps) : ArgOk enc T W t v d ps av :=
  ⟨hr, fun W' _ sp _ => by
    obtain ⟨n, h⟩ := hd
    exact ⟨n, by rw [hf W' W sp (fun _ => true)]; exact h⟩⟩
theorem turn_cells {f0 f1 f2 f3 : Field} (ht : P.underlying t = some (.struct #[f0, f1, f2, f3])) (hone : oneCellFields P #[f0, f1, f2, f3] = true) (hC : P.cellsOf t = 4)
    (k0 : P.underlying f0.type = some (.int .i64)) (k1 : P.underlying f1.type = some (.int .i64)) (k2 : P.underlying f2.type = some (.int .i64)) (k3 : P.underlying f3.type = some .string)
    {sp : Nat → Bool} {n : Nat} {cs : List Value} {x : DataW H × List MemPlace} (h : DataW.trod enc P W 0 sp true n t cs = some x) :
    ∃ (a b c : Int) (s : List UInt8), cs = [.int .i64 a, .int .i64 b, .int .i64 c, .string ⟨⟨s⟩⟩] := by
  obtain ⟨y0, y1, y2, y3, m, _, hl, h0, h1, h2, h3⟩ := trod_struct4 ht h
  obtain ⟨o0, c0⟩ := hone_of hone 0 f0 rfl
  obtain ⟨o1, c1⟩ := hone_of hone 1 f1 rfl
  obtain ⟨o2, c2⟩ := hone_of hone 2 f2 rfl
  obtain ⟨o3, c3⟩ := hone_of hone 3 f3 rfl
  rw [hC] at hl
  rw [o0, c0] at h0
  rw [o1, c1] at h1
  rw [o2, c2] at h2
  rw [o3, c3] at h3
  obtain ⟨n0, e0, _⟩ := DataW.trod_int k0 h0
  obtain ⟨n1, e1, _⟩ := DataW.trod_int k1 h1
  obtain ⟨n2, e2, _⟩ := DataW.trod_int k2 h2
  obtain ⟨s, e3, _⟩ := DataW.trod_string k3 h3
  rcases cs with _ | ⟨v0, _ | ⟨v1, _ | ⟨v2, _ | ⟨v3, _ | ⟨v4, vs⟩⟩⟩⟩⟩
  all_goals simp at hl
  simp at e0 e1 e2 e3
  subst e0 e1 e2 e3
  exact ⟨n0, n1, n2, s.data.toList, rfl⟩
section
variable {f0 f1 f2 f3 : Field}
theorem arg_turn (ht : T.P.underlying t = some (.struct #[f0, f1, f2, f3])) (hone : oneCellFields T.P #[f0, f1, f2, f3] = true) (hC : T.P.cellsOf t = 4)
    (k0 : T.P.underlying f0.type = some (.int .i64)) (k1 : T.P.underlying f1.type = some (.int .i64)) (k2 : T.P.underlying f2.type = some (.int .i64)) (k3 : T.P.underlying f3.type = some .string)
    (hval : Value.okWide T.P W .any b0 t v) (hd : DataW.Trod enc T.P W 0 (fun _ => true) true t v d ps) : ∃ (a b c : Int) (s : List UInt8), ArgOk enc T W t v d ps (.agg [.int .i64 a, .int .i64 b, .int .i64 c, .str s]) := by
  obtain ⟨cs, rfl, hsz⟩ := okWide_struct ht hval
  have hd' := hd
  obtain ⟨n, h⟩ := hd
  obtain ⟨a, b, c, s, e⟩ := turn_cells ht hone hC k0 k1 k2 k3 h
  have hf : Flat enc T.P t := flat_struct ht (by
    intro f hf
    simp only [List.mem_cons, List.not_mem_nil, or_false] at hf
    rcases hf with rfl | rfl | rfl | rfl
    · exact flat_int k0
    · exact flat_int k1
    · exact flat_int k2
    · exact flat_string k3)
  refine ⟨a, b, c, s, flat_shut hf ?_ hd'⟩
  simp only [Value.cells] at e
  simp only [RepV, RepL]
  exact ⟨cs.toList, rfl, _, _, e, rfl, _, _, rfl, rfl, _, _, rfl, rfl, _, _, rfl, rfl, rfl⟩
theorem arg_turns (ha : T.P.underlying t = some (.array 3 e)) (hC3 : T.P.cellsOf t = 12) (ht : T.P.underlying e = some (.struct #[f0, f1, f2, f3])) (hone : oneCellFields T.P #[f0, f1, f2, f3] = true) (hC : T.P.cellsOf e = 4)
    (k0 : T.P.underlying f0.type = some (.int .i64)) (k1 : T.P.underlying f1.type = some (.int .i64)) (k2 : T.P.underlying f2.type = some (.int .i64)) (k3 : T.P.underlying f3.type = some .string)
    (hval : Value.okWide T.P W .any b0 t v) (hd : DataW.Trod enc T.P W 0 (fun _ => true) true t v d ps) :
    ∃ (a b c : Int) (s : List UInt8) (a1 b1 c1 : Int) (s1 : List UInt8) (a2 b2 c2 : Int) (s2 : List UInt8), ArgOk enc T W t v d ps (.agg [.int .i64 a, .int .i64 b, .int .i64 c, .str s, .int .i64 a1, .int .i64 b1, .int .i64 c1, .str s1, .int .i64 a2, .int .i64 b2, .int .i64 c2, .str s2]) := by
  obtain ⟨cs, rfl, hsz⟩ : ∃ cs, v = .agg cs ∧ cs.size = T.P.cellsOf t := by
    simp only [Value.okWide, ha] at hval
    obtain ⟨cs, h1, h2, _⟩ := hval
    exact ⟨cs, h1, h2⟩
  have hd' := hd
  obtain ⟨n, h⟩ := hd
  obtain ⟨xs, m, _, _, hl, hx, hall⟩ := DataW.trod_array ha h
  simp only [Value.cells] at hall hl
  have get : ∀ i, i < 3 → ∃ (a b c : Int) (s : List UInt8), (cs.toList.drop (i * 4)).take 4 = [.int .i64 a, .int .i64 b, .int .i64 c, .string ⟨⟨s⟩⟩] := by
    intro i hi
    have := hall i hi
    rw [hC, List.getElem?_eq_getElem (by omega)] at this
    exact turn_cells ht hone hC k0 k1 k2 k3 this
  obtain ⟨a, b, c, s, e0⟩ := get 0 (by omega)
  obtain ⟨a1, b1, c1, s1, e1⟩ := get 1 (by omega)
  obtain ⟨a2, b2, c2, s2, e2⟩ := get 2 (by omega)
  have hf : Flat enc T.P t := flat_array ha (flat_struct ht (by
    intro f hf
    simp only [List.mem_cons, List.not_mem_nil, or_false] at hf
    rcases hf with rfl | rfl | rfl | rfl
    · exact flat_int k0
    · exact flat_int k1
    · exact flat_int k2
    · exact flat_string k3))
  refine ⟨a, b, c, s, a1, b1, c1, s1, a2, b2, c2, s2, flat_shut hf ?_ hd'⟩
  have he : cs.toList = (cs.toList.drop (0 * 4)).take 4 ++ ((cs.toList.drop (1 * 4)).take 4 ++ (cs.toList.drop (2 * 4)).take 4) := by
    rw [hC3] at hl
    generalize cs.toList = l at hl
    rw [List.take_of_length_le (l := l.drop (2 * 4)) (by rw [List.length_drop]; omega)]
    have : (l.drop (1 * 4)).take 4 ++ l.drop (2 * 4) = l.drop (1 * 4) := by
      rw [show l.drop (2 * 4) = (l.drop (1 * 4)).drop 4 by rw [List.drop_drop]]
      exact List.take_append_drop 4 _
    rw [this]
    simp
  rw [e0, e1, e2] at he
  simp only [RepV, RepL]
  exact ⟨cs.toList, rfl, _, _, he, rfl, _, _, rfl, rfl, _, _, rfl, rfl, _, _, rfl, rfl, _, _, rfl, rfl, _, _, rfl, rfl, _, _, rfl, rfl, _, _, rfl, rfl, _, _, rfl, rfl, _, _, rfl, rfl, _, _, rfl, rfl, _, _, rfl, rfl, rfl⟩
end
theorem post_kept {f : Func} {s : ChangeSpec} {apart fresh handsOn again : Bool} {W W' : World} {args : Array Value} {v : Value} {ds gs : List (DataW H)} {before : List MemPlace}
    (hW : DataW.Whole enc P f.params.toList s.vars apart W args.toList ds gs before)
    (hres : ∀ (b : Nat) (sp : Nat → Bool) (hd : Bool), DataW.TrodAll enc P W' b sp hd f.resultTypes.toList (v.resultList f.resultTypes.size) (s.fn H (ds ++ gs)).results [])
    (hargs : ∀ sp : Nat → Bool, (∀ p ∈ before, sp p.block = true) → DataW.TrodAll enc P W' 0 sp true f.params.toList args.toList (s.fn H (ds ++ gs)).args before)
    (hvars : ∀ sp : Nat → Bool, DataW.TrodVars enc P W' sp s.vars (s.fn H (ds ++ gs)).vars []) (hk : W.keptBut W' (fun _ => False))
    (hok : ∀ (j : Nat) (t : TypeId) (r : Value), f.resultTypes[j]? = some t → (v.resultList f.resultTypes.size)[j]? = some r → Value.okWide P W' .any 0 t r) :
    s.post enc P f apart fresh handsOn again W args v W' := by
  have hold : ∀ p ∈ before, (fun b => decide (b < W.heap.size)) p.block = true := fun p hp => by simpa using hW.lt p hp
  have hlt := hW.lt
  refine ⟨ds, gs, before, [], before, [], hW, hres _ _ _, hargs _ hold, hvars _, World.keptBut_mono (fun p hp => hp.elim) hk, fun _ => ?_⟩
  obtain ⟨_, _, _, _, _, hz, hn⟩ := hW
  refine ⟨hok, _, _, ([] ++ before) ++ [], ⟨[] ++ before, [], trodAll_append (hargs _ (fun _ _ => rfl)) (hres _ _ _), hvars _, rfl, ?_, ?_⟩, ?_⟩
  · intro b off hp
    have hp' : MemPlace.cell b off ∈ before := by simpa using hp
    have h1 := hz b off hp'
    have h2 := hk.2.2 b (hlt _ hp')
    simp only [World.frozen?] at h1 ⊢
    cases hq : W.heap[b]? with
    | none =>
      rw [hq] at h2
      cases hq' : W'.heap[b]? with
      | none => rfl
      | some o => rw [hq'] at h2; simp at h2
    | some o =>
      rw [hq] at h1 h2
      cases hq' : W'.heap[b]? with
      | none => rfl
      | some o' =>
        rw [hq'] at h2
        cases o <;> cases o' <;> simp_all
  · intro ha
    simpa using hn ha
  · intro p hp _
    simpa using hp
end Go.Pv
/- The seat's functions are those. Conditions: none; theorems. -/
namespace Go.Proofs.YtleaeoncofgkjaaGreatDoor
open Go Go.Pv
def fnums : List Nat := [0, 1, 2, 0, 0, 0, 0, 0, 0, 0, 0, 0, 0, 131, 0, 0, 0, 9, 10, 18, 15, 0, 0, 0, 0, 136, 137, 0, 0, 0, 26, 27, 28, 29, 0, 0, 0, 0, 105, 140, 141, 142, 0, 0, 40, 41, 42, 43, 44, 45, 46, 54, 53, 85, 0, 0, 121, 122, 123, 148, 149, 150, 71, 72, 73, 74, 75, 76, 77, 78, 79, 87, 88, 89, 86, 156, 96, 97, 98, 99, 100, 101, 102, 103, 104, 110, 108, 109, 113, 114, 115, 116, 117, 118, 119, 120, 126, 127, 128, 129, 130, 132, 135, 138, 139, 143, 144, 145, 146, 147, 151, 152, 153, 154, 155, 157, 158, 159, 160, 161, 162, 163, 164, 165, 166, 167, 168, 169, 170, 171, 172, 173, 0, 174, 175, 176, 177, 178, 179, 180, 181, 182, 183, 184, 185, 186, 187, 188, 189, 3, 4, 5, 6, 7, 8, 11, 12, 13, 14, 16, 17, 19, 20, 21, 22, 23, 24, 25, 30, 31, 32, 33, 34, 35, 36, 37, 38, 39, 47, 48, 49, 50, 51, 52, 55, 56, 57, 58, 59, 60, 61, 62, 63, 64, 65, 66, 67, 68, 69, 70, 80, 81, 82, 83, 84, 90, 91, 92, 93, 94, 95, 106, 107, 111, 112, 124, 125, 133, 134]
def ffinds : List Nat := [0, 1, 2, 149, 150, 151, 152, 153, 154, 17, 18, 155, 156, 157, 158, 20, 159, 160, 19, 161, 162, 163, 164, 165, 166, 167, 30, 31, 32, 33, 168, 169, 170, 171, 172, 173, 174, 175, 176, 177, 44, 45, 46, 47, 48, 49, 50, 178, 179, 180, 181, 182, 183, 52, 51, 184, 185, 186, 187, 188, 189, 190, 191, 192, 193, 194, 195, 196, 197, 198, 199, 62, 63, 64, 65, 66, 67, 68, 69, 70, 200, 201, 202, 203, 204, 53, 74, 71, 72, 73, 205, 206, 207, 208, 209, 210, 76, 77, 78, 79, 80, 81, 82, 83, 84, 38, 211, 212, 86, 87, 85, 213, 214, 88, 89, 90, 91, 92, 93, 94, 95, 56, 57, 58, 215, 216, 96, 97, 98, 99, 100, 13, 101, 217, 218, 102, 25, 26, 103, 104, 39, 40, 41, 105, 106, 107, 108, 109, 59, 60, 61, 110, 111, 112, 113, 114, 75, 115, 116, 117, 118, 119, 120, 121, 122, 123, 124, 125, 126, 127, 128, 129, 130, 131, 133, 134, 135, 136, 137, 138, 139, 140, 141, 142, 143, 144, 145, 146, 147, 148]
def gnums : List Nat := [1, 0, 2, 3, 4, 5, 6, 7]
def gfinds : List Nat := [1, 0, 2, 3, 4, 5, 6, 7]
def tnums : List Nat := [88, 161, 166, 187, 9, 1000000]
def tfinds : List (Nat × Nat) := [(9, 4), (88, 0), (161, 1), (166, 2), (187, 3)]
noncomputable def tT : Tie := { P := Tryz.prog, fnum := fun j => fnums.getD j 0, ffind := fun i => ffinds[i]?, gnum := fun j => gnums.getD j 0, gfind := fun i => gfinds[i]?, tnum := fun j => tnums.getD j 1000000, tfind := fun i => tfinds.lookup i }
def kp (a b : List (Nat × List Bool)) (c : List Bool) : Keeps := ⟨fun i => (a.lookup i).getD [], fun i => (b.lookup i).getD [], c⟩
def k13 := kp [] [] q13
def k17 := kp [] [] q17
def k18 := kp [] [] q18
def k19 := kp [(0, q19)] [] q19
def k20 := kp [] [] q20
def k25 := kp [] [] q25
def k26 := kp [(1, q26_1), (0, q26)] [(7, q26_1)] q26
def k30 := kp [(0, q30_0), (2, q30_2), (1, q30_2)] [] q30
def k31 := kp [(1, q31_1), (0, q31_1)] [] q31
def k32 := kp [] [] q32
def k33 := kp [] [] q33
def k38 := kp [(1, q38_1), (0, q38_0)] [(3, q38_1)] q38
def k39 := kp [] [] q18
def k40 := kp [] [] q40
def k41 := kp [] [] q41
def k44 := kp [] [] q44
def k45 := kp [] [] q31_1
def k46 := kp [(1, q46_1), (0, q46_0)] [(1, q46_1)] q46_0
def k47 := kp [(0, q47_0)] [] q47
def k48 := kp [] [] [Z,Z,Z,Z,Z,Z,Z,Z,Z,Z,Z,Z,Z,Z]
def k49 := kp [(2, q49_2), (1, q49_1), (0, q49_0)] [(5, q49_1)] q49
def k50 := kp [] [] q183_0
def k51 := kp [] [] q51
def k52 := kp [] [] q52
def k53 := kp [] [] q53
def k56 := kp [] [] q56
def k57 := kp [] [] q57
def k58 := kp [] [] q56
def k59 := kp [(1, q59_1), (0, q54_0)] [(2, q59_1)] q59
def k60 := kp [] [] q31
def k61 := kp [] [] q61
def k62 := kp [(1, q62_1), (2, q62_1), (3, q62_1), (0, q62_0), (4, q62_1)] [] q62
def k63 := kp [(1, q63_1), (0, q63_0)] [(3, q63_1)] q63
def k64 := kp [] [] q64
def k65 := kp [] [] q65
def k66 := kp [] [] q66
def k67 := kp [(1, q67_1), (0, q67_0)] [(3, q67_1)] q67
def k68 := kp [] [] q68
def k69 := kp [] [] q69
def k70 := kp [] [] q19
def k71 := kp [] [] q71
def k72 := kp [] [] q72
def k73 := kp [] [] q73
def k74 := kp [(1, q74_1), (0, q74)] [(5, q74_1)] q74
def k75 := kp [] [] q75
def k76 := kp [] [] q76
def k77 := kp [(1, q77_1), (0, q77_0)] [(3, q77_1)] q77
def k78 := kp [] [] q78
def k79 := kp [(0, q79_0)] [] q79
def k80 := kp [(0, q67)] [] q80
def k82 := kp [] [] q82
def k83 := kp [] [] q83
def k84 := kp [(0, q84_0)] [] q84
def k85 := kp [] [] q85
def k86 := kp [(1, q86_1), (0, q86_0)] [(2, q86_1)] q86
def k87 := kp [] [] q82
def k88 := kp [(1, q88_1), (0, q88_1), (2, q88_2), (5, q88_5), (4, q88_4), (3, q88_3)] [(36, q88_4)] q88
def k89 := kp [] [] q68
def k90 := kp [] [] q68
def k91 := kp [] [] q91
def k92 := kp [] [] q91
def k94 := kp [] [] q94
def k95 := kp [] [] q95
def k96 := kp [] [] q96
def k97 := kp [(1, q97_1), (0, q97_0)] [(10, q97_1)] q97
def k99 := kp [] [] q99
def k100 := kp [] [] q96
def k101 := kp [] [] q101
def k102 := kp [] [] q96
def k103 := kp [] [] q103
def k104 := kp [] [] q104
def k105 := kp [(1, q59_1), (0, q54_0)] [(2, q59_1)] q59
def k106 := kp [] [] q106
def k107 := kp [] [] q106
def k108 := kp [(1, q108_0), (0, q108_0)] [(1, q108_0)] [Z,Z,Z,Z,Z,Z,Z,Z,Z,Z,Z,Z,Z,Z,Z,Z,Z,Z,Z,Z,Z,Z,Z,Z,Z,Z,Z,Z,Z,Z,Z,Z,Z,Z,Z,Z,Z,Z,Z,Z,Z,Z,Z,Z,Z,Z,Z,Z,Z,Z,Z,Z,Z,Z,Z,Z,Z,Z,Z,Z,Z,Z,Z,Z,Z,Z,Z,Z,Z,Z,Z,Z,Z,Z,Z,Z,Z,Z,Z,Z,Z,Z,Z,Z,Z,Z,Z,Z,Z,Z,Z,Z,Z,Z,Z,Z,Z,Z,Z,Z,Z,Z,Z,Z,Z,Z,Z,Z,Z,Z,Z,Z,Z,Z,Z,Z,Z,Z,Z,Z,Z,Z,Z,Z,Z,Z,Z,Z,Z,Z,Z,Z,Z,Z,Z,Z,Z,Z,Z,Z,Z,Z,Z,Z,Z,Z,Z,Z,Z,Z,Z,Z,Z,Z,Z,Z,Z,Z,Z,Z,Z,Z,Z,Z,Z,Z,Z]
def k109 := kp [(3, q109_3), (2, q109_0), (1, q109_1), (0, q109_0)] [(18, q109_3), (11, q109_1)] q109
def k110 := kp [] [] q110
def k111 := kp [] [] q111
def k112 := kp [] [] q23
def k113 := kp [] [] q56
def k114 := kp [] [] q56
def k115 := kp [] [] q115
def k116 := kp [] [] q115
def k149 := kp [] [] q149
def k150 := kp [(1, q150_1), (0, q150_0)] [(10, q150_1)] q150
def k151 := kp [] [] q151
def k152 := kp [] [] q152
def k153 := kp [] [] q153
def k154 := kp [] [] q86
def k155 := kp [] [] q76
def k156 := kp [(0, q156_0)] [] q156
def k157 := kp [] [] q31
def k158 := kp [] [] q158
def k159 := kp [(1, q159_1), (0, q159_0)] [(5, q159_1)] q159
def k160 := kp [(1, q160_1), (0, q160_0)] [(4, q160_1)] q77
def k161 := kp [] [] q161
def k162 := kp [(1, q162_1), (0, q162_0)] [(5, q162_1)] q162
def k163 := kp [] [] q115
def k164 := kp [(1, q164_1), (0, q164_0)] [(2, q164_1)] q164
def k165 := kp [(1, q165_1), (0, q165_0)] [(4, q165_1)] q165
def k166 := kp [] [] q166
def k167 := kp [] [] q159
def k168 := kp [(1, q168_1), (0, q168_0)] [(4, q168_1)] q168
def k169 := kp [] [] q56
def k170 := kp [(1, q170_1), (0, q170_0)] [(5, q170_1)] q170
def k171 := kp [] [] q171
def k172 := kp [(1, q172_1), (0, q172_0)] [(3, q172_1)] q172
def k173 := kp [] [] q173
def k174 := kp [(0, q174_0), (1, q174_1)] [] q174
def k175 := kp [] [] q175
def k176 := kp [(0, q176_0)] [] q176
def k177 := kp [] [] q177
def k178 := kp [] [] q178
def k179 := kp [(0, q179_0)] [] q179
def k180 := kp [(0, q180_0)] [] q180
def k181 := kp [] [] q181
def k182 := kp [(2, q182_2), (1, q182_1), (0, q182_1)] [(20, q182_2)] q182
def k183 := kp [(0, q183_0)] [] q173
def k184 := kp [] [] q184
def k185 := kp [] [] q110
def k186 := kp [(1, q186_0), (0, q186_0)] [(2, q186_0)] q69
def k187 := kp [] [] q187
def k188 := kp [] [] q188
def k189 := kp [] [] q189
def k190 := kp [] [] q159
def k191 := kp [] [] q94
def k192 := kp [] [] q192
def k193 := kp [(0, q193_0)] [] q193
def k194 := kp [(1, q194_1), (0, q194_0)] [(2, q194_1)] q194
def k195 := kp [(1, q195_1), (0, q195_0)] [(4, q195_1)] q195
def k196 := kp [(1, q196_1), (0, q196_0)] [(3, q196_1)] q196
def k197 := kp [(1, q197_0), (0, q197_0)] [(2, q197_0)] q197
def k198 := kp [(1, q198_1), (0, q198_0)] [(5, q198_1)] q198
def k199 := kp [] [] [Z,Z,Z,Z,Z,Z,Z,Z,Z,Z,Z,Z,Z,Z,Z,Z,Z,Z,Z,Z,Z,Z]
def k200 := kp [] [] q200
def k201 := kp [] [] q192
def k203 := kp [(0, q203_0)] [] q203
def k204 := kp [(0, q204_0)] [] q204
def k205 := kp [] [] q205
def k206 := kp [(1, q206_1), (0, q206_0)] [(3, q206_1)] q111
def k207 := kp [] [] q207
def k208 := kp [] [] q75
def k209 := kp [] [] q49
def k210 := kp [] [] q210
def k212 := kp [(1, q212_1), (0, q212_0)] [(2, q212_1)] q19
def k213 := kp [] [] q75
def k214 := kp [] [] q180
def k215 := kp [(1000008, [X,X,X,X,X,X])] [] q215
def k216 := kp [] [] q195_0
def k217 := kp [] [] q217
def k218 := kp [] [] q218
theorem c13 : cFunc tT k13 f13.mode Tryz.f131 = some f13 := by kernel_rfl
theorem c17 : cFunc tT k17 f17.mode Tryz.f9 = some f17 := by kernel_rfl
theorem c18 : cFunc tT k18 f18.mode Tryz.f10 = some f18 := by kernel_rfl
theorem c19 : cFunc tT k19 f19.mode Tryz.f18 = some f19 := by kernel_rfl
theorem c20 : cFunc tT k20 f20.mode Tryz.f15 = some f20 := by kernel_rfl
theorem c25 : cFunc tT k25 f25.mode Tryz.f136 = some f25 := by kernel_rfl
theorem c26 : cFunc tT k26 f26.mode Tryz.f137 = some f26 := by kernel_rfl
theorem c30 : cFunc tT k30 f30.mode Tryz.f26 = some f30 := by kernel_rfl
theorem c31 : cFunc tT k31 f31.mode Tryz.f27 = some f31 := by kernel_rfl
theorem c32 : cFunc tT k32 f32.mode Tryz.f28 = some f32 := by kernel_rfl
theorem c33 : cFunc tT k33 f33.mode Tryz.f29 = some f33 := by kernel_rfl
theorem c38 : cFunc tT k38 f38.mode Tryz.f105 = some f38 := by kernel_rfl
theorem c39 : cFunc tT k39 f39.mode Tryz.f140 = some f39 := by kernel_rfl
theorem c40 : cFunc tT k40 f40.mode Tryz.f141 = some f40 := by kernel_rfl
theorem c41 : cFunc tT k41 f41.mode Tryz.f142 = some f41 := by kernel_rfl
theorem c44 : cFunc tT k44 f44.mode Tryz.f40 = some f44 := by kernel_rfl
theorem c45 : cFunc tT k45 f45.mode Tryz.f41 = some f45 := by kernel_rfl
theorem c46 : cFunc tT k46 f46.mode Tryz.f42 = some f46 := by kernel_rfl
theorem c47 : cFunc tT k47 f47.mode Tryz.f43 = some f47 := by kernel_rfl
theorem c48 : cFunc tT k48 f48.mode Tryz.f44 = some f48 := by kernel_rfl
theorem c49 : cFunc tT k49 f49.mode Tryz.f45 = some f49 := by kernel_rfl
theorem c50 : cFunc tT k50 f50.mode Tryz.f46 = some f50 := by kernel_rfl
theorem c51 : cFunc tT k51 f51.mode Tryz.f54 = some f51 := by kernel_rfl
theorem c52 : cFunc tT k52 f52.mode Tryz.f53 = some f52 := by kernel_rfl
theorem c53 : cFunc tT k53 f53.mode Tryz.f85 = some f53 := by kernel_rfl
theorem c56 : cFunc tT k56 f56.mode Tryz.f121 = some f56 := by kernel_rfl
theorem c57 : cFunc tT k57 f57.mode Tryz.f122 = some f57 := by kernel_rfl
theorem c58 : cFunc tT k58 f58.mode Tryz.f123 = some f58 := by kernel_rfl
theorem c59 : cFunc tT k59 f59.mode Tryz.f148 = some f59 := by kernel_rfl
theorem c60 : cFunc tT k60 f60.mode Tryz.f149 = some f60 := by kernel_rfl
theorem c61 : cFunc tT k61 f61.mode Tryz.f150 = some f61 := by kernel_rfl
theorem c62 : cFunc tT k62 f62.mode Tryz.f71 = some f62 := by kernel_rfl
theorem c63 : cFunc tT k63 f63.mode Tryz.f72 = some f63 := by kernel_rfl
theorem c64 : cFunc tT k64 f64.mode Tryz.f73 = some f64 := by kernel_rfl
theorem c65 : cFunc tT k65 f65.mode Tryz.f74 = some f65 := by kernel_rfl
theorem c66 : cFunc tT k66 f66.mode Tryz.f75 = some f66 := by kernel_rfl
theorem c67 : cFunc tT k67 f67.mode Tryz.f76 = some f67 := by kernel_rfl
theorem c68 : cFunc tT k68 f68.mode Tryz.f77 = some f68 := by kernel_rfl
theorem c69 : cFunc tT k69 f69.mode Tryz.f78 = some f69 := by kernel_rfl
theorem c70 : cFunc tT k70 f70.mode Tryz.f79 = some f70 := by kernel_rfl
theorem c71 : cFunc tT k71 f71.mode Tryz.f87 = some f71 := by kernel_rfl
theorem c72 : cFunc tT k72 f72.mode Tryz.f88 = some f72 := by kernel_rfl
theorem c73 : cFunc tT k73 f73.mode Tryz.f89 = some f73 := by kernel_rfl
theorem c74 : cFunc tT k74 f74.mode Tryz.f86 = some f74 := by kernel_rfl
theorem c75 : cFunc tT k75 f75.mode Tryz.f156 = some f75 := by kernel_rfl
theorem c76 : cFunc tT k76 f76.mode Tryz.f96 = some f76 := by kernel_rfl
theorem c77 : cFunc tT k77 f77.mode Tryz.f97 = some f77 := by kernel_rfl
theorem c78 : cFunc tT k78 f78.mode Tryz.f98 = some f78 := by kernel_rfl
theorem c79 : cFunc tT k79 f79.mode Tryz.f99 = some f79 := by kernel_rfl
theorem c80 : cFunc tT k80 f80.mode Tryz.f100 = some f80 := by kernel_rfl
theorem c82 : cFunc tT k82 f82.mode Tryz.f102 = some f82 := by kernel_rfl
theorem c83 : cFunc tT k83 f83.mode Tryz.f103 = some f83 := by kernel_rfl
theorem c84 : cFunc tT k84 f84.mode Tryz.f104 = some f84 := by kernel_rfl
theorem c85 : cFunc tT k85 f85.mode Tryz.f110 = some f85 := by kernel_rfl
theorem c86 : cFunc tT k86 f86.mode Tryz.f108 = some f86 := by kernel_rfl
theorem c87 : cFunc tT k87 f87.mode Tryz.f109 = some f87 := by kernel_rfl
theorem c88 : cFunc tT k88 f88.mode Tryz.f113 = some f88 := by kernel_rfl
theorem c89 : cFunc tT k89 f89.mode Tryz.f114 = some f89 := by kernel_rfl
theorem c90 : cFunc tT k90 f90.mode Tryz.f115 = some f90 := by kernel_rfl
theorem c91 : cFunc tT k91 f91.mode Tryz.f116 = some f91 := by kernel_rfl
theorem c92 : cFunc tT k92 f92.mode Tryz.f117 = some f92 := by kernel_rfl
theorem c94 : cFunc tT k94 f94.mode Tryz.f119 = some f94 := by kernel_rfl
theorem c95 : cFunc tT k95 f95.mode Tryz.f120 = some f95 := by kernel_rfl
theorem c96 : cFunc tT k96 f96.mode Tryz.f126 = some f96 := by kernel_rfl
theorem c97 : cFunc tT k97 f97.mode Tryz.f127 = some f97 := by kernel_rfl
theorem c99 : cFunc tT k99 f99.mode Tryz.f129 = some f99 := by kernel_rfl
theorem c100 : cFunc tT k100 f100.mode Tryz.f130 = some f100 := by kernel_rfl
theorem c101 : cFunc tT k101 f101.mode Tryz.f132 = some f101 := by kernel_rfl
theorem c102 : cFunc tT k102 f102.mode Tryz.f135 = some f102 := by kernel_rfl
theorem c103 : cFunc tT k103 f103.mode Tryz.f138 = some f103 := by kernel_rfl
theorem c104 : cFunc tT k104 f104.mode Tryz.f139 = some f104 := by kernel_rfl
theorem c105 : cFunc tT k105 f105.mode Tryz.f143 = some f105 := by kernel_rfl
theorem c106 : cFunc tT k106 f106.mode Tryz.f144 = some f106 := by kernel_rfl
theorem c107 : cFunc tT k107 f107.mode Tryz.f145 = some f107 := by kernel_rfl
theorem c108 : cFunc tT k108 f108.mode Tryz.f146 = some f108 := by kernel_rfl
theorem c109 : cFunc tT k109 f109.mode Tryz.f147 = some f109 := by kernel_rfl
theorem c110 : cFunc tT k110 f110.mode Tryz.f151 = some f110 := by kernel_rfl
theorem c111 : cFunc tT k111 f111.mode Tryz.f152 = some f111 := by kernel_rfl
theorem c112 : cFunc tT k112 f112.mode Tryz.f153 = some f112 := by kernel_rfl
theorem c113 : cFunc tT k113 f113.mode Tryz.f154 = some f113 := by kernel_rfl
theorem c114 : cFunc tT k114 f114.mode Tryz.f155 = some f114 := by kernel_rfl
theorem c115 : cFunc tT k115 f115.mode Tryz.f157 = some f115 := by kernel_rfl
theorem c116 : cFunc tT k116 f116.mode Tryz.f158 = some f116 := by kernel_rfl
theorem c149 : cFunc tT k149 f149.mode Tryz.f3 = some f149 := by kernel_rfl
theorem c150 : cFunc tT k150 f150.mode Tryz.f4 = some f150 := by kernel_rfl
theorem c151 : cFunc tT k151 f151.mode Tryz.f5 = some f151 := by kernel_rfl
theorem c152 : cFunc tT k152 f152.mode Tryz.f6 = some f152 := by kernel_rfl
theorem c153 : cFunc tT k153 f153.mode Tryz.f7 = some f153 := by kernel_rfl
theorem c154 : cFunc tT k154 f154.mode Tryz.f8 = some f154 := by kernel_rfl
theorem c155 : cFunc tT k155 f155.mode Tryz.f11 = some f155 := by kernel_rfl
theorem c156 : cFunc tT k156 f156.mode Tryz.f12 = some f156 := by kernel_rfl
theorem c157 : cFunc tT k157 f157.mode Tryz.f13 = some f157 := by kernel_rfl
theorem c158 : cFunc tT k158 f158.mode Tryz.f14 = some f158 := by kernel_rfl
theorem c159 : cFunc tT k159 f159.mode Tryz.f16 = some f159 := by kernel_rfl
theorem c160 : cFunc tT k160 f160.mode Tryz.f17 = some f160 := by kernel_rfl
theorem c161 : cFunc tT k161 f161.mode Tryz.f19 = some f161 := by kernel_rfl
theorem c162 : cFunc tT k162 f162.mode Tryz.f20 = some f162 := by kernel_rfl
theorem c163 : cFunc tT k163 f163.mode Tryz.f21 = some f163 := by kernel_rfl
theorem c164 : cFunc tT k164 f164.mode Tryz.f22 = some f164 := by kernel_rfl
theorem c165 : cFunc tT k165 f165.mode Tryz.f23 = some f165 := by kernel_rfl
theorem c166 : cFunc tT k166 f166.mode Tryz.f24 = some f166 := by kernel_rfl
theorem c167 : cFunc tT k167 f167.mode Tryz.f25 = some f167 := by kernel_rfl
theorem c168 : cFunc tT k168 f168.mode Tryz.f30 = some f168 := by kernel_rfl
theorem c169 : cFunc tT k169 f169.mode Tryz.f31 = some f169 := by kernel_rfl
theorem c170 : cFunc tT k170 f170.mode Tryz.f32 = some f170 := by kernel_rfl
theorem c171 : cFunc tT k171 f171.mode Tryz.f33 = some f171 := by kernel_rfl
theorem c172 : cFunc tT k172 f172.mode Tryz.f34 = some f172 := by kernel_rfl
theorem c173 : cFunc tT k173 f173.mode Tryz.f35 = some f173 := by kernel_rfl
theorem c174 : cFunc tT k174 f174.mode Tryz.f36 = some f174 := by kernel_rfl
theorem c175 : cFunc tT k175 f175.mode Tryz.f37 = some f175 := by kernel_rfl
theorem c176 : cFunc tT k176 f176.mode Tryz.f38 = some f176 := by kernel_rfl
theorem c177 : cFunc tT k177 f177.mode Tryz.f39 = some f177 := by kernel_rfl
theorem c178 : cFunc tT k178 f178.mode Tryz.f47 = some f178 := by kernel_rfl
theorem c179 : cFunc tT k179 f179.mode Tryz.f48 = some f179 := by kernel_rfl
theorem c180 : cFunc tT k180 f180.mode Tryz.f49 = some f180 := by kernel_rfl
theorem c181 : cFunc tT k181 f181.mode Tryz.f50 = some f181 := by kernel_rfl
theorem c182 : cFunc tT k182 f182.mode Tryz.f51 = some f182 := by kernel_rfl
theorem c183 : cFunc tT k183 f183.mode Tryz.f52 = some f183 := by kernel_rfl
theorem c184 : cFunc tT k184 f184.mode Tryz.f55 = some f184 := by kernel_rfl
theorem c185 : cFunc tT k185 f185.mode Tryz.f56 = some f185 := by kernel_rfl
theorem c186 : cFunc tT k186 f186.mode Tryz.f57 = some f186 := by kernel_rfl
theorem c187 : cFunc tT k187 f187.mode Tryz.f58 = some f187 := by kernel_rfl
theorem c188 : cFunc tT k188 f188.mode Tryz.f59 = some f188 := by kernel_rfl
theorem c189 : cFunc tT k189 f189.mode Tryz.f60 = some f189 := by kernel_rfl
theorem c190 : cFunc tT k190 f190.mode Tryz.f61 = some f190 := by kernel_rfl
theorem c191 : cFunc tT k191 f191.mode Tryz.f62 = some f191 := by kernel_rfl
theorem c192 : cFunc tT k192 f192.mode Tryz.f63 = some f192 := by kernel_rfl
theorem c193 : cFunc tT k193 f193.mode Tryz.f64 = some f193 := by kernel_rfl
theorem c194 : cFunc tT k194 f194.mode Tryz.f65 = some f194 := by kernel_rfl
theorem c195 : cFunc tT k195 f195.mode Tryz.f66 = some f195 := by kernel_rfl
theorem c196 : cFunc tT k196 f196.mode Tryz.f67 = some f196 := by kernel_rfl
theorem c197 : cFunc tT k197 f197.mode Tryz.f68 = some f197 := by kernel_rfl
theorem c198 : cFunc tT k198 f198.mode Tryz.f69 = some f198 := by kernel_rfl
theorem c199 : cFunc tT k199 f199.mode Tryz.f70 = some f199 := by kernel_rfl
theorem c200 : cFunc tT k200 f200.mode Tryz.f80 = some f200 := by kernel_rfl
theorem c201 : cFunc tT k201 f201.mode Tryz.f81 = some f201 := by kernel_rfl
theorem c203 : cFunc tT k203 f203.mode Tryz.f83 = some f203 := by kernel_rfl
theorem c204 : cFunc tT k204 f204.mode Tryz.f84 = some f204 := by kernel_rfl
theorem c205 : cFunc tT k205 f205.mode Tryz.f90 = some f205 := by kernel_rfl
theorem c206 : cFunc tT k206 f206.mode Tryz.f91 = some f206 := by kernel_rfl
theorem c207 : cFunc tT k207 f207.mode Tryz.f92 = some f207 := by kernel_rfl
theorem c208 : cFunc tT k208 f208.mode Tryz.f93 = some f208 := by kernel_rfl
theorem c209 : cFunc tT k209 f209.mode Tryz.f94 = some f209 := by kernel_rfl
theorem c210 : cFunc tT k210 f210.mode Tryz.f95 = some f210 := by kernel_rfl
theorem c212 : cFunc tT k212 f212.mode Tryz.f107 = some f212 := by kernel_rfl
theorem c213 : cFunc tT k213 f213.mode Tryz.f111 = some f213 := by kernel_rfl
theorem c214 : cFunc tT k214 f214.mode Tryz.f112 = some f214 := by kernel_rfl
theorem c215 : cFunc tT k215 f215.mode Tryz.f124 = some f215 := by kernel_rfl
theorem c216 : cFunc tT k216 f216.mode Tryz.f125 = some f216 := by kernel_rfl
theorem c217 : cFunc tT k217 f217.mode Tryz.f133 = some f217 := by kernel_rfl
theorem c218 : cFunc tT k218 f218.mode Tryz.f134 = some f218 := by kernel_rfl
def fnT : Nat → Option SFunc
  | 13 => some f13
  | 17 => some f17
  | 18 => some f18
  | 19 => some f19
  | 20 => some f20
  | 25 => some f25
  | 26 => some f26
  | 30 => some f30
  | 31 => some f31
  | 32 => some f32
  | 33 => some f33
  | 38 => some f38
  | 39 => some f39
  | 40 => some f40
  | 41 => some f41
  | 44 => some f44
  | 45 => some f45
  | 46 => some f46
  | 47 => some f47
  | 48 => some f48
  | 49 => some f49
  | 50 => some f50
  | 51 => some f51
  | 52 => some f52
  | 53 => some f53
  | 56 => some f56
  | 57 => some f57
  | 58 => some f58
  | 59 => some f59
  | 60 => some f60
  | 61 => some f61
  | 62 => some f62
  | 63 => some f63
  | 64 => some f64
  | 65 => some f65
  | 66 => some f66
  | 67 => some f67
  | 68 => some f68
  | 69 => some f69
  | 70 => some f70
  | 71 => some f71
  | 72 => some f72
  | 73 => some f73
  | 74 => some f74
  | 75 => some f75
  | 76 => some f76
  | 77 => some f77
  | 78 => some f78
  | 79 => some f79
  | 80 => some f80
  | 82 => some f82
  | 83 => some f83
  | 84 => some f84
  | 85 => some f85
  | 86 => some f86
  | 87 => some f87
  | 88 => some f88
  | 89 => some f89
  | 90 => some f90
  | 91 => some f91
  | 92 => some f92
  | 94 => some f94
  | 95 => some f95
  | 96 => some f96
  | 97 => some f97
  | 99 => some f99
  | 100 => some f100
  | 101 => some f101
  | 102 => some f102
  | 103 => some f103
  | 104 => some f104
  | 105 => some f105
  | 106 => some f106
  | 107 => some f107
  | 108 => some f108
  | 109 => some f109
  | 110 => some f110
  | 111 => some f111
  | 112 => some f112
  | 113 => some f113
  | 114 => some f114
  | 115 => some f115
  | 116 => some f116
  | 149 => some f149
  | 150 => some f150
  | 151 => some f151
  | 152 => some f152
  | 153 => some f153
  | 154 => some f154
  | 155 => some f155
  | 156 => some f156
  | 157 => some f157
  | 158 => some f158
  | 159 => some f159
  | 160 => some f160
  | 161 => some f161
  | 162 => some f162
  | 163 => some f163
  | 164 => some f164
  | 165 => some f165
  | 166 => some f166
  | 167 => some f167
  | 168 => some f168
  | 169 => some f169
  | 170 => some f170
  | 171 => some f171
  | 172 => some f172
  | 173 => some f173
  | 174 => some f174
  | 175 => some f175
  | 176 => some f176
  | 177 => some f177
  | 178 => some f178
  | 179 => some f179
  | 180 => some f180
  | 181 => some f181
  | 182 => some f182
  | 183 => some f183
  | 184 => some f184
  | 185 => some f185
  | 186 => some f186
  | 187 => some f187
  | 188 => some f188
  | 189 => some f189
  | 190 => some f190
  | 191 => some f191
  | 192 => some f192
  | 193 => some f193
  | 194 => some f194
  | 195 => some f195
  | 196 => some f196
  | 197 => some f197
  | 198 => some f198
  | 199 => some f199
  | 200 => some f200
  | 201 => some f201
  | 203 => some f203
  | 204 => some f204
  | 205 => some f205
  | 206 => some f206
  | 207 => some f207
  | 208 => some f208
  | 209 => some f209
  | 210 => some f210
  | 212 => some f212
  | 213 => some f213
  | 214 => some f214
  | 215 => some f215
  | 216 => some f216
  | 217 => some f217
  | 218 => some f218
  | _ => none
end Go.Proofs.YtleaeoncofgkjaaGreatDoor
