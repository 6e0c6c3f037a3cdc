/- Part 11 of the proof: what functions of the program come to. Conditions: none; definitions and theorems that the statement's proof uses. -/
import Derived.Test.YtleaeoncofgkjaaDoorPart10
/- What a function that ranges asks of the one that it calls; ranging over atoms. Conditions: the functions' codes; theorems. -/
namespace Go.Pv
variable {E : Env} {B : Tb} {n : Nat}

/-- Only what lies at n0 or behind has turned. -/
structure OwnH (n0 : Nat) (h h' : AHeap) : Prop where
  old : ∀ j, j < n0 → h'.bl j = h.bl j
  len : h.blks.length ≤ h'.blks.length
  toks : h'.toks = h.toks
  ro : h'.ro = h.ro
  rot : h'.rot = h.rot
/-- What lies at n0 or behind has not turned. -/
structure KeptH (n0 : Nat) (h h' : AHeap) : Prop where
  mid : ∀ j, n0 ≤ j → j < h.blks.length → h'.bl j = h.bl j
  len : h.blks.length ≤ h'.blks.length
  ro : h'.ro = h.ro
  rot : h'.rot = h.rot
theorem KeptH.refl (n0 : Nat) (h : AHeap) : KeptH n0 h h := ⟨fun _ _ _ => rfl, Nat.le_refl _, rfl, rfl⟩
theorem KeptH.trans {n0 : Nat} {a b c : AHeap} (h : KeptH n0 a b) (k : KeptH n0 b c) : KeptH n0 a c :=
  ⟨fun j h1 h2 => (k.mid j h1 (Nat.lt_of_lt_of_le h2 h.len)).trans (h.mid j h1 h2), Nat.le_trans h.len k.len, k.ro.trans h.ro, k.rot.trans h.rot⟩
theorem KeptH.push (n0 : Nat) (h : AHeap) (b : ABlk) : KeptH n0 h (h.push b) := by
  refine ⟨fun j _ hj => ?_, by simp, rfl, rfl⟩
  rw [bl_push, if_neg (by omega)]
theorem OwnH.refl (n0 : Nat) (h : AHeap) : OwnH n0 h h := ⟨fun _ _ => rfl, Nat.le_refl _, rfl, rfl, rfl⟩
theorem OwnH.trans {n0 : Nat} {a b c : AHeap} (h : OwnH n0 a b) (k : OwnH n0 b c) : OwnH n0 a c :=
  ⟨fun j h1 => (k.old j h1).trans (h.old j h1), Nat.le_trans h.len k.len, k.toks.trans h.toks, k.ro.trans h.ro, k.rot.trans h.rot⟩
theorem OwnH.push {n0 : Nat} {h : AHeap} (hn : n0 ≤ h.blks.length) (b : ABlk) : OwnH n0 h (h.push b) := by
  refine ⟨fun j hj => ?_, by simp, rfl, rfl, rfl⟩
  rw [bl_push, if_neg (by omega)]
theorem OwnH.set {n0 : Nat} {h : AHeap} {l : Nat} (hn : n0 ≤ l) (b : ABlk) : OwnH n0 h (h.setBlk l b) := by
  refine ⟨fun j hj => ?_, by simp, rfl, rfl, rfl⟩
  rw [bl_set, if_neg (by omega)]
theorem OwnH.weak {n0 n1 : Nat} {h h' : AHeap} (hn : n0 ≤ n1) (o : OwnH n1 h h') : OwnH n0 h h' := ⟨fun j hj => o.old j (by omega), o.len, o.toks, o.ro, o.rot⟩

/-- What a function that is called with the things of a list, one by one, is asked for. -/
structure YieldsL (E : Env) (Y : AV) (n0 : Nat) {β : Type} (args : β → List AV) (Good : List β → AHeap → Prop) : Prop where
  len : ∀ l h, Good l h → n0 ≤ h.blks.length
  ro : ∀ l h, Good l h → h.ro ≤ n0
  call : ∀ x l h, Good (x :: l) h → ∃ h', EvCall E Y (args x) h = some (.ret (.bool true), h') ∧ Good l h' ∧ KeptH n0 h h'
  keep : ∀ l h h', Good l h → OwnH n0 h h' → Good l h'

def atomArgs (o : Own) (x : AtomR × Nat) : List AV := [.int .i64 x.2, .agg (acs o x.1)]
theorem each_loop (ok : B.Ok) {Y : AV} {n0 : Nat} {Good : List (AtomR × Nat) → AHeap → Prop} (hy : YieldsL E Y n0 (atomArgs B.ot) Good) : ∀ (m i : Nat), i + m = B.L.length → ∀ (h : AHeap), Good ((B.L.drop i).zipIdx i) h →
    ∃ h', (∀ F, mask k54_0 F = s54_0 Y B.A (.int .i64 B.L.length) (.int .i64 i) → EvCode E (.loop k54_0 l54_0) F h = some (.exit 0, x54_0, h')) ∧ (Good [] h' ∧ KeptH n0 h h')
  | 0, i, hi, h, hg => by
    have hi' : i = B.L.length := by omega
    subst hi'
    refine ⟨h, fun F hF => ?_, by simpa using hg, KeptH.refl _ _⟩
    rw [EvCode_loop, hF]
    simp [l54_0, s54_0, x54_0, Tb.A]
  | m + 1, i, hi, h, hg => by
    have hlt : i < B.L.length := by omega
    have hpl := ok.len
    have hn := hy.len _ _ hg
    have hro := hy.ro _ _ hg
    rw [List.drop_eq_getElem_cons hlt, List.zipIdx_cons] at hg
    obtain ⟨h1, q1, q2, q3⟩ := hy.call _ _ _ (hy.keep _ _ _ hg (OwnH.push hn (.cells (acs B.ot B.L[i]))))
    obtain ⟨h2, p1, p2, p3⟩ := each_loop ok hy m (i + 1) (by omega) h1 q2
    refine ⟨h2, fun F hF => ?_, p2, (KeptH.push n0 h _).trans (q3.trans p3)⟩
    simp only [atomArgs] at q1
    rw [EvCode_loop, hF]
    generalize EvCode E (.loop k54_0 l54_0) = lp at p1 ⊢
    simp [l54_0, s54_0, Tb.A, hlt, fm_len (acs_len B.ot), lt_at hlt, le_at hlt, fm_el (acs_len B.ot) hlt, acs_len, acs_all, acs_take, push_set, setCells_full, (by omega : h.ro ≤ h.blks.length), q1, w64 (n := (i : Int) + 1)]
    refine p1 _ (by simp [s54_0, Tb.A])
theorem each_range (H : Has 54 E) (ok : B.Ok) {Y P : AV} {rb n0 : Nat} {h : AHeap} {Good : List (AtomR × Nat) → AHeap → Prop} (hy : YieldsL E Y n0 (atomArgs B.ot) Good) (hb : h.bl rb = some (.cells [B.A, P])) (h0 : Good (B.L.zipIdx 0) h) :
    ∃ h', EvCall E (.fn (.func 54) [] [.ref rb 0]) [Y] h = some (.ret (.tuple []), h') ∧ Good [] h' ∧ KeptH n0 h h' := by
  obtain ⟨h', q1, q2⟩ := each_loop ok hy B.L.length 0 (by omega) h (by simpa using h0)
  refine ⟨h', ?_, q2⟩
  rw [EvCall_open H.c54 rfl, EvFn_eq]
  simp only [Tb.A] at hb
  simp [f54, start, hb]
  rw [q1 _ (by simp [s54_0, Tb.A])]
  simp [x54_0]
theorem each_eq (H : Has 36 E) {A P : AV} {h : AHeap} : EvCall E (.fn (.func 36) [] []) [.agg [A, P]] h = some (.ret (.fn (.func 54) [] [.ref h.blks.length 0]), h.push (.cells [A, P])) := by
  rw [EvCall_open H.c36 rfl, EvFn_eq]
  simp [f36, start]
theorem all_eq (H : Has 23 E) {x : Int} {h : AHeap} : EvCall E (.fn (.func 23) [] []) [.int .i64 x] h = some (.ret (.fn (.func 35) [] [.ref h.blks.length 0]), h.push (.cells [.int .i64 x])) := by
  rw [EvCall_open H.c23 rfl, EvFn_eq]
  simp [f23, start]
end Go.Pv
