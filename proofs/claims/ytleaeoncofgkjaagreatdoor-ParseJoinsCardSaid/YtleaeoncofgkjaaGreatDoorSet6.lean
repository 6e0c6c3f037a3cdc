/- A part of the proof: functions of the program in the evaluator's code, and what they come to. Conditions: none; definitions and theorems that the statement's proof uses. -/
import Derived.Test.YtleaeoncofgkjaaGreatDoorSet5
import Derived.KernelRfl
/- Lemmas for working out functions in the evaluator: slices of equal pieces, loops, numbers. Conditions: none; lemmas. -/
namespace Go.Pv
variable {E : Env}
theorem w64 {n : Int} (h1 : -9223372036854775808 ≤ n := by omega) (h2 : n ≤ 9223372036854775807 := by omega) : IntKind.i64.wrap n = n := wrap_i64 h1 h2
theorem fm_len {α : Type} {f : α → List AV} {n : Nat} (hf : ∀ a, (f a).length = n) : ∀ (l : List α), (l.flatMap f).length = l.length * n
  | [] => by simp
  | x :: l => by
    rw [List.flatMap_cons, List.length_append, fm_len hf l, hf x, List.length_cons, Nat.add_mul]
    omega
theorem fm_drop {α : Type} {f : α → List AV} {n : Nat} (hf : ∀ a, (f a).length = n) : ∀ (l : List α) (i : Nat), (l.flatMap f).drop (i * n) = (l.drop i).flatMap f
  | l, 0 => by simp
  | [], i + 1 => by simp
  | x :: l, i + 1 => by
    rw [List.flatMap_cons, Nat.add_mul, Nat.one_mul, Nat.add_comm, ← List.drop_drop, ← hf x, List.drop_left, hf x, fm_drop hf l i]
    rfl
theorem fm_at {α : Type} {f : α → List AV} {n : Nat} (hf : ∀ a, (f a).length = n) {l : List α} {i off m : Nat} (hi : i < l.length) (hm : off + m ≤ n) : ((l.flatMap f).drop (i * n + off)).take m = ((f l[i]).drop off).take m := by
  rw [← List.drop_drop, fm_drop hf, List.drop_eq_getElem_cons hi, List.flatMap_cons, List.drop_append_of_le_length (by rw [hf]; omega), List.take_append_of_le_length (by rw [List.length_drop, hf]; omega)]
theorem fm_at0 {α : Type} {f : α → List AV} {n : Nat} (hf : ∀ a, (f a).length = n) {l : List α} {i m : Nat} (hi : i < l.length) (hm : m ≤ n) : ((l.flatMap f).drop (i * n)).take m = (f l[i]).take m := by
  have := fm_at hf (off := 0) hi (by simpa using hm)
  simpa using this
theorem fm_el {α : Type} {f : α → List AV} {n : Nat} (hf : ∀ a, (f a).length = n) {l : List α} {i : Nat} (hi : i < l.length) : ((l.flatMap f).drop (i * n)).take n = f l[i] := by
  rw [fm_at0 hf hi (Nat.le_refl _), List.take_of_length_le (by rw [hf]; exact Nat.le_refl _)]
theorem fm_take {α : Type} {f : α → List AV} {n : Nat} (hf : ∀ a, (f a).length = n) (l : List α) (i : Nat) : (l.flatMap f).take (i * n) = (l.take i).flatMap f := by
  induction l generalizing i with
  | nil => simp
  | cons x l ih =>
    cases i with
    | zero => simp
    | succ i =>
      rw [List.flatMap_cons, Nat.add_mul, Nat.one_mul, Nat.add_comm, List.take_add, List.take_left' (hf x), List.drop_left' (hf x), ih]
      rfl
theorem le_off {n len k sz off : Nat} (h : k < len) (h2 : off + n ≤ sz) : n ≤ len * sz - (k * sz + off) := by
  have : (k + 1) * sz ≤ len * sz := Nat.mul_le_mul_right sz h
  rw [Nat.add_mul] at this
  omega
theorem le_at {n len k sz : Nat} (h : k < len) (h2 : n ≤ sz) : n ≤ len * sz - k * sz := by
  have := le_off (off := 0) h (by omega : 0 + n ≤ sz)
  simpa using this
theorem lt_off {len k sz off : Nat} (h : k < len) (h2 : off < sz) : off < len * sz - k * sz := by
  have : (k + 1) * sz ≤ len * sz := Nat.mul_le_mul_right sz h
  rw [Nat.add_mul] at this
  omega
theorem lt_at {len k sz : Nat} (h : k < len) (h2 : 0 < sz) : k * sz < len * sz := Nat.mul_lt_mul_of_pos_right h h2
theorem map_at {α : Type} {f : α → AV} {l : List α} {i : Nat} (hi : i < l.length) : ((l.map f).drop i).take 1 = [f l[i]] := by
  rw [List.drop_eq_getElem_cons (by simpa using hi)]
  simp
@[simp] theorem ic_int (k : IntKind) (n : Int) : (AV.int k n).isCell = true := id rfl
@[simp] theorem ic_str (s : List UInt8) : (AV.str s).isCell = true := id rfl
@[simp] theorem ic_bool (b : Bool) : (AV.bool b).isCell = true := id rfl
@[simp] theorem ic_fn (f : AFn) (a b : List AV) : (AV.fn f a b).isCell = true := id rfl
@[simp] theorem ic_ref (b o : Nat) : (AV.ref b o).isCell = true := id rfl
@[simp] theorem ic_nilp : AV.nilp.isCell = true := id rfl
@[simp] theorem ic_nils : AV.nils.isCell = true := id rfl
@[simp] theorem ic_vs (o : Own) (n : Nat) (l : List AV) : (AV.vs o n l).isCell = true := id rfl
@[simp] theorem ic_pin (l : List AV) : (AV.pin l).isCell = true := id rfl
@[simp] theorem ic_map (b : Nat) : (AV.map b).isCell = true := id rfl
@[simp] theorem ic_iface (t : Nat) (v : AV) : (AV.iface t v).isCell = true := id rfl
@[simp] theorem ic_niliface : AV.niliface.isCell = true := id rfl
@[simp] theorem ic_nilfn : AV.nilfn.isCell = true := id rfl
theorem take_map_len {α β : Type} (f : α → β) (l : List α) : (l.map f).take l.length = l.map f := List.take_of_length_le (by simp)
theorem via {α β : Type} {x r : β} {f : α → β} (hg : x = r) (h : ∃ a, x = f a) : ∃ a, r = f a := hg ▸ h
theorem via2 {α β : Type} {x r : β} {f : α → β} {P : α → Prop} (hg : x = r) (h : ∃ a, x = f a ∧ P a) : ∃ a, r = f a ∧ P a := hg ▸ h
theorem push_set (h : AHeap) (x y : ABlk) : (h.push x).setBlk h.blks.length y = h.push y := by
  simp [AHeap.push, AHeap.setBlk]
theorem push_setk {h : AHeap} {x y : ABlk} {k : Nat} (hk : k = h.blks.length) : (h.push x).setBlk k y = h.push y := by
  subst hk
  exact push_set h x y
theorem setCells_app : ∀ (cs l pre : List AV), cs.length = l.length → setCells pre.length cs (pre ++ l) = pre ++ cs
  | [], l, pre, h => by
    have : l = [] := List.eq_nil_of_length_eq_zero (by simpa using h.symm)
    simp [setCells, this]
  | c :: cs, x :: l, pre, h => by
    simp only [setCells]
    have := setCells_app cs l (pre ++ [c]) (by simpa using h)
    simp only [List.length_append, List.length_singleton, List.append_assoc, List.singleton_append] at this
    rw [List.set_append_right _ _ (Nat.le_refl _)]
    simpa using this
  | c :: cs, [], pre, h => by simp at h
theorem setCells_full {cs l : List AV} (h : cs.length = l.length) : setCells 0 cs l = cs := by
  have := setCells_app cs l [] h
  simpa using this
theorem shutL_append {n t : Nat} : ∀ {a b a' b' : List AV}, shutL n t a = some a' → shutL n t b = some b' → shutL n t (a ++ b) = some (a' ++ b')
  | [], b, a', b', h1, h2 => by simp only [shutL] at h1; cases h1; simpa using h2
  | v :: a, b, a', b', h1, h2 => by
    simp only [shutL] at h1
    split at h1
    · rename_i x xs q1 q2
      cases h1
      simp only [List.cons_append, shutL, q1, shutL_append q2 h2]
    · cases h1
theorem shutL_flat {n t : Nat} {α : Type} {f : α → List AV} (hf : ∀ a, shutL n t (f a) = some (f a)) : ∀ (l : List α), shutL n t (l.flatMap f) = some (l.flatMap f)
  | [] => by simp [shutL]
  | x :: l => by
    rw [List.flatMap_cons]
    exact shutL_append (hf x) (shutL_flat hf l)
theorem shutL_map {n t : Nat} {α : Type} {f : α → AV} (hf : ∀ a, shut n t (f a) = some (f a)) : ∀ (l : List α), shutL n t (l.map f) = some (l.map f)
  | [] => by simp [shutL]
  | x :: l => by simp only [List.map_cons, shutL, hf x, shutL_map hf l]
theorem shut_str {n t : Nat} (s : List UInt8) : shut n t (.str s) = some (.str s) := by simp only [shut]
theorem all_flat {α : Type} {f : α → List AV} (hf : ∀ a, (f a).all AV.isCell = true) (l : List α) : (l.flatMap f).all AV.isCell = true := by
  simp only [List.all_flatMap, List.all_eq_true]
  intro a _
  exact List.all_eq_true.1 (hf a)
theorem all_map {α : Type} {f : α → AV} (hf : ∀ a, (f a).isCell = true) (l : List α) : (l.map f).all AV.isCell = true := by
  simp [List.all_map, Function.comp_def, hf]
def idxV {α : Type} (p : α → Bool) (L : List α) : Int := if L.any p then (L.findIdx p : Nat) else -1
theorem idxV_cons {α : Type} (p : α → Bool) (a : α) (L : List α) : idxV p (a :: L) = if p a then 0 else if idxV p L = -1 then -1 else idxV p L + 1 := by
  unfold idxV
  cases ha : p a
  · cases hL : L.any p
    · simp [ha, hL]
    · simp only [List.any_cons, ha, hL, Bool.or_true, if_true, List.findIdx_cons, cond_false, Bool.false_eq_true, if_false]
      rw [if_neg (by omega)]
      omega
  · simp [ha, List.findIdx_cons]
theorem idxV_range {α : Type} (p : α → Bool) (L : List α) : idxV p L = -1 ∨ ∃ i : Nat, i < L.length ∧ idxV p L = i := by
  unfold idxV
  split
  · rename_i h
    exact .inr ⟨_, List.findIdx_lt_length.2 (by simpa using h), rfl⟩
  · exact .inl rfl
def extE (E : Env) (tab : List (Nat × SFunc)) (gt : List (Nat × List AV)) (xt : List (Nat × (List AV → Option AV))) : Env :=
  { fn := fun j => match tab.lookup j with | some f => some f | none => E.fn j, glob := fun g => match gt.lookup g with | some c => some c | none => E.glob g,
    ext := fun j => match tab.lookup j with | some _ => none | none => match xt.lookup j with | some g => some g | none => E.ext j }
theorem ext_eq {E : Env} {tab : List (Nat × SFunc)} {gt : List (Nat × List AV)} {xt : List (Nat × (List AV → Option AV))} (h : ∀ p ∈ tab, E.code p.1 = some p.2) (hg : ∀ p ∈ gt, E.glob p.1 = some p.2) (hx : ∀ p ∈ xt, E.ext p.1 = some p.2) : extE E tab gt xt = E := by
  have lk : ∀ {β : Type} (l : List (Nat × β)) (j : Nat) (b : β), l.lookup j = some b → (j, b) ∈ l := by
    intro β l
    induction l with
    | nil => intro j b hb; simp at hb
    | cons p l ih =>
      intro j b hb
      simp only [List.lookup] at hb
      split at hb
      · rename_i hj
        have := eq_of_beq hj
        cases hb
        subst this
        exact List.mem_cons_self
      · exact List.mem_cons_of_mem _ (ih j b hb)
  unfold extE
  congr 1
  · funext j
    split
    · rename_i f hf
      exact (code_spec (h _ (lk _ _ _ hf))).2.symm
    · rfl
  · funext g
    split
    · rename_i c hc
      exact (hg _ (lk _ _ _ hc)).symm
    · rfl
  · funext j
    split
    · rename_i f hf
      exact (code_spec (h _ (lk _ _ _ hf))).1.symm
    · split
      · rename_i g hg
        exact (hx _ (lk _ _ _ hg)).symm
      · rfl
theorem bytes_of {β : Type} {f g : Nat → β} (h : (List.range 256).map f = (List.range 256).map g) (c : UInt8) : f c.toNat = g c.toNat := by
  have := (List.map_inj_left.1 h) c.toNat (by simp; exact c.toNat_lt)
  exact this
end Go.Pv
/- What the functions of the package style come to, and the reference's. Conditions: the functions' codes; theorems. -/
namespace Go.Pv
variable {E : Env}
structure Sty where
  fold : Bool
  mul : UInt8
  div : UInt8
  pow : UInt8
  opn : UInt8
  cls : UInt8
  deriving DecidableEq
def sty0 : Sty := ⟨false, 0, 0, 0, 0, 0⟩
def styL : List Sty := [⟨false, 46, 47, 0, 123, 125⟩, ⟨true, 46, 47, 0, 123, 125⟩, ⟨false, 42, 47, 94, 60, 62⟩, ⟨true, 46, 47, 0, 0, 0⟩, ⟨false, 46, 47, 94, 0, 0⟩]
def isN (x : Int) : Bool := decide (1 ≤ x) && decide (x ≤ 5)
def sty (x : Int) : Sty := if isN x then styL.getD (x - 1).toNat sty0 else sty0
abbrev b8 (c : UInt8) : AV := .int .u8 (c.toNat : Int)
def Sty.cs (s : Sty) : List AV := [.bool s.fold, b8 s.mul, b8 s.div, b8 s.pow, b8 s.opn, b8 s.cls]
theorem isN_cases {x : Int} (h : isN x = true) : x = 1 ∨ x = 2 ∨ x = 3 ∨ x = 4 ∨ x = 5 := by
  simp only [isN, Bool.and_eq_true, decide_eq_true_eq] at h
  omega
theorem of_eq (H : Has 44 E) (x : Int) : EvClosed E (.fn (.func 44) [] []) [.int .i64 x] = some (.tuple [.agg (sty x).cs, .bool (isN x)]) := by
  rw [EvClosed_eq H.c44 rfl (vs := [.int .i64 x]) (by simp), EvFn_eq]
  have hg := H.v1
  simp only [globAll, g1] at hg
  cases hx : isN x
  · by_cases h1 : x < 1
    · simp [f44, start, h1, sty, hx, Sty.cs, sty0]
    · have h2 : 5 < x := by simp [isN] at hx; omega
      simp [f44, start, h1, h2, sty, hx, Sty.cs, sty0]
  · rcases isN_cases hx with rfl | rfl | rfl | rfl | rfl <;> simp [f44, start, hg, sty, hx, Sty.cs, styL, w64]
def isLet (m : Nat) : Bool := (decide (97 ≤ m) && decide (m ≤ 122)) || (decide (65 ≤ m) && decide (m ≤ 90)) || m == 37 || m == 39 || m == 95 || m == 91 || m == 93
def isDig (m : Nat) : Bool := decide (48 ≤ m) && decide (m ≤ 57)
def kindS (s : Sty) (m : Nat) : Int :=
  if m == 0 then 0 else if isLet m then 1 else if isDig m then 2 else if m == 43 || m == 45 then 3 else if m == 40 then 7 else if m == 41 then 8 else
  if m == s.mul.toNat then 4 else if m == s.div.toNat then 5 else if m == s.pow.toNat then 6 else if m == s.opn.toNat then 9 else if m == s.cls.toNat then 10 else 0
def kind (x : Int) (c : UInt8) : Int := if isN x then kindS (sty x) c.toNat else 0
theorem idx_marks_all : ((List.range 256).all fun (m : Nat) => decide (0 ≤ idxByte [37, 39, 95, 91, 93] (m : Int)) == (m == 37 || m == 39 || m == 95 || m == 91 || m == 93)) = true := by kernel_rfl
theorem idx_marks (c : UInt8) : decide (0 ≤ idxByte [37, 39, 95, 91, 93] (c.toNat : Int)) = (c.toNat == 37 || c.toNat == 39 || c.toNat == 95 || c.toNat == 91 || c.toNat == 93) := by
  have := List.all_eq_true.1 idx_marks_all c.toNat (by simp; exact c.toNat_lt)
  simpa using this
theorem kindS_int (s : Sty) (m : Nat) : kindS s m = if (m : Int) == 0 then 0 else if (decide ((97 : Int) ≤ m) && decide ((m : Int) ≤ 122)) || (decide ((65 : Int) ≤ m) && decide ((m : Int) ≤ 90)) || (m == 37 || m == 39 || m == 95 || m == 91 || m == 93) then 1 else if decide ((48 : Int) ≤ m) && decide ((m : Int) ≤ 57) then 2 else
          if (m : Int) == 43 then 3 else if (m : Int) == 45 then 3 else if (m : Int) == 40 then 7 else if (m : Int) == 41 then 8 else if (m : Int) == s.mul.toNat then 4 else if (m : Int) == s.div.toNat then 5 else if (m : Int) == s.pow.toNat then 6 else
          if (m : Int) == s.opn.toNat then 9 else if (m : Int) == s.cls.toNat then 10 else 0 := by
  have e : ∀ k : Nat, ((m : Int) == (k : Int)) = (m == k) := fun k => by
    rw [Bool.eq_iff_iff]
    simp only [beq_iff_eq]
    omega
  have l : ∀ k : Nat, decide ((k : Int) ≤ (m : Int)) = decide (k ≤ m) := fun k => decide_eq_decide.2 (by omega)
  have g : ∀ k : Nat, decide ((m : Int) ≤ (k : Int)) = decide (m ≤ k) := fun k => decide_eq_decide.2 (by omega)
  have e0 : ((m : Int) == 0) = (m == 0) := e 0
  have e43 : ((m : Int) == 43) = (m == 43) := e 43
  have e45 : ((m : Int) == 45) = (m == 45) := e 45
  have e40 : ((m : Int) == 40) = (m == 40) := e 40
  have e41 : ((m : Int) == 41) = (m == 41) := e 41
  have l97 : decide ((97 : Int) ≤ (m : Int)) = decide (97 ≤ m) := l 97
  have l65 : decide ((65 : Int) ≤ (m : Int)) = decide (65 ≤ m) := l 65
  have l48 : decide ((48 : Int) ≤ (m : Int)) = decide (48 ≤ m) := l 48
  have g122 : decide ((m : Int) ≤ 122) = decide (m ≤ 122) := g 122
  have g90 : decide ((m : Int) ≤ 90) = decide (m ≤ 90) := g 90
  have g57 : decide ((m : Int) ≤ 57) = decide (m ≤ 57) := g 57
  simp only [kindS, isLet, isDig, e0, e43, e45, e40, e41, l97, l65, l48, g122, g90, g57, e, Bool.or_assoc]
  cases h43 : (m == 43) <;> simp
set_option maxHeartbeats 4000000 in
theorem kind_eq (H : Has 62 E) (x : Int) (c : UInt8) : EvClosed E (.fn (.func 62) [] []) [.int .i64 x, b8 c] = some (.int .i64 (kind x c)) := by
  rw [EvClosed_eq H.c62 rfl (vs := [.int .i64 x, b8 c]) (by simp), EvFn_eq]
  have ho := of_eq (H.to 44) x
  simp only [Sty.cs] at ho
  cases hx : isN x
  · rw [hx] at ho
    simp [f62, start, EvCall_closed H.c44 rfl, ho, kind, hx]
  · rw [hx] at ho
    have hib : EvClosed E (.fn (.func 66) [] []) [.str [37, 39, 95, 91, 93], b8 c] = some (.int .i64 (idxByte [37, 39, 95, 91, 93] c.toNat)) := by
      rw [EvClosed_eq H.c66 rfl (vs := [.str [37, 39, 95, 91, 93], b8 c]) (by simp), EvFn_eq]
      simp [f66, start, EvCall_ext H.x81, EvClosed_ext H.x81, extIB, (by have := c.toNat_lt; omega : (c.toNat : Int) ≤ 255)]
    simp only [kind, hx, if_true, kindS_int]
    rw [← idx_marks c]
    have main : ∀ (a1 a2 b1 b2 d1 d2 mk : Bool), decide ((97 : Int) ≤ c.toNat) = a1 → decide ((c.toNat : Int) ≤ 122) = a2 → decide ((65 : Int) ≤ c.toNat) = b1 → decide ((c.toNat : Int) ≤ 90) = b2 → decide ((48 : Int) ≤ c.toNat) = d1 → decide ((c.toNat : Int) ≤ 57) = d2 →
        decide (0 ≤ idxByte [37, 39, 95, 91, 93] c.toNat) = mk → ((c.toNat : Int) == 0) = false →
        closedEnd (endFn f62 (EvDef E) (EvCode E f62.body (start f62 [.int .i64 x, b8 c]) heap0)) = some (.int .i64 (if (a1 && a2) || (b1 && b2) || mk then 1 else if d1 && d2 then 2 else
          if (c.toNat : Int) == 43 then 3 else if (c.toNat : Int) == 45 then 3 else if (c.toNat : Int) == 40 then 7 else if (c.toNat : Int) == 41 then 8 else if (c.toNat : Int) == (sty x).mul.toNat then 4 else if (c.toNat : Int) == (sty x).div.toNat then 5 else if (c.toNat : Int) == (sty x).pow.toNat then 6 else
          if (c.toNat : Int) == (sty x).opn.toNat then 9 else if (c.toNat : Int) == (sty x).cls.toNat then 10 else 0)) := by
      intro a1 a2 b1 b2 d1 d2 mk h1 h2 h3 h4 h5 h6 h7 h8
      by_cases hL : ((a1 && a2) || (b1 && b2) || mk) = true
      · rw [if_pos hL]
        cases a1 <;> cases b1 <;> cases a2 <;> cases b2 <;> cases mk <;> simp at hL <;> simp [f62, start, EvCall_closed H.c44 rfl, EvCall_closed H.c66 rfl, ho, hib, h1, h2, h3, h4, h7, h8]
      · rw [if_neg hL]
        simp only [Bool.or_eq_true, Bool.and_eq_true, not_or, not_and, Bool.not_eq_true] at hL
        obtain ⟨⟨k1, k2⟩, k3⟩ := hL
        subst k3
        by_cases hD : (d1 && d2) = true
        · rw [if_pos hD]
          simp only [Bool.and_eq_true] at hD
          obtain ⟨rfl, rfl⟩ := hD
          have q : (c.toNat : Int) ≤ 57 := of_decide_eq_true h6
          have e1 : a1 = false := by rw [← h1]; exact decide_eq_false (by omega)
          have e2 : b1 = false := by rw [← h3]; exact decide_eq_false (by omega)
          subst e1
          subst e2
          simp [f62, start, EvCall_closed H.c44 rfl, EvCall_closed H.c66 rfl, ho, hib, h1, h3, h5, h6, h7, h8]
        · rw [if_neg hD]
          have hr : (c.toNat < 48 ∧ d1 = false ∧ a1 = false ∧ b1 = false) ∨ (d1 = true ∧ d2 = false ∧ a1 = false ∧ b1 = false) ∨ (d1 = true ∧ d2 = false ∧ a1 = false ∧ b1 = true ∧ b2 = false) ∨ (d1 = true ∧ d2 = false ∧ a1 = true ∧ a2 = false ∧ b1 = true ∧ b2 = false) := by
            cases a1 <;> cases a2 <;> cases b1 <;> cases b2 <;> cases d1 <;> cases d2 <;> simp at h1 h2 h3 h4 h5 h6 k1 k2 hD ⊢ <;> omega
          rcases hr with ⟨_, rfl, rfl, rfl⟩ | ⟨rfl, rfl, rfl, rfl⟩ | ⟨rfl, rfl, rfl, rfl, rfl⟩ | ⟨rfl, rfl, rfl, rfl, rfl, rfl⟩
          · cases e1 : ((c.toNat : Int) == 43) <;> cases e2 : ((c.toNat : Int) == 45) <;> simp [f62, start, EvCall_closed H.c44 rfl, EvCall_closed H.c66 rfl, ho, hib, e1, e2, h1, h3, h5, h7, h8] <;> (repeat' split) <;> rfl
          · cases e1 : ((c.toNat : Int) == 43) <;> cases e2 : ((c.toNat : Int) == 45) <;> simp [f62, start, EvCall_closed H.c44 rfl, EvCall_closed H.c66 rfl, ho, hib, e1, e2, h1, h3, h5, h6, h7, h8] <;> (repeat' split) <;> rfl
          · cases e1 : ((c.toNat : Int) == 43) <;> cases e2 : ((c.toNat : Int) == 45) <;> simp [f62, start, EvCall_closed H.c44 rfl, EvCall_closed H.c66 rfl, ho, hib, e1, e2, h1, h3, h4, h5, h6, h7, h8] <;> (repeat' split) <;> rfl
          · cases e1 : ((c.toNat : Int) == 43) <;> cases e2 : ((c.toNat : Int) == 45) <;> simp [f62, start, EvCall_closed H.c44 rfl, EvCall_closed H.c66 rfl, ho, hib, e1, e2, h1, h2, h3, h4, h5, h6, h7, h8] <;> (repeat' split) <;> rfl
    by_cases h0 : ((c.toNat : Int) == 0) = true
    · rw [if_pos h0]
      simp [f62, start, EvCall_closed H.c44 rfl, ho, h0]
    · rw [if_neg h0]
      exact main _ _ _ _ _ _ _ rfl rfl rfl rfl rfl rfl rfl (by simpa using h0)
end Go.Pv
/- What the reference's functions of chapter 7 come to: of, kind. Conditions: the functions' codes; theorems. -/
namespace Go.Pv
variable {E : Env}
theorem refOf_eq (H : Has 19 E) (x : Int) : EvClosed E (.fn (.func 19) [] []) [.int .i64 x] = some (.agg (sty x).cs) := by
  rw [EvClosed_eq H.c19 rfl (vs := [.int .i64 x]) (by simp), EvFn_eq]
  cases hx : isN x
  · have h1 : (x == 1) = false := by simp [isN] at hx ⊢; omega
    have h2 : (x == 2) = false := by simp [isN] at hx ⊢; omega
    have h3 : (x == 3) = false := by simp [isN] at hx ⊢; omega
    have h4 : (x == 4) = false := by simp [isN] at hx ⊢; omega
    have h5 : (x == 5) = false := by simp [isN] at hx ⊢; omega
    simp [f19, start, h1, h2, h3, h4, h5, sty, hx, Sty.cs, sty0]
  · rcases isN_cases hx with rfl | rfl | rfl | rfl | rfl <;> simp [f19, start, sty, hx, Sty.cs, styL]
theorem sty_mul (x : Int) : (((sty x).mul.toNat : Int) == 0) = !isN x := by
  cases hx : isN x
  · simp [sty, hx, sty0]
  · rcases isN_cases hx with rfl | rfl | rfl | rfl | rfl <;> simp [sty, hx, styL]
theorem u8_eq {c : UInt8} {k : Nat} (h : c.toNat = k) (hk : k < 256 := by omega) : c = UInt8.ofNat k := by
  apply UInt8.toNat.inj
  rw [h, UInt8.toNat_ofNat']
  omega
set_option maxHeartbeats 4000000 in
theorem refKind_eq (H : Has 193 E) (x : Int) (c : UInt8) : EvClosed E (.fn (.func 193) [] []) [.int .i64 x, b8 c] = some (.int .i64 (kind x c)) := by
  rw [EvClosed_eq H.c193 rfl (vs := [.int .i64 x, b8 c]) (by simp), EvFn_eq]
  have ho := refOf_eq (H.to 19) x
  have hmul := sty_mul x
  simp only [Sty.cs] at ho
  cases hx : isN x
  · rw [hx] at hmul
    simp only [Bool.not_false] at hmul
    simp [f193, start, EvCall_closed H.c19 rfl, ho, kind, hx, hmul]
  · rw [hx] at hmul
    simp only [Bool.not_true] at hmul
    simp only [kind, hx, if_true, kindS_int]
    by_cases h0 : ((c.toNat : Int) == 0) = true
    · rw [if_pos h0]
      simp [f193, start, EvCall_closed H.c19 rfl, ho, h0, hmul]
    · rw [if_neg h0]
      have h0' : ((c.toNat : Int) == 0) = false := by simpa using h0
      have F : ∀ k : Int, (c.toNat : Int) ≠ k → ((c.toNat : Int) == k) = false := fun k hk => by simpa using hk
      have B : ∀ k : Nat, c.toNat ≠ k → (c.toNat == k) = false := fun k hk => by simpa using hk
      have D : ∀ {p : Prop} [Decidable p], p → decide p = true := fun hp => decide_eq_true hp
      have N : ∀ {p : Prop} [Decidable p], ¬ p → decide p = false := fun hp => decide_eq_false hp
      have hc := c.toNat_lt
      have hcl : (97 ≤ c.toNat ∧ c.toNat ≤ 122) ∨ (65 ≤ c.toNat ∧ c.toNat ≤ 90) ∨ c.toNat = 37 ∨ c.toNat = 39 ∨ c.toNat = 95 ∨ c.toNat = 91 ∨ c.toNat = 93 ∨ (48 ≤ c.toNat ∧ c.toNat ≤ 57) ∨ (c.toNat < 48 ∧ c.toNat ≠ 37 ∧ c.toNat ≠ 39) ∨ (58 ≤ c.toNat ∧ c.toNat ≤ 64) ∨ (91 ≤ c.toNat ∧ c.toNat ≤ 96 ∧ c.toNat ≠ 91 ∧ c.toNat ≠ 93 ∧ c.toNat ≠ 95) ∨ 123 ≤ c.toNat := by omega
      rcases hcl with h | h | h | h | h | h | h | h | h | h | h | h
      · simp [f193, start, EvCall_closed H.c19 rfl, ho, h0', hmul, D (p := (97 : Int) ≤ c.toNat) (by omega), D (p := (c.toNat : Int) ≤ 122) (by omega)]
      · simp [f193, start, EvCall_closed H.c19 rfl, ho, h0', hmul, N (p := (97 : Int) ≤ c.toNat) (by omega), D (p := (65 : Int) ≤ c.toNat) (by omega), D (p := (c.toNat : Int) ≤ 90) (by omega)]
      · simp [f193, start, EvCall_closed H.c19 rfl, ho, hmul, h]
      · simp [f193, start, EvCall_closed H.c19 rfl, ho, hmul, h]
      · simp [f193, start, EvCall_closed H.c19 rfl, ho, hmul, h]
      · simp [f193, start, EvCall_closed H.c19 rfl, ho, hmul, h]
      · simp [f193, start, EvCall_closed H.c19 rfl, ho, hmul, h]
      · simp [f193, start, EvCall_closed H.c19 rfl, ho, h0', hmul, N (p := (97 : Int) ≤ c.toNat) (by omega), N (p := (65 : Int) ≤ c.toNat) (by omega), F 37 (by omega), F 39 (by omega), F 95 (by omega), F 91 (by omega), F 93 (by omega), D (p := (48 : Int) ≤ c.toNat) (by omega), D (p := (c.toNat : Int) ≤ 57) (by omega), B 37 (by omega), B 39 (by omega), B 95 (by omega), B 91 (by omega), B 93 (by omega)]
      · cases e1 : ((c.toNat : Int) == 43) <;> cases e2 : ((c.toNat : Int) == 45) <;> simp [f193, start, EvCall_closed H.c19 rfl, ho, h0', hmul, e1, e2, N (p := (97 : Int) ≤ c.toNat) (by omega), N (p := (65 : Int) ≤ c.toNat) (by omega), F 37 (by omega), F 39 (by omega), F 95 (by omega), F 91 (by omega), F 93 (by omega), N (p := (48 : Int) ≤ c.toNat) (by omega), B 37 (by omega), B 39 (by omega), B 95 (by omega), B 91 (by omega), B 93 (by omega)] <;> (repeat' split) <;> rfl
      · cases e1 : ((c.toNat : Int) == 43) <;> cases e2 : ((c.toNat : Int) == 45) <;> simp [f193, start, EvCall_closed H.c19 rfl, ho, h0', hmul, e1, e2, N (p := (97 : Int) ≤ c.toNat) (by omega), N (p := (65 : Int) ≤ c.toNat) (by omega), F 37 (by omega), F 39 (by omega), F 95 (by omega), F 91 (by omega), F 93 (by omega), D (p := (48 : Int) ≤ c.toNat) (by omega), N (p := (c.toNat : Int) ≤ 57) (by omega), B 37 (by omega), B 39 (by omega), B 95 (by omega), B 91 (by omega), B 93 (by omega)] <;> (repeat' split) <;> rfl
      · cases e1 : ((c.toNat : Int) == 43) <;> cases e2 : ((c.toNat : Int) == 45) <;> simp [f193, start, EvCall_closed H.c19 rfl, ho, h0', hmul, e1, e2, N (p := (97 : Int) ≤ c.toNat) (by omega), D (p := (65 : Int) ≤ c.toNat) (by omega), N (p := (c.toNat : Int) ≤ 90) (by omega), F 37 (by omega), F 39 (by omega), F 95 (by omega), F 91 (by omega), F 93 (by omega), D (p := (48 : Int) ≤ c.toNat) (by omega), N (p := (c.toNat : Int) ≤ 57) (by omega), B 37 (by omega), B 39 (by omega), B 95 (by omega), B 91 (by omega), B 93 (by omega)] <;> (repeat' split) <;> rfl
      · cases e1 : ((c.toNat : Int) == 43) <;> cases e2 : ((c.toNat : Int) == 45) <;> simp [f193, start, EvCall_closed H.c19 rfl, ho, h0', hmul, e1, e2, D (p := (97 : Int) ≤ c.toNat) (by omega), N (p := (c.toNat : Int) ≤ 122) (by omega), D (p := (65 : Int) ≤ c.toNat) (by omega), N (p := (c.toNat : Int) ≤ 90) (by omega), F 37 (by omega), F 39 (by omega), F 95 (by omega), F 91 (by omega), F 93 (by omega), D (p := (48 : Int) ≤ c.toNat) (by omega), N (p := (c.toNat : Int) ≤ 57) (by omega), B 37 (by omega), B 39 (by omega), B 95 (by omega), B 91 (by omega), B 93 (by omega)] <;> (repeat' split) <;> rfl
end Go.Pv
/- Raising letters, and whether a text may be a note's: what the functions come to. Conditions: the functions' codes; theorems. -/
namespace Go.Pv
variable {E : Env}
theorem bytesOf_b8 : ∀ (s : List UInt8), bytesOf (s.map b8) = some s
  | [] => rfl
  | c :: s => by
    simp only [List.map_cons, b8, bytesOf]
    rw [bytesOf_b8 s]
    simp
theorem pre_at (pre : List UInt8) (c : UInt8) (rest : List UInt8) : ((pre.map b8 ++ b8 c :: rest.map b8).drop pre.length).take 1 = [b8 c] := by
  rw [List.drop_left' (by simp)]
  rfl
theorem pre_set (pre : List UInt8) (c d : UInt8) (rest : List UInt8) : setCells pre.length [b8 d] (pre.map b8 ++ b8 c :: rest.map b8) = (pre ++ [d]).map b8 ++ rest.map b8 := by
  simp only [setCells]
  rw [List.set_append_right _ _ (by simp)]
  simp
theorem mapped_loop {g : UInt8 → UInt8} {f : AV} {h : AHeap} (hf : ∀ c hh, (∀ k, k < h.blks.length → hh.bl k = h.bl k) → EvCall E f [b8 c] hh = some (.ret (b8 (g c)), hh)) : ∀ (rest pre : List UInt8), pre.length + rest.length < 9223372036854775807 → ∀ F,
    mask k77_0 F = s77_0 f (.rs h.blks.length 0 (pre.length + rest.length)) (.rs h.blks.length 0 (pre.length + rest.length)) (.int .i64 (pre.length + rest.length : Nat)) (.int .i64 pre.length) →
    EvCode E (.loop k77_0 l77_0) F (h.still.push (.cells (pre.map b8 ++ rest.map b8))) = some (.exit 0, x77_0 (.rs h.blks.length 0 (pre.length + rest.length)), h.still.push (.cells ((pre ++ rest.map g).map b8)))
  | [], pre, hlen, F, hF => by
    rw [EvCode_loop, hF]
    simp [l77_0, s77_0, x77_0]
  | c :: rest, pre, hlen, F, hF => by
    have ih := mapped_loop hf rest (pre ++ [g c]) (by simp at hlen ⊢; omega)
    have hc := hf c (h.still.push (.cells (pre.map b8 ++ b8 c :: rest.map b8))) (fun k hk => by rw [bl_push, if_neg (by simp; omega)]; rfl)
    rw [EvCode_loop, hF]
    generalize EvCode E (.loop k77_0 l77_0) = lp at ih ⊢
    simp only [List.length_cons] at hlen
    simp only [List.map_cons]
    have hset := push_setk (h := h.still) (x := .cells (pre.map b8 ++ b8 c :: rest.map b8)) (y := .cells (setCells pre.length [b8 (g c)] (pre.map b8 ++ b8 c :: rest.map b8))) (k := h.blks.length) rfl
    rw [pre_set] at hset
    have hlt : (pre.length : Int) < (pre.length : Int) + ((rest.length : Int) + 1) := by omega
    have hps := pre_set pre c (g c) rest
    have hpa := pre_at pre c rest
    have hle : pre.length ≤ pre.length + rest.length := by omega
    simp only [b8, setCells] at hps hpa hset hc
    simp [l77_0, s77_0, hlt, hc, hps, push_setk, w64 (n := (pre.length : Int) + 1)]
    rw [show pre.length + (rest.length + 1) = (pre ++ [g c]).length + rest.length by simp; omega]
    have := ih
    simp only [b8, List.map_append, List.map_cons, List.map_nil, List.append_assoc, List.cons_append, List.nil_append] at this ⊢
    rw [this _ (by simp [s77_0]; omega)]
    simp
theorem mapped_eq (H : Has 77 E) {g : UInt8 → UInt8} {f : AV} {h : AHeap} (s : List UInt8) (hs : s.length < 1000000) (hf : ∀ c hh, (∀ k, k < h.blks.length → hh.bl k = h.bl k) → EvCall E f [b8 c] hh = some (.ret (b8 (g c)), hh)) :
    EvCall E (.fn (.func 77) [] []) [.str s, f] h = some (.ret (.str (s.map g)), h) := by
  rw [EvCall_reader H.c77 rfl, EvFn_eq]
  have hl := mapped_loop hf s [] (by simp; omega)
  have hb := bytesOf_b8 (s.map g)
  simp only [List.map_nil, List.nil_append, List.length_nil, Nat.zero_add, Int.natCast_zero] at hl hb
  simp [f77, start, (by omega : s.length ≤ 140737488355328)]
  rw [hl _ (by simp [s77_0])]
  simp at hb
  simp [x77_0, take_map_len, hb]
def raise1 (fold : Bool) (c : UInt8) : UInt8 := if fold && decide (97 ≤ c.toNat) && decide (c.toNat ≤ 122) then UInt8.ofNat (c.toNat - 32) else c
def raise (x : Int) (s : List UInt8) : List UInt8 := s.map (raise1 (sty x).fold)
theorem raise1_toNat {c : UInt8} (h1 : 97 ≤ c.toNat) : ((UInt8.ofNat (c.toNat - 32)).toNat : Int) = c.toNat - 32 := by
  have := c.toNat_lt
  rw [UInt8.toNat_ofNat']
  omega
theorem raiseC_eq (H : Has 78 E) {h : AHeap} {b : Nat} {st : Sty} (hb : h.bl b = some (.cells st.cs)) (c : UInt8) : EvCall E (.fn (.func 78) [] [.ref b 0]) [b8 c] h = some (.ret (b8 (raise1 st.fold c)), h) := by
  rw [EvCall_reader H.c78 rfl, EvFn_eq]
  simp only [Sty.cs] at hb
  have hc := c.toNat_lt
  cases hf : st.fold
  · simp [f78, start, hb, hf, raise1]
  · by_cases h1 : 97 ≤ c.toNat
    · by_cases h2 : c.toNat ≤ 122
      · have w1 : IntKind.u8.wrap ((c.toNat : Int) - 97) = (c.toNat : Int) - 97 := by rw [IntKind.wrap_u8]; omega
        have w2 : IntKind.u8.wrap ((c.toNat : Int) - 97 + 65) = (c.toNat : Int) - 32 := by rw [IntKind.wrap_u8]; omega
        have h3 := raise1_toNat h1
        simp [f78, start, hb, hf, raise1, decide_eq_true (p := (97 : Int) ≤ c.toNat) (by omega), decide_eq_true (p := (c.toNat : Int) ≤ 122) (by omega), w1, w2, h1, h2]
        omega
      · simp [f78, start, hb, hf, raise1, decide_eq_true (p := (97 : Int) ≤ c.toNat) (by omega), decide_eq_false (p := (c.toNat : Int) ≤ 122) (by omega), h2]
    · simp [f78, start, hb, hf, raise1, decide_eq_false (p := (97 : Int) ≤ c.toNat) (by omega), h1]
theorem raise_eq (H : Has 64 E) (x : Int) (s : List UInt8) (hs : s.length < 1000000) : EvClosed E (.fn (.func 64) [] []) [.int .i64 x, .str s] = some (.str (raise x s)) := by
  rw [EvClosed_eq H.c64 rfl (vs := [.int .i64 x, .str s]) (by simp), EvFn_eq]
  have ho := of_eq (H.to 44) x
  have hm := mapped_eq (H.to 77) (g := raise1 (sty x).fold) (f := .fn (.func 78) [] [.ref 0 0]) (h := heap0.push (.cells (sty x).cs)) s hs (fun c hh hk => raiseC_eq (H.to 78) (by rw [hk 0 (by simp)]; simp) c)
  simp only [Sty.cs] at ho hm
  simp [f64, start, EvCall_closed H.c44 rfl, ho, push_setk, hm, raise]
end Go.Pv
/- Raising letters, and plain texts: the reference's functions, and the program's plain. Conditions: the functions' codes; theorems. -/
namespace Go.Pv
variable {E : Env}
theorem refRaise_loop {fold : Bool} {h : AHeap} : ∀ (rest pre out : List UInt8), pre.length + rest.length < 1000000 → out.length = pre.length → ∀ F, mask k195_0 F = s195_0 (.str (pre ++ rest)) (.bool fold) (.str out) (.int .i64 pre.length) →
    EvCode E (.loop k195_0 l195_0) F h = some (.exit 0, x195_0 (.str (out ++ rest.map (raise1 fold))), h)
  | [], pre, out, hlen, ho, F, hF => by
    rw [EvCode_loop, hF]
    simp [l195_0, s195_0, x195_0]
  | c :: rest, pre, out, hlen, ho, F, hF => by
    have ih := refRaise_loop (fold := fold) (h := h) rest (pre ++ [c]) (out ++ [raise1 fold c]) (by simp at hlen ⊢; omega) (by simp [ho])
    rw [EvCode_loop, hF]
    generalize EvCode E (.loop k195_0 l195_0) = lp at ih ⊢
    simp only [List.length_cons] at hlen
    have hc := c.toNat_lt
    have hlt : (pre.length : Int) < (pre.length : Int) + ((rest.length : Int) + 1) := by omega
    have hol : out.length + 1 ≤ 9223372036854775807 := by omega
    have fin : ∀ F', mask k195_0 F' = s195_0 (.str (pre ++ c :: rest)) (.bool fold) (.str (out ++ [raise1 fold c])) (.int .i64 ((pre.length : Int) + 1)) → lp F' h = some (.exit 0, x195_0 (.str (out ++ (c :: rest).map (raise1 fold))), h) := fun F' hF' => by
      have := ih F' (by rw [hF']; simp [s195_0])
      rw [this]
      simp
    cases fold
    · simp [l195_0, s195_0, hlt, hol, bytesOf, w64 (n := (pre.length : Int) + 1)]
      rw [fin _ (by simp [s195_0, raise1])]
      simp
    · by_cases h1 : 97 ≤ c.toNat
      · by_cases h2 : c.toNat ≤ 122
        · have w1 : IntKind.u8.wrap ((c.toNat : Int) - 32) = (c.toNat : Int) - 32 := by rw [IntKind.wrap_u8]; omega
          have w2 : ((c.toNat : Int) - 32).toNat = c.toNat - 32 := by omega
          simp [l195_0, s195_0, hlt, hol, bytesOf, decide_eq_true (p := (97 : Int) ≤ c.toNat) (by omega), decide_eq_true (p := (c.toNat : Int) ≤ 122) (by omega), w1, w2, w64 (n := (pre.length : Int) + 1)]
          rw [fin _ (by simp [s195_0, raise1, h1, h2])]
          simp
        · simp [l195_0, s195_0, hlt, hol, bytesOf, decide_eq_true (p := (97 : Int) ≤ c.toNat) (by omega), decide_eq_false (p := (c.toNat : Int) ≤ 122) (by omega), w64 (n := (pre.length : Int) + 1)]
          rw [fin _ (by simp [s195_0, raise1, h2])]
          simp
      · simp [l195_0, s195_0, hlt, hol, bytesOf, decide_eq_false (p := (97 : Int) ≤ c.toNat) (by omega), w64 (n := (pre.length : Int) + 1)]
        rw [fin _ (by simp [s195_0, raise1, h1])]
        simp
theorem refRaise_eq (H : Has 195 E) (x : Int) (s : List UInt8) (hs : s.length < 1000000) : EvClosed E (.fn (.func 195) [] []) [.int .i64 x, .str s] = some (.str (raise x s)) := by
  rw [EvClosed_eq H.c195 rfl (vs := [.int .i64 x, .str s]) (by simp), EvFn_eq]
  have ho := refOf_eq (H.to 19) x
  have hl := fun h => refRaise_loop (E := E) (fold := (sty x).fold) (h := h) s [] [] (by simp; omega) rfl
  simp only [Sty.cs] at ho
  simp only [List.nil_append, List.length_nil] at hl
  simp [f195, start, EvCall_closed H.c19 rfl, ho]
  rw [hl _ _ (by simp [s195_0])]
  simp [x195_0, raise]
def badB (st : Sty) (c : UInt8) : Bool := decide (c.toNat < 32) || decide (126 < c.toNat) || c == st.opn || c == st.cls
def plainS (st : Sty) (s : List UInt8) : Bool := !s.any (badB st) && st.opn != 0
def plain (x : Int) (s : List UInt8) : Bool := plainS (sty x) s
theorem u8i (a b : UInt8) : ((a.toNat : Int) == (b.toNat : Int)) = (a == b) := by
  rw [Bool.eq_iff_iff]
  simp only [beq_iff_eq]
  constructor
  · intro h; exact UInt8.toNat.inj (by omega)
  · intro h; rw [h]
theorem refPlain_loop {st : Sty} {h : AHeap} (hb : h.bl 0 = some (.cells st.cs)) : ∀ (rest pre : List UInt8), pre.length + rest.length < 1000000 → ∀ F, mask k172_0 F = s172_0 (.str (pre ++ rest)) (.ref 0 0) (.int .i64 pre.length) →
    EvCode E (.loop k172_0 l172_0) F h = some (if rest.any (badB st) then (.ret, r172 (.bool false), h) else (.exit 0, x172_0 (.ref 0 0), h))
  | [], pre, hlen, F, hF => by
    rw [EvCode_loop, hF]
    simp [l172_0, s172_0, x172_0]
  | c :: rest, pre, hlen, F, hF => by
    have ih := refPlain_loop hb rest (pre ++ [c]) (by simp at hlen ⊢; omega)
    rw [EvCode_loop, hF]
    generalize EvCode E (.loop k172_0 l172_0) = lp at ih ⊢
    simp only [List.length_cons] at hlen
    simp only [Sty.cs] at hb
    have hlt : (pre.length : Int) < (pre.length : Int) + ((rest.length : Int) + 1) := by omega
    have hol : pre.length < pre.length + (rest.length + 1) := by omega
    by_cases h1 : c.toNat < 32
    · simp [l172_0, s172_0, hlt, decide_eq_true (p := (c.toNat : Int) < 32) (by omega), r172, badB, h1]
    · by_cases h2 : 126 < c.toNat
      · simp [l172_0, s172_0, hlt, decide_eq_false (p := (c.toNat : Int) < 32) (by omega), decide_eq_true (p := (126 : Int) < c.toNat) (by omega), r172, badB, h2]
      · cases h3 : (c == st.opn)
        · cases h4 : (c == st.cls)
          · simp [l172_0, s172_0, hlt, hb, decide_eq_false (p := (c.toNat : Int) < 32) (by omega), decide_eq_false (p := (126 : Int) < c.toNat) (by omega), u8i, h3, h4, w64 (n := (pre.length : Int) + 1)]
            rw [ih _ (by simp [s172_0])]
            simp [badB, h1, h2, h3, h4]
          · simp [l172_0, s172_0, hlt, hb, decide_eq_false (p := (c.toNat : Int) < 32) (by omega), decide_eq_false (p := (126 : Int) < c.toNat) (by omega), u8i, h3, h4, r172, badB]
        · simp [l172_0, s172_0, hlt, hb, decide_eq_false (p := (c.toNat : Int) < 32) (by omega), decide_eq_false (p := (126 : Int) < c.toNat) (by omega), u8i, h3, r172, badB]
theorem opn_ne (st : Sty) : ((st.opn.toNat : Int) != 0) = (st.opn != 0) := by
  have := u8i st.opn 0
  simp only [bne]
  exact congrArg _ this
theorem refPlain_eq (H : Has 172 E) (x : Int) (s : List UInt8) (hs : s.length < 1000000) : EvClosed E (.fn (.func 172) [] []) [.int .i64 x, .str s] = some (.bool (plain x s)) := by
  rw [EvClosed_eq H.c172 rfl (vs := [.int .i64 x, .str s]) (by simp), EvFn_eq]
  have ho := refOf_eq (H.to 19) x
  have hl := fun h hb => refPlain_loop (E := E) (st := sty x) (h := h) hb s [] (by simp; omega)
  have hop := opn_ne (sty x)
  simp only [Sty.cs] at ho hl
  simp only [List.nil_append, List.length_nil] at hl
  simp [f172, start, EvCall_closed H.c19 rfl, ho, push_setk]
  rw [hl _ (by simp) _ (by simp [s172_0])]
  cases ha : s.any (badB (sty x))
  · simp [x172_0, plain, plainS, ha, hop]
  · simp [r172, plain, plainS, ha]
theorem plain_loop {st : Sty} {h : AHeap} (hb : h.bl 0 = some (.cells st.cs)) {b : Nat} (hb2 : ∃ cs : List UInt8, h.bl b = some (.cells (cs.map b8))) : ∀ (rest pre : List UInt8), h.bl b = some (.cells ((pre ++ rest).map b8)) → pre.length + rest.length < 1000000 → ∀ F, mask k67_0 F = s67_0 (.ref 0 0) (.rs b 0 (pre.length + rest.length)) (.int .i64 (pre.length + rest.length : Nat)) (.int .i64 pre.length) →
    EvCode E (.loop k67_0 l67_0) F h = some (if rest.any (badB st) then (.ret, r67 (.bool false), h) else (.exit 0, x67_0 (.ref 0 0), h))
  | [], pre, hbb, hlen, F, hF => by
    rw [EvCode_loop, hF]
    simp [l67_0, s67_0, x67_0]
  | c :: rest, pre, hbb, hlen, F, hF => by
    have ih := plain_loop hb hb2 rest (pre ++ [c]) (by simpa using hbb) (by simp at hlen ⊢; omega)
    rw [EvCode_loop, hF]
    generalize EvCode E (.loop k67_0 l67_0) = lp at ih ⊢
    simp only [List.length_cons] at hlen
    simp only [Sty.cs] at hb
    have hat := pre_at pre c rest
    simp only [List.map_append, List.map_cons] at hbb
    have hlt : (pre.length : Int) < (pre.length : Int) + ((rest.length : Int) + 1) := by omega
    by_cases h1 : c.toNat < 32
    · simp [l67_0, s67_0, hlt, hbb, decide_eq_true (p := (c.toNat : Int) < 32) (by omega), r67, badB, h1]
    · by_cases h2 : 126 < c.toNat
      · simp [l67_0, s67_0, hlt, hbb, decide_eq_false (p := (c.toNat : Int) < 32) (by omega), decide_eq_true (p := (126 : Int) < c.toNat) (by omega), r67, badB, h2]
      · cases h3 : (c == st.opn)
        · cases h4 : (c == st.cls)
          · simp [l67_0, s67_0, hlt, hbb, hb, decide_eq_false (p := (c.toNat : Int) < 32) (by omega), decide_eq_false (p := (126 : Int) < c.toNat) (by omega), u8i, h3, h4, w64 (n := (pre.length : Int) + 1)]
            rw [ih _ (by simp [s67_0]; omega)]
            simp [badB, h1, h2, h3, h4]
          · simp [l67_0, s67_0, hlt, hbb, hb, decide_eq_false (p := (c.toNat : Int) < 32) (by omega), decide_eq_false (p := (126 : Int) < c.toNat) (by omega), u8i, h3, h4, r67, badB]
        · simp [l67_0, s67_0, hlt, hbb, hb, decide_eq_false (p := (c.toNat : Int) < 32) (by omega), decide_eq_false (p := (126 : Int) < c.toNat) (by omega), u8i, h3, r67, badB]
theorem plain_eq (H : Has 67 E) (x : Int) (s : List UInt8) (hs : s.length < 1000000) : EvClosed E (.fn (.func 67) [] []) [.int .i64 x, .str s] = some (.bool (plain x s)) := by
  rw [EvClosed_eq H.c67 rfl (vs := [.int .i64 x, .str s]) (by simp), EvFn_eq]
  have ho := of_eq (H.to 44) x
  have hl := fun h hb b hb2 hbb => plain_loop (E := E) (st := sty x) (h := h) hb (b := b) hb2 s [] hbb (by simp; omega)
  have hop := opn_ne (sty x)
  simp only [Sty.cs] at ho hl
  simp only [List.nil_append, List.length_nil, Nat.zero_add] at hl
  simp [f67, start, EvCall_closed H.c44 rfl, ho, push_setk, (by omega : s.length ≤ 140737488355328)]
  rw [hl _ (by simp) 1 ⟨s, by simp⟩ (by simp) _ (by simp [s67_0])]
  cases ha : s.any (badB (sty x))
  · simp [x67_0, plain, plainS, ha, hop]
  · simp [r67, plain, plainS, ha]
end Go.Pv
