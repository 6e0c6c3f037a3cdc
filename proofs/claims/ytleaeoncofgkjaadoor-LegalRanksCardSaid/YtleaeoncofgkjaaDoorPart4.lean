/- Part 4 of the proof: what functions of the program come to. Conditions: none; definitions and theorems that the statement's proof uses. -/
import Derived.Test.YtleaeoncofgkjaaDoorPart3
/- Lemmas for working out functions in the evaluator: slices of equal pieces, loops, numbers. Conditions: none; lemmas. -/
namespace Go.Pv
variable {E : Env}

theorem w64 {n : Int} (h1 : -9223372036854775808 ≤ n := by omega) (h2 : n ≤ 9223372036854775807 := by omega) : IntKind.i64.wrap n = n := wrap_i64 h1 h2

/-! ### Equal pieces, one behind the other -/
theorem fm_len {α : Type} {f : α → List AV} {n : Nat} (hf : ∀ a, (f a).length = n) : ∀ (l : List α), (l.flatMap f).length = l.length * n
  | [] => by simp
  | x :: l => by
    rw [List.flatMap_cons, List.length_append, fm_len hf l, hf x, List.length_cons, Nat.add_mul]
    omega
theorem fm_drop {α : Type} {f : α → List AV} {n : Nat} (hf : ∀ a, (f a).length = n) : ∀ (l : List α) (i : Nat), (l.flatMap f).drop (i * n) = (l.drop i).flatMap f
  | l, 0 => by simp
  | [], i + 1 => by simp
  | x :: l, i + 1 => by
    rw [List.flatMap_cons, Nat.add_mul, Nat.one_mul, Nat.add_comm, ← List.drop_drop, ← hf x, List.drop_left, hf x, fm_drop hf l i]
    rfl
theorem fm_at {α : Type} {f : α → List AV} {n : Nat} (hf : ∀ a, (f a).length = n) {l : List α} {i off m : Nat} (hi : i < l.length) (hm : off + m ≤ n) : ((l.flatMap f).drop (i * n + off)).take m = ((f l[i]).drop off).take m := by
  rw [← List.drop_drop, fm_drop hf, List.drop_eq_getElem_cons hi, List.flatMap_cons, List.drop_append_of_le_length (by rw [hf]; omega), List.take_append_of_le_length (by rw [List.length_drop, hf]; omega)]
theorem fm_at0 {α : Type} {f : α → List AV} {n : Nat} (hf : ∀ a, (f a).length = n) {l : List α} {i m : Nat} (hi : i < l.length) (hm : m ≤ n) : ((l.flatMap f).drop (i * n)).take m = (f l[i]).take m := by
  have := fm_at hf (off := 0) hi (by simpa using hm)
  simpa using this
theorem fm_el {α : Type} {f : α → List AV} {n : Nat} (hf : ∀ a, (f a).length = n) {l : List α} {i : Nat} (hi : i < l.length) : ((l.flatMap f).drop (i * n)).take n = f l[i] := by
  rw [fm_at0 hf hi (Nat.le_refl _), List.take_of_length_le (by rw [hf]; exact Nat.le_refl _)]
theorem fm_take {α : Type} {f : α → List AV} {n : Nat} (hf : ∀ a, (f a).length = n) (l : List α) (i : Nat) : (l.flatMap f).take (i * n) = (l.take i).flatMap f := by
  induction l generalizing i with
  | nil => simp
  | cons x l ih =>
    cases i with
    | zero => simp
    | succ i =>
      rw [List.flatMap_cons, Nat.add_mul, Nat.one_mul, Nat.add_comm, List.take_add, List.take_left' (hf x), List.drop_left' (hf x), ih]
      rfl
/-- How much is left behind a place. -/
theorem le_off {n len k sz off : Nat} (h : k < len) (h2 : off + n ≤ sz) : n ≤ len * sz - (k * sz + off) := by
  have : (k + 1) * sz ≤ len * sz := Nat.mul_le_mul_right sz h
  rw [Nat.add_mul] at this
  omega
theorem le_at {n len k sz : Nat} (h : k < len) (h2 : n ≤ sz) : n ≤ len * sz - k * sz := by
  have := le_off (off := 0) h (by omega : 0 + n ≤ sz)
  simpa using this
theorem lt_off {len k sz off : Nat} (h : k < len) (h2 : off < sz) : off < len * sz - k * sz := by
  have : (k + 1) * sz ≤ len * sz := Nat.mul_le_mul_right sz h
  rw [Nat.add_mul] at this
  omega
theorem lt_at {len k sz : Nat} (h : k < len) (h2 : 0 < sz) : k * sz < len * sz := Nat.mul_lt_mul_of_pos_right h h2
theorem map_at {α : Type} {f : α → AV} {l : List α} {i : Nat} (hi : i < l.length) : ((l.map f).drop i).take 1 = [f l[i]] := by
  rw [List.drop_eq_getElem_cons (by simpa using hi)]
  simp

@[simp] theorem ic_int (k : IntKind) (n : Int) : (AV.int k n).isCell = true := id rfl
@[simp] theorem ic_str (s : List UInt8) : (AV.str s).isCell = true := id rfl
@[simp] theorem ic_bool (b : Bool) : (AV.bool b).isCell = true := id rfl
@[simp] theorem ic_fn (f : AFn) (a b : List AV) : (AV.fn f a b).isCell = true := id rfl
@[simp] theorem ic_ref (b o : Nat) : (AV.ref b o).isCell = true := id rfl
@[simp] theorem ic_nilp : AV.nilp.isCell = true := id rfl
@[simp] theorem ic_nils : AV.nils.isCell = true := id rfl
@[simp] theorem ic_vs (o : Own) (n : Nat) (l : List AV) : (AV.vs o n l).isCell = true := id rfl
@[simp] theorem ic_pin (l : List AV) : (AV.pin l).isCell = true := id rfl
@[simp] theorem ic_map (b : Nat) : (AV.map b).isCell = true := id rfl
@[simp] theorem ic_iface (t : Nat) (v : AV) : (AV.iface t v).isCell = true := id rfl
@[simp] theorem ic_niliface : AV.niliface.isCell = true := id rfl
@[simp] theorem ic_nilfn : AV.nilfn.isCell = true := id rfl
theorem take_map_len {α β : Type} (f : α → β) (l : List α) : (l.map f).take l.length = l.map f := List.take_of_length_le (by simp)
/-! ### A part of a goal, met by what is known of it -/
theorem via {α β : Type} {x r : β} {f : α → β} (hg : x = r) (h : ∃ a, x = f a) : ∃ a, r = f a := hg ▸ h
theorem via2 {α β : Type} {x r : β} {f : α → β} {P : α → Prop} (hg : x = r) (h : ∃ a, x = f a ∧ P a) : ∃ a, r = f a ∧ P a := hg ▸ h
/-! ### Cells -/
theorem push_set (h : AHeap) (x y : ABlk) : (h.push x).setBlk h.blks.length y = h.push y := by
  simp [AHeap.push, AHeap.setBlk]
theorem push_setk {h : AHeap} {x y : ABlk} {k : Nat} (hk : k = h.blks.length) : (h.push x).setBlk k y = h.push y := by
  subst hk
  exact push_set h x y
theorem setCells_app : ∀ (cs l pre : List AV), cs.length = l.length → setCells pre.length cs (pre ++ l) = pre ++ cs
  | [], l, pre, h => by
    have : l = [] := List.eq_nil_of_length_eq_zero (by simpa using h.symm)
    simp [setCells, this]
  | c :: cs, x :: l, pre, h => by
    simp only [setCells]
    have := setCells_app cs l (pre ++ [c]) (by simpa using h)
    simp only [List.length_append, List.length_singleton, List.append_assoc, List.singleton_append] at this
    rw [List.set_append_right _ _ (Nat.le_refl _)]
    simpa using this
  | c :: cs, [], pre, h => by simp at h
theorem setCells_full {cs l : List AV} (h : cs.length = l.length) : setCells 0 cs l = cs := by
  have := setCells_app cs l [] h
  simpa using this
/-- Cells that may leave a call. -/
theorem shutL_append {n t : Nat} : ∀ {a b a' b' : List AV}, shutL n t a = some a' → shutL n t b = some b' → shutL n t (a ++ b) = some (a' ++ b')
  | [], b, a', b', h1, h2 => by simp only [shutL] at h1; cases h1; simpa using h2
  | v :: a, b, a', b', h1, h2 => by
    simp only [shutL] at h1
    split at h1
    · rename_i x xs q1 q2
      cases h1
      simp only [List.cons_append, shutL, q1, shutL_append q2 h2]
    · cases h1
theorem shutL_flat {n t : Nat} {α : Type} {f : α → List AV} (hf : ∀ a, shutL n t (f a) = some (f a)) : ∀ (l : List α), shutL n t (l.flatMap f) = some (l.flatMap f)
  | [] => by simp [shutL]
  | x :: l => by
    rw [List.flatMap_cons]
    exact shutL_append (hf x) (shutL_flat hf l)
theorem shutL_map {n t : Nat} {α : Type} {f : α → AV} (hf : ∀ a, shut n t (f a) = some (f a)) : ∀ (l : List α), shutL n t (l.map f) = some (l.map f)
  | [] => by simp [shutL]
  | x :: l => by simp only [List.map_cons, shutL, hf x, shutL_map hf l]
theorem shut_str {n t : Nat} (s : List UInt8) : shut n t (.str s) = some (.str s) := by simp only [shut]
theorem all_flat {α : Type} {f : α → List AV} (hf : ∀ a, (f a).all AV.isCell = true) (l : List α) : (l.flatMap f).all AV.isCell = true := by
  simp only [List.all_flatMap, List.all_eq_true]
  intro a _
  exact List.all_eq_true.1 (hf a)
theorem all_map {α : Type} {f : α → AV} (hf : ∀ a, (f a).isCell = true) (l : List α) : (l.map f).all AV.isCell = true := by
  simp [List.all_map, Function.comp_def, hf]

/-- A place's number in a row; -1: none. -/
def idxV {α : Type} (p : α → Bool) (L : List α) : Int := if L.any p then (L.findIdx p : Nat) else -1
theorem idxV_cons {α : Type} (p : α → Bool) (a : α) (L : List α) : idxV p (a :: L) = if p a then 0 else if idxV p L = -1 then -1 else idxV p L + 1 := by
  unfold idxV
  cases ha : p a
  · cases hL : L.any p
    · simp [ha, hL]
    · simp only [List.any_cons, ha, hL, Bool.or_true, if_true, List.findIdx_cons, cond_false, Bool.false_eq_true, if_false]
      rw [if_neg (by omega)]
      omega
  · simp [ha, List.findIdx_cons]
theorem idxV_range {α : Type} (p : α → Bool) (L : List α) : idxV p L = -1 ∨ ∃ i : Nat, i < L.length ∧ idxV p L = i := by
  unfold idxV
  split
  · rename_i h
    exact .inr ⟨_, List.findIdx_lt_length.2 (by simpa using h), rfl⟩
  · exact .inl rfl

/-- An environment with some of its functions and globals told. -/
def extE (E : Env) (tab : List (Nat × SFunc)) (gt : List (Nat × List AV)) (xt : List (Nat × (List AV → Option AV))) : Env :=
  { fn := fun j => match tab.lookup j with | some f => some f | none => E.fn j, glob := fun g => match gt.lookup g with | some c => some c | none => E.glob g,
    ext := fun j => match tab.lookup j with | some _ => none | none => match xt.lookup j with | some g => some g | none => E.ext j }
theorem ext_eq {E : Env} {tab : List (Nat × SFunc)} {gt : List (Nat × List AV)} {xt : List (Nat × (List AV → Option AV))} (h : ∀ p ∈ tab, E.code p.1 = some p.2) (hg : ∀ p ∈ gt, E.glob p.1 = some p.2) (hx : ∀ p ∈ xt, E.ext p.1 = some p.2) : extE E tab gt xt = E := by
  have lk : ∀ {β : Type} (l : List (Nat × β)) (j : Nat) (b : β), l.lookup j = some b → (j, b) ∈ l := by
    intro β l
    induction l with
    | nil => intro j b hb; simp at hb
    | cons p l ih =>
      intro j b hb
      simp only [List.lookup] at hb
      split at hb
      · rename_i hj
        have := eq_of_beq hj
        cases hb
        subst this
        exact List.mem_cons_self
      · exact List.mem_cons_of_mem _ (ih j b hb)
  unfold extE
  congr 1
  · funext j
    split
    · rename_i f hf
      exact (code_spec (h _ (lk _ _ _ hf))).2.symm
    · rfl
  · funext g
    split
    · rename_i c hc
      exact (hg _ (lk _ _ _ hc)).symm
    · rfl
  · funext j
    split
    · rename_i f hf
      exact (code_spec (h _ (lk _ _ _ hf))).1.symm
    · split
      · rename_i g hg
        exact (hx _ (lk _ _ _ hg)).symm
      · rfl
/-- What is so of all bytes of a row is so of each. -/
theorem bytes_of {β : Type} {f g : Nat → β} (h : (List.range 256).map f = (List.range 256).map g) (c : UInt8) : f c.toNat = g c.toNat := by
  have := (List.map_inj_left.1 h) c.toNat (by simp; exact c.toNat_lt)
  exact this
end Go.Pv
