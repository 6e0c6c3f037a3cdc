/- Part 15 of the proof: what functions of the program come to. Conditions: none; definitions and theorems that the statement's proof uses. -/
import Derived.Test.YtleaeoncofgkjaaDoorPart14
import Derived.Test.YtleaeoncofgkjaaDoorPart12
/- What a parser makes of tokens. Conditions: none; definitions and lemmas. -/
namespace Go.Pv

/-- One of a tree. -/
structure StepA where
  op : Int
  pfx : Int
  atom : Int
  n : Int
  num : Int
  text : List UInt8
  deriving DecidableEq
def StepA.cs (s : StepA) : List AV := [.int .i64 s.op, .int .i64 s.pfx, .int .i64 s.atom, .int .i64 s.n, .int .i64 s.num, .str s.text]
theorem StepA.len (s : StepA) : s.cs.length = 6 := by simp [StepA.cs]
theorem StepA.all (s : StepA) : s.cs.all AV.isCell = true := by simp [StepA.cs]
theorem StepA.shut {n k : Nat} (s : StepA) : shutL n k s.cs = some s.cs := by simp [StepA.cs]
/-- An error, and its place. -/
abbrev PErr := Int × Int
/-- What is made, the tokens that are left, the first symbol that is none. -/
abbrev Res (α : Type) := Except PErr (α × List Tok × Option Tok)
def atT (sz : Int) : List Tok → Int
  | [] => sz
  | t :: _ => t.pos
def isT (k : Int) : List Tok → Bool
  | [] => false
  | t :: _ => t.kind == k
def numP (sz lo hi : Int) : List Tok → Except PErr (Int × List Tok)
  | [] => .error (14, sz)
  | t :: r => if (t.kind == 2 && decide (lo ≤ t.n)) && decide (t.n ≤ hi) then .ok (t.n, r) else .error (14, t.pos)
def powN (sz : Int) : List Tok → Except PErr (Int × List Tok)
  | [] => .error (14, sz)
  | t :: r => if t.kind == 3 then (match numP sz 0 99 r with | .ok (n, r') => .ok (if t.text == [45] then -n else n, r') | .error e => .error e) else numP sz 0 99 (t :: r)
def powP (pow : Bool) (sz : Int) (l : List Tok) : Except PErr (Int × List Tok) :=
  if pow then (if isT 6 l then powN sz l.tail else .ok (1, l)) else if isT 3 l || isT 2 l then powN sz l else .ok (1, l)
def unkP (ok : Bool) (t : Tok) (u : Option Tok) : Option Tok := if !ok && u.isNone then some t else u
def symP (x sz : Int) (t : Tok) (r : List Tok) (u : Option Tok) : Res (List StepA) :=
  match powP ((sty x).pow != 0) sz r with
  | .ok (n, r') => .ok ([⟨2, (findB (x - 1).toNat atomsT prefsT t.text).1, (findB (x - 1).toNat atomsT prefsT t.text).2.1, n, 0, []⟩], r', unkP (findB (x - 1).toNat atomsT prefsT t.text).2.2 t u)
  | .error e => .error e
def maxNum : Int := 9223372036854775807
def baseP (x sz : Int) (inner : List Tok → Option Tok → Res (List StepA)) : List Tok → Option Tok → Res (List StepA)
  | [], _ => .error (14, sz)
  | t :: r, u =>
    if t.kind == 1 then symP x sz t r u else
    if t.kind == 2 then (match numP sz 1 maxNum (t :: r) with | .ok (n, r') => .ok ([⟨1, -1, 0, 0, n, []⟩], r', u) | .error e => .error e) else
    if t.kind == 7 then inner (t :: r) u else .error (14, t.pos)
def noteP : List StepA × List Tok × Option Tok → Res (List StepA)
  | (t, [], u) => .ok (t, [], u)
  | (t, k :: r, u) => if k.kind == 9 then .ok (t ++ [⟨6, -1, 0, 0, 0, k.text⟩], r, u) else .ok (t, k :: r, u)
def itemB (x sz : Int) (inner : List Tok → Option Tok → Res (List StepA)) (l : List Tok) (u : Option Tok) : Res (List StepA) :=
  match baseP x sz inner l u with
  | .ok r => noteP r
  | .error e => .error e
def itemP (x sz : Int) (inner : List Tok → Option Tok → Res (List StepA)) : List Tok → Option Tok → Res (List StepA)
  | [], u => itemB x sz inner [] u
  | t :: r, u => if t.kind == 9 then .ok ([⟨7, -1, 0, 0, 0, t.text⟩], r, u) else itemB x sz inner (t :: r) u
def loopP (x sz : Int) (inner : List Tok → Option Tok → Res (List StepA)) : Nat → List StepA → List Tok → Option Tok → Res (List StepA)
  | 0, t, l, u => .ok (t, l, u)
  | _ + 1, t, [], u => .ok (t, [], u)
  | f + 1, t, k :: r, u =>
    if k.kind == 4 || k.kind == 5 then
      match itemP x sz inner r u with
      | .ok (t', l', u') => loopP x sz inner f (t ++ t' ++ [⟨if k.kind == 4 then 3 else 4, -1, 0, 0, 0, []⟩]) l' u'
      | .error e => .error e
    else .ok (t, k :: r, u)
def mainP (x sz : Int) (inner : List Tok → Option Tok → Res (List StepA)) (l : List Tok) (u : Option Tok) : Res (List StepA) :=
  match itemP x sz inner (if isT 5 l then l.tail else l) u with
  | .ok (t, l', u') => loopP x sz inner l'.length (if isT 5 l then t ++ [⟨5, -1, 0, 0, 0, []⟩] else t) l' u'
  | .error e => .error e
def closeP (sz : Int) : List StepA × List Tok × Option Tok → Res (List StepA)
  | (_, [], _) => .error (14, sz)
  | (t, k :: r, u) => if k.kind == 8 then .ok (t, r, u) else .error (14, k.pos)
/-- What stands in brackets, as deep as may be. -/
def levelP (x sz : Int) : Nat → List Tok → Option Tok → Res (List StepA)
  | 0, l, _ => .error (13, atT sz l)
  | r + 1, l, u =>
    match mainP x sz (levelP x sz r) l.tail u with
    | .ok q => closeP sz q
    | .error e => .error e
/-- What was parsed. -/
structure Psd where
  tree : List StepA
  err : Int
  pos : Int
  len : Int
  deriving DecidableEq
def treeP (x sz : Int) (l : List Tok) : Psd :=
  match mainP x sz (levelP x sz 32) l none with
  | .error e => ⟨[], e.1, e.2, 0⟩
  | .ok (_, k :: _, _) => ⟨[], 14, k.pos, 0⟩
  | .ok (_, [], some t) => ⟨[], 15, t.pos, t.text.length⟩
  | .ok (t, [], none) => ⟨t, 0, sz, 0⟩
/-- The steps' values. -/
def stepsV (t : List StepA) : AV := if t.isEmpty then .nils else .vs (if t.length = 1 then .full else .shared) t.length (t.flatMap StepA.cs)
def Psd.cs (p : Psd) : List AV := [stepsV p.tree, .int .i64 p.err, .int .i64 p.pos, .int .i64 p.len]
/-- What a text is parsed to. -/
def parseP (x : Int) (s : List UInt8) : Psd :=
  if isN x then
    if s.length ≤ 255 then treeP x s.length (if (lexS x s).2 < s.length then (lexS x s).1 ++ [⟨0, (lexS x s).2, [], 0⟩] else (lexS x s).1)
    else ⟨[], 12, 0, 0⟩
  else ⟨[], 1, 0, 0⟩

/-! ### How much is used up -/
/-- So much is made of so many tokens. -/
def Fits (k : Nat) (l : List Tok) : Res (List StepA) → Prop
  | .ok (t, l', _) => t.length + l'.length + k ≤ l.length ∧ 1 ≤ t.length
  | .error _ => True
theorem numP_len {sz lo hi : Int} {l : List Tok} {n : Int} {r : List Tok} (h : numP sz lo hi l = .ok (n, r)) : r.length + 1 = l.length := by
  cases l with
  | nil => simp [numP] at h
  | cons t l =>
    simp only [numP] at h
    split at h
    · cases h; simp
    · cases h
theorem powN_len {sz : Int} {l : List Tok} {n : Int} {r : List Tok} (h : powN sz l = .ok (n, r)) : r.length ≤ l.length := by
  cases l with
  | nil => simp [powN] at h
  | cons t l =>
    simp only [powN] at h
    split at h
    · split at h
      · rename_i h1
        have := numP_len h1
        cases h
        simp only [List.length_cons]
        omega
      · cases h
    · have := numP_len h
      omega
theorem powP_len {pow : Bool} {sz : Int} {l : List Tok} {n : Int} {r : List Tok} (h : powP pow sz l = .ok (n, r)) : r.length ≤ l.length := by
  unfold powP at h
  split at h
  · split at h
    · have := powN_len h
      simp only [List.length_tail] at this
      omega
    · cases h; exact Nat.le_refl _
  · split at h
    · exact powN_len h
    · cases h; exact Nat.le_refl _
theorem symP_fits {x sz : Int} {t : Tok} {r : List Tok} {u : Option Tok} : Fits 0 (t :: r) (symP x sz t r u) := by
  unfold symP
  split
  · rename_i h
    have := powP_len h
    simp only [Fits, List.length_cons, List.length_nil]
    omega
  · trivial
section
variable {x sz : Int} {inner : List Tok → Option Tok → Res (List StepA)}
theorem baseP_fits (hi : ∀ l u, Fits 0 l (inner l u)) : ∀ l u, Fits 0 l (baseP x sz inner l u)
  | [], u => trivial
  | t :: r, u => by
    simp only [baseP]
    split
    · exact symP_fits
    · split
      · cases h : numP sz 1 maxNum (t :: r) with
        | error e => trivial
        | ok v =>
          obtain ⟨n, r'⟩ := v
          have := numP_len h
          simp only [Fits, List.length_cons, List.length_nil] at this ⊢
          omega
      · split
        · exact hi _ _
        · trivial
theorem itemB_fits (hi : ∀ l u, Fits 0 l (inner l u)) (l : List Tok) (u : Option Tok) : Fits 0 l (itemB x sz inner l u) := by
  have := baseP_fits (x := x) (sz := sz) hi l u
  unfold itemB
  split
  · rename_i r h
    rw [h] at this
    obtain ⟨t, l', u'⟩ := r
    simp only [Fits] at this
    cases l' with
    | nil => exact this
    | cons k r =>
      simp only [noteP]
      split
      · simp only [Fits, List.length_append, List.length_cons, List.length_nil] at this ⊢
        omega
      · exact this
  · trivial
theorem itemP_fits (hi : ∀ l u, Fits 0 l (inner l u)) : ∀ (l : List Tok) (u : Option Tok), Fits 0 l (itemP x sz inner l u)
  | [], u => itemB_fits (x := x) (sz := sz) hi [] u
  | t :: r, u => by
    simp only [itemP]
    split
    · simp only [Fits, List.length_cons, List.length_nil]
      omega
    · exact itemB_fits hi _ _
theorem loopP_fits (hi : ∀ l u, Fits 0 l (inner l u)) : ∀ (f : Nat) (t : List StepA) (l : List Tok) (u : Option Tok), 1 ≤ t.length → ∀ l0 : List Tok, t.length + l.length ≤ l0.length → Fits 0 l0 (loopP x sz inner f t l u)
  | 0, t, l, u, h1, l0, h2 => ⟨by omega, h1⟩
  | f + 1, t, [], u, h1, l0, h2 => ⟨by simpa using h2, h1⟩
  | f + 1, t, k :: r, u, h1, l0, h2 => by
    simp only [List.length_cons] at h2
    simp only [loopP]
    split
    · have := itemP_fits (x := x) (sz := sz) hi r u
      split
      · rename_i h
        rw [h] at this
        simp only [Fits] at this
        exact loopP_fits hi f _ _ _ (by simp only [List.length_append, List.length_cons, List.length_nil]; omega) l0 (by simp only [List.length_append, List.length_cons, List.length_nil]; omega)
      · trivial
    · exact ⟨by simp; omega, h1⟩
theorem mainP_fits (hi : ∀ l u, Fits 0 l (inner l u)) (l : List Tok) (u : Option Tok) : Fits 0 l (mainP x sz inner l u) := by
  unfold mainP
  have := itemP_fits (x := x) (sz := sz) hi (if isT 5 l then l.tail else l) u
  split
  · rename_i h
    rw [h] at this
    simp only [Fits] at this
    cases l with
    | nil =>
      have e : (if isT 5 ([] : List Tok) = true then ([] : List Tok).tail else []) = [] := by simp
      rw [e] at this
      simp only [List.length_nil] at this
      omega
    | cons k r =>
      split at this
      · rename_i h5
        rw [if_pos h5]
        simp only [List.tail_cons] at this
        exact loopP_fits hi _ _ _ _ (by simp) _ (by simp; omega)
      · rename_i h5
        rw [if_neg h5]
        exact loopP_fits hi _ _ _ _ (by omega) _ (by omega)
  · trivial
end
theorem closeP_fits {sz : Int} {l : List Tok} {t : List StepA} {l' : List Tok} {u : Option Tok} (h : Fits 0 l (.ok (t, l', u))) : Fits 1 l (closeP sz (t, l', u)) := by
  cases l' with
  | nil => trivial
  | cons k r =>
    simp only [closeP]
    split
    · simp only [Fits, List.length_cons] at h ⊢
      omega
    · trivial
theorem levelP_fits {x sz : Int} : ∀ (d : Nat) (l : List Tok) (u : Option Tok), Fits 0 l (levelP x sz d l u)
  | 0, l, u => trivial
  | d + 1, l, u => by
    unfold levelP
    have := mainP_fits (x := x) (sz := sz) (inner := levelP x sz d) (levelP_fits (x := x) (sz := sz) d) l.tail u
    split
    · rename_i q h
      rw [h] at this
      obtain ⟨t, l', u'⟩ := q
      have h1 := closeP_fits (sz := sz) this
      cases hq : closeP sz (t, l', u') with
      | error e => trivial
      | ok p =>
        rw [hq] at h1
        obtain ⟨a, b, c⟩ := p
        simp only [Fits, List.length_tail] at h1 ⊢
        omega
    · trivial
end Go.Pv
