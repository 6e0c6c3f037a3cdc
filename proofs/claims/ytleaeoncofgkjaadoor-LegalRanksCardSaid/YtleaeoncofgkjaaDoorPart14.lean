/- Part 14 of the proof: what functions of the program come to. Conditions: none; definitions and theorems that the statement's proof uses. -/
import Derived.Test.YtleaeoncofgkjaaDoorPart4
import Derived.Test.YtleaeoncofgkjaaDoorPart13
/- A slice that is appended to. Conditions: none; lemmas. -/
namespace Go.Pv

theorem bl_mk (b : List ABlk) (ts : List Nat) (r q i : Nat) : (AHeap.mk b ts r q).bl i = b[i]? := rfl
def AHeap.toks_ (h : AHeap) (ts : List Nat) : AHeap := { h with toks := ts }
theorem toks_mk (h : AHeap) (ts : List Nat) : ({ blks := h.blks, toks := ts, ro := h.ro, rot := h.rot } : AHeap) = h.toks_ ts := rfl
theorem bl_toks (h : AHeap) (ts : List Nat) (i : Nat) : (h.toks_ ts).bl i = h.bl i := rfl
theorem blks_toks (h : AHeap) (ts : List Nat) : (h.toks_ ts).blks = h.blks := rfl
theorem len_toks (h : AHeap) (ts : List Nat) : (h.toks_ ts).blks.length = h.blks.length := rfl
theorem ro_toks (h : AHeap) (ts : List Nat) : (h.toks_ ts).ro = h.ro := rfl
theorem rot_toks (h : AHeap) (ts : List Nat) : (h.toks_ ts).rot = h.rot := rfl
theorem tk_set (h : AHeap) (b : Nat) (y : ABlk) (i : Nat) : (h.setBlk b y).tk i = h.tk i := rfl
theorem tk_toks (h : AHeap) (ts : List Nat) (i : Nat) : (h.toks_ ts).tk i = ts[i]? := rfl
theorem toks_toks (h : AHeap) (ts us : List Nat) : (h.toks_ ts).toks_ us = h.toks_ us := rfl
theorem toks_self (h : AHeap) : h.toks_ h.toks = h := rfl

/-- A slice that may be appended to. -/
def Grow (h : AHeap) (sz : Nat) (cs : List AV) (len : Nat) (v : AV) : Prop :=
  (v = .nils ∧ cs = [] ∧ len = 0) ∨ ∃ k, v = .vs (.tok k sz) len cs ∧ cs.length = len * sz ∧ h.tk k = some cs.length ∧ h.rot ≤ k ∧ 0 < len
theorem grow_nil (h : AHeap) (sz : Nat) : Grow h sz [] 0 .nils := .inl ⟨rfl, rfl, rfl⟩
theorem grow_app {h : AHeap} {sz bytes : Nat} {cs : List AV} {len m : Nat} {v : AV} {xs : List AV} (g : Grow h sz cs len v) (hr : h.rot ≤ h.toks.length) (hb : (len + m) * bytes ≤ 140737488355328) (hm : 0 < m) (hsz : 0 < sz) (hx : xs.length = m * sz) (hc : xs.all AV.isCell = true) :
    ∃ ts v', appendA sz bytes h (den v) (.vs .full m xs) = some (v', h.toks_ ts) ∧ Grow (h.toks_ ts) sz (cs ++ xs) (len + m) v' ∧ h.toks.length ≤ ts.length := by
  have hm0 : ¬ m = 0 := by omega
  rcases g with ⟨rfl, rfl, rfl⟩ | ⟨k, rfl, h1, h2, h3, h4⟩
  · simp only [Nat.zero_add] at hb
    refine ⟨h.toks ++ [0 + xs.length], .vs (.tok h.toks.length sz) (0 + m) ([] ++ xs), ?_, .inr ⟨_, rfl, ?_, ?_, ?_, by omega⟩, by simp⟩
    · simp [appendA, den, sliceCells, hx, hb, hsz, hm0, AHeap.toks_]
      exact List.all_eq_true.1 hc
    · simpa using hx
    · simp [tk_toks]
    · exact hr
  · have hkl : k < h.toks.length := (List.getElem?_eq_some_iff.1 h2).1
    have hcs : den (.vs (.tok k sz) len cs) = .vs (.tok k sz) len cs := rfl
    refine ⟨h.toks.set k (cs.length + xs.length), .vs (.tok k sz) (len + m) (cs ++ xs), ?_, .inr ⟨_, rfl, ?_, ?_, h3, by omega⟩, by simp⟩
    · rw [hcs]
      rw [h1] at h2
      simp [appendA, sliceCells, hx, hb, hsz, hm0, AHeap.toks_, h1, h2, h3]
      exact List.all_eq_true.1 hc
    · simp [h1, hx, Nat.add_mul]
    · simp [tk_toks, hkl]
theorem Grow.len {h : AHeap} {sz : Nat} {cs : List AV} {len : Nat} {v : AV} (g : Grow h sz cs len v) : cs.length = len * sz := by
  rcases g with ⟨_, rfl, rfl⟩ | ⟨k, _, h1, _⟩
  · simp
  · exact h1
theorem Grow.of_heap {h h' : AHeap} {sz : Nat} {cs : List AV} {len : Nat} {v : AV} (g : Grow h sz cs len v) (ht : h'.toks = h.toks) (hr : h'.rot = h.rot) : Grow h' sz cs len v := by
  rcases g with g | ⟨k, g1, g2, g3, g4, g5⟩
  · exact .inl g
  · exact .inr ⟨k, g1, g2, by show h'.toks[k]? = _; rw [ht]; exact g3, by rw [hr]; exact g4, g5⟩
theorem Grow.cell {h : AHeap} {sz : Nat} {cs : List AV} {len : Nat} {v : AV} (g : Grow h sz cs len v) : v.isCell = true := by
  rcases g with ⟨rfl, _⟩ | ⟨k, rfl, _⟩ <;> simp
theorem Grow.cells {h : AHeap} {sz : Nat} {cs : List AV} {len : Nat} {v : AV} (g : Grow h sz cs len v) : v.cells? = some [v] := by
  rcases g with ⟨rfl, _⟩ | ⟨k, rfl, _⟩ <;> simp
theorem set_set (h : AHeap) (b : Nat) (x y : ABlk) : (h.setBlk b x).setBlk b y = h.setBlk b y := by simp [AHeap.setBlk]
/-- What leaves a call. -/
def shutV (cs : List AV) (len : Nat) : AV := if len = 0 then .nils else .vs .shared len cs
end Go.Pv
