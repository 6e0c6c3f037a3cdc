/- A part of the proof: functions of the program in the evaluator's code, and what they come to. Conditions: none; definitions and theorems that the statement's proof uses. -/
import Derived.Test.YtleaeoncofgkjaaGreatDoorSet16
import Derived.Test.YtleaeoncofgkjaaGreatDoorSet22
/- How deep brackets stand in a printed text's tokens. Conditions: none; theorems. -/
namespace Go.Pv
variable {E : Env} {x sz : Int}
theorem even_brkP {P : List Tok → Prop} {dp : Nat} (h : ∀ ts, P ts → Even dp ts) (b : Bool) {ts : List Tok} (hb : Brk b P ts) : Even (dp + if b then 1 else 0) ts := by
  cases b with
  | false => exact h ts hb
  | true =>
    simp only [Brk, if_true] at hb
    obtain ⟨k, us, k', rfl, hk, hk', hu⟩ := hb
    exact even_brk (h us hu) hk hk'
theorem even_num {n : Int} {ts : List Tok} (h : NumTok n ts) : Even 0 ts := by
  unfold NumTok at h
  split at h
  · obtain ⟨k, m, rfl, hk, _, hm, _⟩ := h
    exact even_cons (by rw [hk]; decide) (by rw [hk]; decide) (even_one (by rw [hm]; decide) (by rw [hm]; decide))
  · obtain ⟨m, rfl, hm, _⟩ := h
    exact even_one (by rw [hm]; decide) (by rw [hm]; decide)
theorem even_tree : ∀ (t : Tr) (ts : List Tok), TokT x t ts → Even t.deep ts
  | .num n, _, ⟨k, e, hk, _⟩ => by rw [e]; exact even_one (by rw [hk]; decide) (by rw [hk]; decide)
  | .alone s, _, ⟨k, e, hk, _⟩ => by rw [e]; exact even_one (by rw [hk]; decide) (by rw [hk]; decide)
  | .sym p a n, _, ⟨k, us, e, hk, _, hp⟩ => by
    rw [e]
    unfold PowTok at hp
    split at hp
    · rw [hp]
      exact even_one (by rw [hk]; decide) (by rw [hk]; decide)
    · refine even_cons (by rw [hk]; decide) (by rw [hk]; decide) ?_
      split at hp
      · obtain ⟨k6, vs, rfl, hk6, hv⟩ := hp
        exact even_cons (by rw [hk6]; decide) (by rw [hk6]; decide) (even_num hv)
      · exact even_num hp
  | .note t s, _, ⟨us, k, e, hb, hk, _⟩ => by
    rw [e]
    have h1 := even_brkP (even_tree t) _ hb
    have h2 := even_app h1 (even_one (k := k) (by rw [hk]; decide) (by rw [hk]; decide))
    rwa [Nat.max_zero] at h2
  | .inv t, _, ⟨k, us, e, hk, hb⟩ => by
    rw [e]
    exact even_cons (by rw [hk]; decide) (by rw [hk]; decide) (even_brkP (even_tree t) _ hb)
  | .bin o l r, _, ⟨us, k, vs, e, hl, hk, hb⟩ => by
    rw [e]
    have hk7 : k.kind ≠ 7 := by rw [hk]; split <;> decide
    have hk8 : k.kind ≠ 8 := by rw [hk]; split <;> decide
    have := even_app (even_tree l us hl) (even_cons hk7 hk8 (even_brkP (even_tree r) _ hb))
    rw [Nat.max_comm] at this
    exact this
end Go.Pv
