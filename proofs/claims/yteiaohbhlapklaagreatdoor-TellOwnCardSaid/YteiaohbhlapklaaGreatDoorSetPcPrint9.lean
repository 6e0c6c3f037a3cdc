/- A part of the proof: functions of the program in the evaluator's code, and what they come to. Conditions: none; definitions and theorems that the statement's proof uses. -/
import Derived.Test.YteiaohbhlapklaaGreatDoorSetPcBack4
/- A tree's first step that can't be told. Conditions: the functions' codes; theorems. -/
namespace Go.Pv
variable {E:Env} {x:Int}
theorem miss_at {t:List StepA}:∀ {i j:Nat} {e:Int},missD x t i = some (j,e)→i ≤ j∧∃ s,t[j - i]? = some s∧badD x s = some e:=by
 induction t with
 | nil=>intro i j e h; cases h
 | cons s r ih=>
  intro i j e h
  simp only [missD] at h
  split at h
  ·rename_i e' he
   cases h
   exact ⟨Nat.le_refl _,s,by simp,he⟩
  ·obtain ⟨h1,s',h2,h3⟩:=ih h
   refine ⟨by omega,s',?_,h3⟩
   rw [show j - i = (j - (i + 1)) + 1 by omega,List.getElem?_cons_succ]
   exact h2
theorem bad_17 {s:StepA} (h:badD x s = some 17):(s.op = 6∨s.op = 7)∧plain x s.text = false:=by
 unfold badD at h
 split at h
 ·cases h
 ·split at h
  ·rename_i h1
   simpa using h1
  ·cases h
theorem bad_16 {s:StepA} (h:badD x s = some 16):s.op = 2∧toldD x s.pfx s.atom = false:=by
 unfold badD at h
 split at h
 ·rename_i h1
  simpa using h1
 ·split at h <;> cases h
inductive MissAt (x:Int) (t:Tr):Nat→Int→Prop where
 | note (j:Nat) (o:Int) (w:List UInt8):t.steps[j]? = some ⟨o,-1,0,0,0,w⟩→o = 6∨o = 7→w.length < 1000000→plain x w = false→MissAt x t j 17
 | sym (j:Nat) (p a n:Int):t.steps[j]? = some ⟨2,p,a,n,0,[]⟩→TrOk (.sym p a n)→printD x (.sym p a n) = ([],0,16)→MissAt x t j 16
theorem miss_is {t:Tr} (ht:TrOk t) {j:Nat} {e:Int} (h:missD x t.steps 0 = some (j,e)):MissAt x t j e:=by
 obtain ⟨_,s,h1,h2⟩:=miss_at h
 rw [Nat.sub_zero] at h1
 have hok:=tr_steps ht s (List.mem_of_getElem? h1)
 rcases bad_or h2 with rfl | rfl
 ·obtain ⟨q1,q2⟩:=bad_16 h2
  cases hok with
  | num n _=>cases q1
  | sym p a n a0 a1 p0 p1 n0 n1 hm=>
   refine .sym j p a n h1 (.sym p a n a0 a1 p0 p1 n0 n1 hm) ?_
   unfold printD
   simp only [Tr.steps,missD,h2]
  | op o ho=>rcases ho with rfl | rfl | rfl <;> cases q1
  | text o w ho _ _=>rcases ho with rfl | rfl <;> cases q1
 ·obtain ⟨q1,q2⟩:=bad_17 h2
  cases hok with
  | num n _=>rcases q1 with q | q <;> cases q
  | sym p a n a0 a1 p0 p1 n0 n1 hm=>rcases q1 with q | q <;> cases q
  | op o ho=>rcases ho with rfl | rfl | rfl <;> rcases q1 with q | q <;> cases q
  | text o w ho _ hl=>exact .note j o w h1 ho hl q2
end Go.Pv
