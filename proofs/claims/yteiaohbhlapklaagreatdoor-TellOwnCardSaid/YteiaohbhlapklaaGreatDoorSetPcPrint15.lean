/- A part of the proof: functions of the program in the evaluator's code, and what they come to. Conditions: none; definitions and theorems that the statement's proof uses. -/
import Derived.Test.YteiaohbhlapklaaGreatDoorSetPcPrint14
import Derived.Test.YteiaohbhlapklaaGreatDoorSetPcPrint9
/- What is told is printed; the reference's printer. Conditions: the functions' codes; theorems. -/
namespace Go.Pv
variable {E:Env} {x:Int}
theorem miss_both:∀ (a b:List StepA) (i:Nat),missD x a i = none→(∀ j,missD x b j = none)→missD x (a++b) i = none
 | [],b,i,_,h=>h i
 | s :: a,b,i,h1,h=>by
  simp only [List.cons_append,missD] at h1 ⊢
  split at h1
  ·cases h1
  ·exact miss_both a b (i + 1) h1 h
theorem miss_last {s:StepA} (h:badD x s = none) (i:Nat):missD x [s] i = none:=by simp only [missD,h]
theorem miss_told {t:Tr} (ht:TrOk t):t.told x→∀ i:Nat,missD x t.steps i = none:=by
 induction ht with
 | num n h1=>exact fun _ i=>miss_last rfl i
 | sym p a n a0 a1 p0 p1 n0 n1 hm=>exact fun h i=>miss_last (by have h':toldD x p a = true:=h; simp [badD,h']) i
 | alone s h1 h2=>exact fun h i=>miss_last (by have h':plain x s = true:=h; simp [badD,h']) i
 | note t s _ h1 h2 ih=>exact fun h i=>miss_both _ _ i (ih h.1 i) (miss_last (by simp [badD,h.2]))
 | inv t _ ih=>exact fun h i=>miss_both _ _ i (ih h i) (miss_last rfl)
 | bin o l r ho _ _ ih1 ih2=>
  exact fun h i=>miss_both _ _ i (miss_both _ _ i (ih1 h.1 i) (fun j=>ih2 h.2 j)) (miss_last (by rcases ho with rfl | rfl <;> rfl))
theorem printD_told {t:Tr} (ht:TrOk t) (h:t.told x) (hd:t.deep ≤ 32) (hl:(ptext x t).length ≤ 255):printD x t = (ptext x t,0,0):=by
 unfold printD
 rw [miss_told ht h 0]
 simp only
 rw [if_neg (by omega),if_neg (by omega)]
theorem ref236_eq (H:Has 236 E) (hn:isN x = true) {t:Tr} (ht:TrOk t) (hf:t.fits) (hl:t.steps.length ≤ 255) {v:AV} (hv:TreeV v t.steps):EvClosed E (.fn (.func 236) [] []) [.int .i64 x,v] = some (.agg (prtV (printD x t).1 (printD x t).2.1 (printD x t).2.2)):=by
 obtain ⟨v',sv,hv'⟩:=tree_shut hv
 rw [EvClosed_eq H.c236 rfl (vs:=[.int .i64 x,v']) (by simp [sv]),EvFn_eq]
 have hp:=print_eq (H.to 162) hn ht hf hl hv'
 simp only [prtV] at hp ⊢
 simp [f236,start,EvCall_closed H.c162 rfl,hp,push_setk]
end Go.Pv
