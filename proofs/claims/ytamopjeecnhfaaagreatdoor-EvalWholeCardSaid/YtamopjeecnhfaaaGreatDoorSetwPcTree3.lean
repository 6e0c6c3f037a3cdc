/- A part of the proof: functions of the program in the evaluator's code, and what they come to. Conditions: none; definitions and theorems that the statement's proof uses. -/
import Derived.Test.YtamopjeecnhfaaaGreatDoorSetwPcEv14
import Derived.Test.YtamopjeecnhfaaaGreatDoorSetwPcLex4
import Derived.Test.YtamopjeecnhfaaaGreatDoorSetwPcEv1
/- The trees that are made of numbers. Conditions: the functions' codes; theorems. -/
namespace Go.Pv
variable {E:Env} {h:AHeap} {p:Nat}
theorem symI_steps (l:List Int):∃ q a n,(symI l).1 = .sym q a n:=⟨_,_,_,rfl⟩
theorem madeI_size:∀ (d:Nat) (l:List Int),(madeI d l).1.steps.length + 1 ≤ 2 ^ (d + 1)
 | 0,l=>by
  obtain ⟨q,a,n,hs⟩:=symI_steps (nextI 12 l).2
  simp only [madeI,hs]
  simp [Tr.steps]
 | d + 1,l=>by
  have p1:2 ^ (d + 1 + 1) = 2 ^ (d + 1) + 2 ^ (d + 1):=by rw [Nat.pow_succ]; omega
  have p2:1 ≤ 2 ^ (d + 1):=Nat.one_le_two_pow
  have a1:=madeI_size d (nextI 12 l).2
  have a2:=madeI_size d (madeI d (nextI 12 l).2).2
  obtain ⟨q,a,n,hs⟩:=symI_steps (nextI 12 l).2
  unfold madeI
  split
  ·rw [hs]; simp [Tr.steps]; omega
  ·split
   ·simp [Tr.steps]; omega
   ·split
    ·simp [Tr.steps]; omega
    ·split
     ·simp only [Tr.steps,List.length_append,List.length_cons,List.length_nil]; omega
     ·split
      ·simp only [Tr.steps,List.length_append,List.length_cons,List.length_nil]; omega
      ·simp only [Tr.steps,List.length_append,List.length_cons,List.length_nil]; omega
set_option maxHeartbeats 4000000 in
theorem madeM_ok (H:Has 175 E) {L:List Int}:∀ (d:Nat),d ≤ 4→∀ (h:AHeap) (l:List Int),RW h p L l→∃ h' v,EvCall E (.fn (.func 175) [] []) [.ref p 0,.int .i64 d] h = some (.ret v,h') ∧
  GrowF h.toks.length h' 6 ((madeI d l).1.steps.flatMap StepA.cs) (madeI d l).1.steps.length v∧RW h' p L (madeI d l).2∧Stay p h h':=by
 intro d
 have leaf:∀ (d:Nat) (h:AHeap) (l:List Int),RW h p L l→(d = 0∨(nextI 12 l).1 < 4)→∃ h' v,EvCall E (.fn (.func 175) [] []) [.ref p 0,.int .i64 d] h = some (.ret v,h') ∧
   GrowF h.toks.length h' 6 ((symI (nextI 12 l).2).1.steps.flatMap StepA.cs) (symI (nextI 12 l).2).1.steps.length v∧RW h' p L (symI (nextI 12 l).2).2∧Stay p h h':=by
  intro d h l S hd
  obtain ⟨g1,e1,S1,K1⟩:=nextR_ok (H.to 190) S (n:=12) (by omega) (by omega)
  obtain ⟨g2,q,a,n,e2,hs,S2,K2⟩:=symM_ok (H.to 191) S1
  have hs1:(symI (nextI 12 l).2).1 = .sym q a n:=by rw [hs]
  rw [hs1]
  refine ⟨g2,.vs .full 1 (StepA.cs ⟨2,q,a,n,0,[]⟩),?_,growF_one _ _ _,S2,K1.trans K2⟩
  rw [EvCall_open H.c175 rfl,EvFn_eq]
  simp only [StepA.cs] at e2 ⊢
  generalize (nextI 12 l).1 = k at *
  by_cases hd0:d = 0
  ·subst hd0
   simp [f175,start,e1,e2]
  ·have hk:decide (k < 4) = true:=decide_eq_true (by omega)
   have hd1:((d:Int) == 0) = false:=by simp; omega
   simp [f175,start,e1,e2,hd1,hk]
 induction d with
 | zero=>
  intro _ h l S
  exact leaf 0 h l S (.inl rfl)
 | succ d ih=>
  intro hd4 h l S
  have ih:=ih (by omega)
  have hsz:=madeI_size d (nextI 12 l).2
  have hsz2:=madeI_size d (madeI d (nextI 12 l).2).2
  have hpw:2 ^ (d + 1) ≤ 16:=by
   have:d = 0∨d = 1∨d = 2∨d = 3:=by omega
   rcases this with rfl | rfl | rfl | rfl <;> decide
  obtain ⟨g1,e1,S1,K1⟩:=nextR_ok (H.to 190) S (n:=12) (by omega) (by omega)
  have hr:=nextI_range (n:=12) (by omega) l
  have hd1:((d:Int) + 1 == 0) = false:=by simp; omega
  have hd2:¬ ((d:Int) + 1 = 0):=by omega
  have cd:((d + 1:Nat):Int) = (d:Int) + 1:=by omega
  have w:IntKind.i64.wrap ((d:Int) + 1 - 1) = (d:Int):=by rw [Int.add_sub_cancel]; exact w64
  have w':IntKind.i64.wrap (d:Int) = (d:Int):=w64
  unfold madeI
  by_cases h4:(nextI 12 l).1 < 4
  ·rw [if_pos h4]
   exact leaf (d + 1) h l S (.inr h4)
  ·rw [if_neg h4]
   have k4:decide ((nextI 12 l).1 < 4) = false:=decide_eq_false h4
   cases q4:(nextI 12 l).1 == 4 with
   | true=>
    obtain ⟨g2,e2,S2,K2⟩:=nextR_ok (H.to 190) S1 (n:=1200) (by omega) (by omega)
    have hr2:=nextI_range (n:=1200) (by omega) (nextI 12 l).2
    have wn:IntKind.i64.wrap (1 + (nextI 1200 (nextI 12 l).2).1) = 1 + (nextI 1200 (nextI 12 l).2).1:=w64
    simp only [if_true]
    refine ⟨g2,.vs .full 1 (StepA.cs ⟨1,-1,0,0,1 + (nextI 1200 (nextI 12 l).2).1,[]⟩),?_,growF_one _ _ _,S2,K1.trans K2⟩
    rw [EvCall_open H.c175 rfl,EvFn_eq]
    generalize (nextI 12 l).1 = k at *
    simp [f175,start,e1,hd1,cd,k4,q4,e2,wn,StepA.cs]
   | false=>
    simp only [Bool.false_eq_true,if_false]
    cases q5:(nextI 12 l).1 == 5 with
    | true=>
     obtain ⟨g2,e2,S2,K2⟩:=textR_ok (H.to 192) S1
     simp only [if_true]
     refine ⟨g2,.vs .full 1 (StepA.cs ⟨7,-1,0,0,0,(textI (nextI 12 l).2).1⟩),?_,growF_one _ _ _,S2,K1.trans K2⟩
     rw [EvCall_open H.c175 rfl,EvFn_eq]
     generalize (nextI 12 l).1 = k at *
     simp [f175,start,e1,hd1,cd,k4,q4,q5,e2,StepA.cs]
    | false=>
     simp only [Bool.false_eq_true,if_false]
     obtain ⟨g2,v2,e2,G2,S2,K2⟩:=ih g1 (nextI 12 l).2 S1
     have KK:=K1.trans K2
     have G2':=G2.low (k1:=h.toks.length) K1.tlen
     have hpos:=Tr.steps_pos (madeI d (nextI 12 l).2).1
     cases q6:(nextI 12 l).1 == 6 with
     | true=>
      simp only [if_true]
      obtain ⟨g3,e3,S3,K3⟩:=textR_ok (H.to 192) S2
      have hs:sliceCells g3 6 (.vs .full 1 (StepA.cs ⟨6,-1,0,0,0,(textI (madeI d (nextI 12 l).2).2).1⟩)) = some (1,StepA.cs ⟨6,-1,0,0,0,(textI (madeI d (nextI 12 l).2).2).1⟩):=by simp [sliceCells,StepA.len]
      obtain ⟨ts,v4,a1,G4,K4,ht⟩:=growF_app (bytes:=56) (G2'.keep K3) rfl (KK.trans K3) S3.rot (by omega) hpos (by omega) (by omega) hs (by simp [StepA.len]) (StepA.all _)
      refine ⟨_,v4,?_,by simpa [Tr.steps] using G4,S3.toks ht,K4⟩
      rw [EvCall_open H.c175 rfl,EvFn_eq]
      simp only [StepA.cs] at a1
      generalize (nextI 12 l).1 = k at *
      simp [-den,f175,start,e1,hd1,cd,k4,q4,q5,q6,w',e2,e3,a1]
     | false=>
      simp only [Bool.false_eq_true,if_false]
      cases q7:(nextI 12 l).1 == 7 with
      | true=>
       simp only [if_true]
       have hs:sliceCells g2 6 (.vs .full 1 (StepA.cs ⟨5,-1,0,0,0,[]⟩)) = some (1,StepA.cs ⟨5,-1,0,0,0,[]⟩):=by simp [sliceCells,StepA.len]
       obtain ⟨ts,v4,a1,G4,K4,ht⟩:=growF_app (bytes:=56) G2' rfl KK S2.rot (by omega) hpos (by omega) (by omega) hs (by simp [StepA.len]) (StepA.all _)
       refine ⟨_,v4,?_,by simpa [Tr.steps,stepO] using G4,S2.toks ht,K4⟩
       rw [EvCall_open H.c175 rfl,EvFn_eq]
       simp only [StepA.cs] at a1
       generalize (nextI 12 l).1 = k at *
       simp [-den,f175,start,e1,hd1,cd,k4,q4,q5,q6,q7,w',e2,a1]
      | false=>
       simp only [Bool.false_eq_true,if_false]
       obtain ⟨g3,v3,e3,G3,S3,K3⟩:=ih g2 (madeI d (nextI 12 l).2).2 S2
       obtain ⟨hs,hsl⟩:=G3.slice (g:=g3)
       have hpos3:=Tr.steps_pos (madeI d (madeI d (nextI 12 l).2).2).1
       obtain ⟨ts,v4,a1,G4,K4,ht⟩:=growF_app (bytes:=56) (G2'.keep K3) rfl (KK.trans K3) S3.rot (by omega) hpos (by omega) (by omega) hs hsl (all_flat StepA.all _)
       have S4:=S3.toks ht
       have fin:∀ o:Int,(if (nextI 12 l).1 > 9 then (4:Int) else 3) = o→(decide (9 < (nextI 12 l).1) = (o == 4))→(o = 3∨o = 4)→∃ h' v,EvCall E (.fn (.func 175) [] []) [.ref p 0,.int .i64 ((d + 1:Nat):Int)] h = some (.ret v,h') ∧
         GrowF h.toks.length h' 6 ((Tr.bin o (madeI d (nextI 12 l).2).1 (madeI d (madeI d (nextI 12 l).2).2).1).steps.flatMap StepA.cs) (Tr.bin o (madeI d (nextI 12 l).2).1 (madeI d (madeI d (nextI 12 l).2).2).1).steps.length v∧RW h' p L (madeI d (madeI d (nextI 12 l).2).2).2∧Stay p h h':=by
        intro o ho h9 ho2
        have hs2:sliceCells (g3.toks_ ts) 6 (.vs .full 1 (StepA.cs ⟨o,-1,0,0,0,[]⟩)) = some (1,StepA.cs ⟨o,-1,0,0,0,[]⟩):=by simp [sliceCells,StepA.len]
        obtain ⟨us,v5,a2,G5,K5,ht2⟩:=growF_app (bytes:=56) G4 rfl K4 S4.rot (by omega) (by omega) (by omega) (by omega) hs2 (by simp [StepA.len]) (StepA.all _)
        refine ⟨_,v5,?_,by simpa [Tr.steps,stepO,Nat.add_assoc] using G5,S4.toks ht2,K5⟩
        rw [EvCall_open H.c175 rfl,EvFn_eq]
        simp only [StepA.cs] at a2
        generalize (nextI 12 l).1 = k at *
        rcases ho2 with rfl | rfl
        ·have h9':decide (9 < k) = false:=h9
         simp [-den,f175,start,e1,hd1,cd,k4,q4,q5,q6,q7,w',e2,e3,a1,h9',a2]
        ·have h9':decide (9 < k) = true:=h9
         simp [-den,f175,start,e1,hd1,cd,k4,q4,q5,q6,q7,w',e2,e3,a1,h9',a2]
       by_cases h9:(nextI 12 l).1 > 9
       ·rw [if_pos h9] at fin ⊢
        exact fin 4 rfl (by rw [decide_eq_true h9]; rfl) (.inr rfl)
       ·rw [if_neg h9] at fin ⊢
        exact fin 3 rfl (by rw [decide_eq_false h9]; rfl) (.inl rfl)
theorem ints_shut {v:AV} {L:List Int} (hv:IntsV v L):∃ v',shut 0 0 v = some v'∧IntsV v' L:=by
 have hs:shutL 0 0 (L.map (AV.int .i64)) = some (L.map (AV.int .i64)):=shutL_map (fun i=>by simp) L
 rcases hv with ⟨rfl,rfl⟩ | ⟨own,rfl⟩
 ·exact ⟨.nils,by simp,.inl ⟨rfl,rfl⟩⟩
 ·exact ⟨.vs (match own with | .tok k sz=>if k < 0 then .tok k sz else .shared | o=>o) L.length (L.map (.int .i64)),by cases own <;> simp [hs],.inr ⟨_,rfl⟩⟩
theorem made_run (H:Has 163 E) {v:AV} {L:List Int} (hv:IntsV v L) (hL:L.length ≤ 120):∃ h' w,EvCall E (.fn (.func 175) [] []) [.ref 0 0,.int .i64 4] (heap0.push (.cells [v,.int .i64 0])) = some (.ret w,h')∧shut 0 0 w = some (stepsV (madeI 4 L).1.steps):=by
 have S:RW (heap0.push (.cells [v,.int .i64 0])) 0 L L:=⟨⟨0,v,Nat.zero_le _,rfl,hv,by simp⟩,rfl,Nat.le_refl _,by omega⟩
 obtain ⟨h',w,e,G,_⟩:=madeM_ok (H.to 175) 4 (Nat.le_refl _) _ L S
 exact ⟨h',w,e,growF_shut G⟩
theorem made_eq (H:Has 163 E) {v:AV} {L:List Int} (hv:IntsV v L):EvClosed E (.fn (.func 163) [] []) [v] = some (stepsV (madeT L).steps):=by
 obtain ⟨v',sv,hv'⟩:=ints_shut hv
 rw [EvClosed_eq H.c163 rfl (vs:=[v']) (by simp [sv]),EvFn_eq]
 unfold madeT
 by_cases h120:L.length ≤ 120
 ·obtain ⟨h',w,e,hw⟩:=made_run H hv' h120
  rw [List.take_of_length_le h120]
  rcases hv' with ⟨rfl,rfl⟩ | ⟨own,rfl⟩
  ·simp [f163,start,e,hw]
  ·have d:decide (120 < (L.length:Int)) = false:=decide_eq_false (by omega)
   simp [f163,start,d,e,hw]
 ·rcases hv' with ⟨rfl,rfl⟩ | ⟨own,rfl⟩
  ·simp at h120
  ·have d:decide (120 < (L.length:Int)) = true:=decide_eq_true (by omega)
   have d2:(120:Int) ≤ (L.length:Int):=by omega
   have hne:¬ 120 = L.length:=by omega
   have hl2:(L.take 120).length = 120:=by rw [List.length_take]; omega
   obtain ⟨h',w,e,hw⟩:=made_run H (v:=.vs .shared 120 ((L.take 120).map (.int .i64))) (L:=L.take 120) (.inr ⟨.shared,by rw [hl2]⟩) (by omega)
   rw [List.map_take] at e
   cases own <;> simp [f163,start,d,d2,hne,e,hw]
end Go.Pv
/- What the reference's texts of symbols come to, all of them, their row, a rank. Conditions: the functions' codes; theorems. -/
namespace Go.Pv
variable {E:Env} {B:Tb} {n:Nat}
end Go.Pv
/- No code of the tables is long. Conditions: none; theorems. -/
namespace Go.Pv
end Go.Pv
/- The reference's text of a tree: symbols, powers. Conditions: the functions' codes; theorems. -/
namespace Go.Pv
variable {E:Env}
def symD (x p a:Int):List UInt8:=symText (x - 1).toNat refB.L refB.Q p a.toNat
end Go.Pv
/- The reference's text of a tree. Conditions: the functions' codes; theorems. -/
namespace Go.Pv
variable {E:Env}
def Tr.fits:Tr→Prop
 | .num n=>n ≤ 9223372036854775807
 | .sym _ _ _=>True
 | .alone _=>True
 | .note t _=>t.fits
 | .inv t=>t.fits
 | .bin _ l r=>l.fits∧r.fits
end Go.Pv
/- The reference's text of a tree, of parts. Conditions: the functions' codes; theorems. -/
namespace Go.Pv
variable {E:Env}
end Go.Pv
/- What the reference prints. Conditions: the functions' codes; theorems. -/
namespace Go.Pv
variable {E:Env}
def toldD (x p a:Int):Bool:=toldB (x - 1).toNat atomsT prefsT (symD x p a) p a
end Go.Pv
/- What the reference prints, and of trees that are made of numbers. Conditions: the functions' codes; theorems. -/
namespace Go.Pv
variable {E:Env}
theorem symI_ok (l:List Int):TrOk (symI l).1∧(symI l).1.fits:=by
 refine ⟨?_,trivial⟩
 have a1:=nextI_range (n:=atomsT.length) (by decide) l
 unfold symI
 generalize nextI atomsT.length l = a at *
 dsimp only
 generalize (if metricT a.1 = true then nextI 2 a.2 else (1,a.2)) = c
 have hq:-1 ≤ (if (metricT a.1 && c.1 == 0) = true then nextI prefsT.length c.2 else (-1,c.2)).1∧(if (metricT a.1 && c.1 == 0) = true then nextI prefsT.length c.2 else (-1,c.2)).1 < prefsT.length∧((if (metricT a.1 && c.1 == 0) = true then nextI prefsT.length c.2 else (-1,c.2)).1 = -1∨metricT a.1 = true):=by
  split
  ·rename_i h
   have:=nextI_range (n:=prefsT.length) (by decide) c.2
   have hm:metricT a.1 = true:=by simp only [Bool.and_eq_true] at h; exact h.1
   exact ⟨by omega,this.2,.inr hm⟩
  ·exact ⟨by simp,(by decide:(-1:Int) < prefsT.length),.inl rfl⟩
 generalize (if (metricT a.1 && c.1 == 0) = true then nextI prefsT.length c.2 else (-1,c.2)) = q at *
 generalize nextI 3 q.2 = d
 have hd:-99 ≤ (if (d.1 == 0) = true then ((nextI 7 d.2).1 - 3,(nextI 7 d.2).2) else (1,d.2)).1∧(if (d.1 == 0) = true then ((nextI 7 d.2).1 - 3,(nextI 7 d.2).2) else (1,d.2)).1 ≤ 99:=by
  split
  ·have:=nextI_range (n:=7) (by decide) d.2
   dsimp only
   omega
  ·dsimp only
   omega
 exact .sym _ _ _ a1.1 a1.2 hq.1 hq.2.1 hd.1 hd.2 hq.2.2
theorem notes_ok:∀ s ∈ notesL,printB s = true∧s.length < 1000000:=by decide
theorem textI_ok (l:List Int):printB (textI l).1 = true∧(textI l).1.length < 1000000:=by
 have h:=nextI_range (n:=5) (by decide) l
 simp only [textI]
 generalize (nextI 5 l).1 = k at *
 have hk:k.toNat < notesL.length:=by simp [notesL]; omega
 rw [List.getD_eq_getElem?_getD,List.getElem?_eq_getElem hk]
 exact notes_ok _ (List.getElem_mem hk)
theorem madeI_ok:∀ (d:Nat) (l:List Int),TrOk (madeI d l).1∧(madeI d l).1.fits
 | 0,l=>symI_ok _
 | d + 1,l=>by
  have i1:=madeI_ok d (nextI 12 l).2
  have i2:=madeI_ok d (madeI d (nextI 12 l).2).2
  have n1:=nextI_range (n:=1200) (by decide) (nextI 12 l).2
  unfold madeI
  split
  ·exact symI_ok _
  ·split
   ·exact ⟨.num _ (by omega),by simp only [Tr.fits]; omega⟩
   ·split
    ·exact ⟨.alone _ (textI_ok _).1 (textI_ok _).2,trivial⟩
    ·split
     ·exact ⟨.note _ _ i1.1 (textI_ok _).1 (textI_ok _).2,i1.2⟩
     ·split
      ·exact ⟨.inv _ i1.1,i1.2⟩
      ·exact ⟨.bin _ _ _ (by split <;> simp) i1.1 i2.1,i1.2,i2.2⟩
theorem madeT_ok (l:List Int):TrOk (madeT l)∧(madeT l).fits∧(madeT l).steps.length ≤ 255:=by
 have h1:=madeI_ok 4 (l.take 120)
 have h2:=madeI_size 4 (l.take 120)
 exact ⟨h1.1,h1.2,by simp only [madeT]; omega⟩
end Go.Pv
/- What is printed, in tokens. Conditions: none; definitions and theorems. -/
namespace Go.Pv
variable {x:Int}
def NJ (x:Int) (r:List UInt8):Prop:=∀ c s,r = c :: s→kind x c ≠ 1∧kind x c ≠ 2
theorem NJ.nil:NJ x []:=fun _ _ h=>by cases h
theorem NJ.cons {c:UInt8} {s:List UInt8} (h1:kind x c ≠ 1) (h2:kind x c ≠ 2):NJ x (c :: s):=fun _ _ h=>by cases h; exact ⟨h1,h2⟩
end Go.Pv
/- The tokens of what is printed. Conditions: none; definitions and theorems. -/
namespace Go.Pv
variable {x:Int}
def Tr.told (x:Int):Tr→Prop
 | .num _=>True
 | .sym p a _=>toldD x p a = true
 | .alone s=>plain x s = true
 | .note t s=>t.told x∧plain x s = true
 | .inv t=>t.told x
 | .bin _ l r=>l.told x∧r.told x
end Go.Pv
/- What is printed is parsed to the same tree. Conditions: none; theorems. -/
namespace Go.Pv
variable {x sz:Int}
def Stop (rest:List Tok):Prop:=isT 2 rest = false∧isT 3 rest = false∧isT 6 rest = false
variable {inner:List Tok→Option Tok→Res (List StepA)}
end Go.Pv
/- What is printed is parsed to the same tree. Conditions: none; theorems. -/
namespace Go.Pv
variable {x sz:Int}
end Go.Pv
/- The eval laws: what is common. Conditions: the functions' codes; theorems. -/
namespace Go.Pv
variable {E:Env}
def wL (w:Wo):List Int:=[w.f.num,w.f.den,w.f.ten]++w.d++[w.tag]
def lW:Except Int Wo→List Int
 | .ok w=>wL w
 | .error _=>[0,0,0,0,0,0,0,0,0,0,0]
def eW:Except Int Wo→Int
 | .ok _=>0
 | .error e=>e
def iC (l:List Int):List AV:=l.map (.int .i64)
abbrev k11:List CellK:=[.int,.int,.int,.int,.int,.int,.int,.int,.int,.int,.int]
theorem wL_C (w:Wo):w.C = iC (wL w):=by simp [Wo.C,fcC,dC,iC,wL]
theorem rsW_l (r:Except Int Wo):rsW r = .tuple [.agg (iC (lW r)),.int .i64 (eW r)]:=by
 cases r with
 | ok w=>rw [rsW_ok,wL_C]; rfl
 | error e=>rfl
theorem gtW_l (r:Except Int Wo):gtW r = .agg (iC (lW r)++[.int .i64 (eW r)]):=by
 cases r with
 | ok w=>rw [gtW_ok,wL_C]; rfl
 | error e=>rfl
theorem lW_len {r:Except Int Wo} (h:∀ w,r = .ok w→WoOk w):(lW r).length = 11:=by
 cases r with
 | ok w=>simp [lW,wL,(h w rfl).len]
 | error e=>rfl
theorem iC_len (l:List Int):(iC l).length = l.length:=by simp [iC]
theorem iC_all (l:List Int):(iC l).all AV.isCell = true:=by simp [iC]
theorem iC_shut:∀ l,shutL 0 0 (iC l) = some (iC l)
 | []=>rfl
 | x :: l=>by
  have:=iC_shut l
  simp only [iC] at this ⊢
  simp [this]
theorem eqC:∀ (n:Nat) (a b:List Int),a.length = n→b.length = n→eqCells (List.replicate n .int) (iC a) (iC b) = some (decide (a = b))
 | 0,[],[],_,_=>rfl
 | n + 1,x :: a,y :: b,ha,hb=>by
  have:=eqC n a b (by simpa using ha) (by simpa using hb)
  simp only [iC] at this
  simp only [iC,List.map_cons,List.replicate_succ,eqCells,this,eqCellK,if_true]
  by_cases h:x = y
  ·subst h; simp
  ·simp [h]
theorem eq11 {a b:List Int} (ha:a.length = 11) (hb:b.length = 11):eqCells k11 (iC a) (iC b) = some (decide (a = b)):=eqC 11 a b ha hb
theorem eq11s {a:List Int} (ha:a.length = 11):eqCells k11 (iC a) (iC a) = some true:=by rw [eq11 ha ha]; simp
structure RsF (r:Except Int Wo) (cs:List AV) (e:Int):Prop where
 rs:rsW r = .tuple [.agg cs,.int .i64 e]
 gt:gtW r = .agg (cs++[.int .i64 e])
 len:cs.length = 11
 all:cs.all AV.isCell = true
 take:cs.take 11 = cs
 set:setCells 0 cs z11C = cs
 eq:eqCells k11 cs cs = some true
 shut:shutL 0 0 cs = some cs
theorem rs_f {r:Except Int Wo} (h:∀ w,r = .ok w→WoOk w):RsF r (iC (lW r)) (eW r):=by
 have hl:=lW_len h
 have hc:(iC (lW r)).length = 11:=by rw [iC_len,hl]
 exact ⟨rsW_l r,gtW_l r,hc,iC_all _,List.take_of_length_le (by omega),set_11 hc,eq11s hl,iC_shut _⟩
def aw1:Tr:=.bin 4 (.sym 12 8 1) (.sym (-1) 29 1)
def aw2:Tr:=.bin 3 (.sym (-1) 21 1) (.sym (-1) 0 1)
theorem aw1p:parseP 1 [109,109,111,108,47,108] = ⟨aw1.steps,0,6,0⟩:=by decide +kernel
theorem aw2p:parseP 1 [67,101,108,46,109] = ⟨aw2.steps,0,5,0⟩:=by decide +kernel
def isOk (r:Except Int Wo) (v:Wo):Bool:=match r with | .ok w=>decide (w = v) | .error _=>false
theorem isOk_eq {r:Except Int Wo} {v:Wo} (h:isOk r v = true):r = .ok v:=by
 cases r with
 | ok w=>rw [of_decide_eq_true h]
 | error e=>cases h
def isErr (r:Except Int Wo) (e:Int):Bool:=match r with | .ok _=>false | .error e'=>decide (e' = e)
theorem isErr_eq {r:Except Int Wo} {e:Int} (h:isErr r e = true):r = .error e:=by
 cases r with
 | ok w=>cases h
 | error e'=>rw [of_decide_eq_true h]
theorem aw1e:evalR aw1.steps = .ok ⟨⟨602214076,1,15⟩,[-3,0,0,0,0,0,0],0⟩:=isOk_eq (by decide +kernel)
theorem aw2e:evalR aw2.steps = .error 18:=isErr_eq (by decide +kernel)
theorem numOk_few {t:List StepA} (h:t.all (fun s=>decide (s.num.natAbs ≤ 9223372036854775807) && decide (s.text.length < 1000000)) = true):NumOk t:=by
 intro s hs
 have:=List.all_eq_true.1 h s hs
 simpa using this
set_option maxRecDepth 20000 in
theorem awake278_eq (H:Has 278 E):EvClosed E (.fn (.func 278) [] []) [] = some (.bool true):=by
 rw [EvClosed_eq H.c278 rfl (vs:=[]) (by simp),EvFn_eq]
 have h1:=parse_eq (H.to 20) 1 [109,109,111,108,47,108] (by simp)
 have h2:=parse_eq (H.to 20) 1 [67,101,108,46,109] (by simp)
 rw [aw1p] at h1
 rw [aw2p] at h2
 simp only [Psd.cs] at h1 h2
 have e1:=eval283 (H.to 283) (stepsV_tree aw1.steps) (by decide) (numOk_few (by decide))
 have e2:=eval283 (H.to 283) (stepsV_tree aw2.steps) (by decide) (numOk_few (by decide))
 rw [aw1e,rsW_l] at e1
 rw [aw2e,rsW_l] at e2
 simp only [lW,wL,eW,iC,List.cons_append,List.nil_append,List.map_cons,List.map_nil,show ((1:Nat):Int) = 1 from rfl] at e1 e2
 have c1:=stepsV_cell aw1.steps
 have c2:=stepsV_cell aw2.steps
 generalize stepsV aw1.steps = v1 at *
 generalize stepsV aw2.steps = v2 at *
 simp [f278,start,EvCall_closed H.c20 rfl,EvCall_closed H.c283 rfl,h1,h2,e1,e2,push_setk]
end Go.Pv
/- The laws EvalBases and EvalNotes. Conditions: the functions' codes; theorems. -/
namespace Go.Pv
variable {E:Env}
theorem walk_tree {t:Tr} (ht:TrOk t):∀ (n:Int) (r:List StepA),0 ≤ n→walkB n (t.steps++r) = walkB (n + 1) r:=by
 induction ht with
 | num k h1=>
  intro n r hn
  simp [Tr.steps,walkB,mayB,takesI,h1,hn]
 | sym p a k h1 h2 h3 h4 h5 h6 h7=>
  intro n r hn
  have:symB p a k = true:=by
   unfold symB
   simp only [Bool.and_eq_true,decide_eq_true_eq,Bool.or_eq_true,beq_iff_eq]
   exact ⟨h1,h2,h3,h4,h5,h6,h7⟩
  simp [Tr.steps,walkB,mayB,takesI,this,hn]
 | alone s h1 h2=>
  intro n r hn
  simp [Tr.steps,walkB,mayB,takesI,h1,hn]
 | note t s h1 h2 h3 ih=>
  intro n r hn
  rw [Tr.steps,List.append_assoc,ih n _ hn]
  have hd:(1:Int) ≤ n + 1:=by omega
  have he:n + 1 - 1 + 1 = n + 1:=by omega
  simp [walkB,mayB,takesI,h2,hd]
 | inv t h1 ih=>
  intro n r hn
  rw [Tr.steps,List.append_assoc,ih n _ hn]
  have hd:(1:Int) ≤ n + 1:=by omega
  have he:n + 1 - 1 + 1 = n + 1:=by omega
  simp [walkB,stepO,mayB,takesI,hd]
 | bin o l r ho h1 h2 ihl ihr=>
  intro n q hn
  rw [Tr.steps,List.append_assoc,List.append_assoc,ihl n _ hn,ihr (n + 1) _ (by omega)]
  have hd:(2:Int) ≤ n + 1 + 1:=by omega
  have he:n + 1 + 1 - 2 + 1 = n + 1:=by omega
  rcases ho with rfl | rfl <;> simp [walkB,stepO,mayB,takesI,hd,he]
theorem sound_steps {t:Tr} (ht:TrOk t) (hl:t.steps.length ≤ 255):soundB t.steps = true:=by
 have:=walk_tree ht 0 [] (by omega)
 rw [List.append_nil] at this
 unfold soundB
 rw [this]
 simp [walkB,hl]
theorem tr_texts {t:Tr} (ht:TrOk t):∀ s ∈ t.steps,s.text.length < 1000000:=by
 intro s hs
 have:=tr_steps ht s hs
 cases this <;> simp_all
theorem fits_num {t:Tr} (ht:TrOk t) (hf:t.fits):∀ s ∈ t.steps,s.num.natAbs ≤ 9223372036854775807:=by
 induction ht with
 | num k h1=>
  intro s hs
  simp only [Tr.fits] at hf
  simp only [Tr.steps,List.mem_singleton] at hs
  subst hs
  show k.natAbs ≤ _
  omega
 | sym p a k _ _ _ _ _ _ _=>
  intro s hs
  simp only [Tr.steps,List.mem_singleton] at hs
  subst hs
  show (0:Int).natAbs ≤ _
  decide
 | alone s _ _=>
  intro s hs
  simp only [Tr.steps,List.mem_singleton] at hs
  subst hs
  show (0:Int).natAbs ≤ _
  decide
 | note t s _ _ _ ih=>
  intro x hx
  simp only [Tr.steps,List.mem_append,List.mem_singleton] at hx
  rcases hx with hx | rfl
  ·exact ih hf x hx
  ·show (0:Int).natAbs ≤ _
   decide
 | inv t _ ih=>
  intro x hx
  simp only [Tr.steps,List.mem_append,List.mem_singleton] at hx
  rcases hx with hx | rfl
  ·exact ih hf x hx
  ·show (0:Int).natAbs ≤ _
   decide
 | bin o l r _ _ _ ihl ihr=>
  intro x hx
  simp only [Tr.steps,List.mem_append,List.mem_singleton] at hx
  rcases hx with (hx | hx) | rfl
  ·exact ihl hf.1 x hx
  ·exact ihr hf.2 x hx
  ·show (0:Int).natAbs ≤ _
   decide
theorem tree_num {t:Tr} (ht:TrOk t) (hf:t.fits):NumOk t.steps:=fun s hs=>⟨fits_num ht hf s hs,tr_texts ht s hs⟩
end Go.Pv
