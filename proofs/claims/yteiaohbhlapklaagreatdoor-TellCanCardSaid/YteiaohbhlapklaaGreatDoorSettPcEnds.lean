/- A part of the proof: functions of the program in the evaluator's code, and what they come to. Conditions: none; definitions and theorems that the statement's proof uses. -/
import Derived.Test.YteiaohbhlapklaaGreatDoorSettPcPrint7
import Derived.Test.YteiaohbhlapklaaGreatDoorSettPcLex8
import Derived.Test.YteiaohbhlapklaaGreatDoorSettPcSym4
import Derived.Test.YteiaohbhlapklaaGreatDoorSettPcTree10
import Derived.Test.YteiaohbhlapklaaGreatDoorSettPcTree5
/- ParseEnds is true. Conditions: the functions' codes; theorems. -/
namespace Go.Pv
variable {E:Env} {x sz:Int}
structure Prt (x:Int) (t:Tr):Prop where
 n:isN x = true
 ok:TrOk t
 fits:t.fits
 told:t.told x
 deep:t.deep ≤ 31
 len:(ptext x t).length ≤ 255
theorem made_deep (L:List Int):(madeT L).deep ≤ 31:=by
 have h1:=madeI_size 4 (L.take 120)
 have h2:=deep_le (madeT L)
 simp only [madeT] at h2 ⊢
 omega
theorem Prt.parse {t:Tr} (P:Prt x t):parseP x (ptext x t) = ⟨t.steps,0,(ptext x t).length,0⟩:=parse_print P.n P.ok P.fits P.told (by have:=P.deep; omega) P.len
theorem Prt.main {t:Tr} (P:Prt x t) (sz:Int):MainOk x sz t:=(tree_ok P.ok P.fits P.told).1
theorem Prt.lex {t:Tr} (P:Prt x t) {q:List UInt8} (hq:NJ x q) (p:Nat):∃ ts,TokT x t ts∧lexG x (ptext x t++q) p = (ts++(lexG x q (p + (ptext x t).length)).1,(lexG x q (p + (ptext x t).length)).2):=lx_tree P.n P.ok P.fits P.told q p hq
end Go.Pv
/- The print laws' examples; PrintBack is true. Conditions: the functions' codes; theorems. -/
namespace Go.Pv
variable {E:Env} {x:Int}
theorem printD_two (hx:isN x = true) (L:List Int):(∃ i e,printD x (madeT L) = ([],i,e)∧(e = 16∨e = 17∨e = 12))∨(printD x (madeT L) = (ptext x (madeT L),0,0)∧Prt x (madeT L)):=by
 obtain ⟨k1,k2,k3⟩:=madeT_ok L
 have hd:=made_deep L
 unfold printD
 cases h:missD x (madeT L).steps 0 with
 | some ie=>
  obtain ⟨i,e⟩:=ie
  refine .inl ⟨i,e,rfl,?_⟩
  rcases miss_er h with rfl | rfl
  ·exact .inl rfl
  ·exact .inr (.inl rfl)
 | none=>
  simp only
  rw [if_neg (by omega)]
  split
  ·exact .inl ⟨0,12,rfl,.inr (.inr rfl)⟩
  ·exact .inr ⟨rfl,hx,k1,k2,told_of _ _ h,hd,by omega⟩
end Go.Pv
/- How deep brackets stand in a text's tokens. Conditions: the functions' codes; theorems. -/
namespace Go.Pv
variable {E:Env} {x sz:Int}
end Go.Pv
/- How deep brackets stand in a printed text's tokens. Conditions: none; theorems. -/
namespace Go.Pv
variable {E:Env} {x sz:Int}
end Go.Pv
/- How many brackets a text has. Conditions: the functions' codes; theorems. -/
namespace Go.Pv
variable {E:Env} {x:Int}
def leftC:List Tok→Nat
 | []=>0
 | k :: r=>(if k.kind = 7 then 1 else 0) + leftC r
theorem left_app:∀ (a b:List Tok),leftC (a++b) = leftC a + leftC b
 | [],b=>by simp [leftC]
 | k :: a,b=>by simp only [List.cons_append,leftC,left_app a b]; omega
def Tr.brks:Tr→Nat
 | .note t _=>t.brks + (if inB 6 t.steps then 1 else 0)
 | .inv t=>t.brks + (if inB 5 t.steps then 1 else 0)
 | .bin o l r=>l.brks + (r.brks + (if inB o r.steps then 1 else 0))
 | _=>0
end Go.Pv
/- A symbol that is found is told. Conditions: none; theorems. -/
namespace Go.Pv
variable {n:Nat} {L:List AtomR} {Q:List PrefR}
theorem atomIdx_at {s:List UInt8} {a:Nat} (h:atomIdx n L s = a):∃ ha:a < L.length,L[a].code n = s∧s.isEmpty = false:=by
 unfold atomIdx at h
 split at h
 ·omega
 ·rename_i hs
  have hs':s.isEmpty = false:=by simpa using hs
  unfold idxV at h
  split at h
  ·rename_i hany
   have ha:L.findIdx (fun a=>a.code n == s) = a:=by omega
   have hl:L.findIdx (fun a=>a.code n == s) < L.length:=List.findIdx_lt_length.2 (by simpa using hany)
   refine ⟨by omega,?_,hs'⟩
   have:=List.findIdx_getElem (w:=hl)
   subst ha
   simpa using this
  ·omega
theorem hasP_app {s p:List UInt8} (h:hasP s p = true):s = p++s.drop p.length:=by
 simp only [hasP,Bool.and_eq_true,decide_eq_true_eq] at h
 have:=eq_of_beq h.2
 conv=>lhs; rw [← List.take_append_drop p.length s]
 rw [this]
theorem firstP_at {s:List UInt8}:∀ (ps:List PrefR) (i:Nat),(firstP n L s ps i).2.2 = true→∃ (j:Nat) (hj:j < ps.length),firstP n L s ps i = (((i + j:Nat):Int),(restOf n L s ps[j]).1,true)∧(restOf n L s ps[j]).2 = true
 | [],i,h=>by simp [firstP] at h
 | p :: ps,i,h=>by
  simp only [firstP] at h ⊢
  split
  ·rename_i hr
   exact ⟨0,by simp,by simp,by simpa using hr⟩
  ·rename_i hr
   rw [if_neg hr] at h
   obtain ⟨j,hj,h1,h2⟩:=firstP_at ps (i + 1) h
   refine ⟨j + 1,by simpa using hj,?_,by simpa using h2⟩
   rw [h1]
   simp
   omega
theorem find_told {s:List UInt8} (h:(findB n L Q s).2.2 = true):∃ (a:Nat) (p:Int),a < L.length∧-1 ≤ p∧p < Q.length∧symText n L Q p a = s∧toldB n L Q s p a = true:=by
 unfold findB at h
 split at h
 ·rename_i hne
  have hne':¬ atomIdx n L s = -1:=by simpa using hne
  rcases atomIdx_range (n:=n) L s with hr | ⟨a,ha,hr⟩
  ·exact absurd hr hne'
  ·obtain ⟨ha2,h1,h2⟩:=atomIdx_at hr
   refine ⟨a,-1,ha,by omega,by omega,?_,?_⟩
   ·simp [symText,textA,ha,h1]
   ·have hf:findB n L Q s = (-1,(a:Int),true):=by rw [findB,if_pos hne,hr]
    simp [toldB,hf,h2]
 ·rename_i hne
  obtain ⟨j,hj,h1,h2⟩:=firstP_at Q 0 h
  have hf:findB n L Q s = ((j:Int),(restOf n L s Q[j]).1,true):=by rw [findB,if_neg hne,h1]; simp
  unfold restOf at h2 hf
  simp only at h2 hf
  split at h2
  ·cases h2
  ·rename_i hc
   rw [if_neg hc] at hf
   simp only [Bool.or_eq_true,Bool.not_eq_true',not_or,Bool.not_eq_false] at hc
   have hP:hasP s (Q[j].code n) = true:=by
    cases hq:hasP s (Q[j].code n)
    ·simp [cutP,hq] at hc
    ·rfl
   have hcut:cutP s (Q[j].code n) = (s.drop (Q[j].code n).length,true):=by simp [cutP,hP]
   rw [hcut] at hc h2 hf
   simp only [Bool.and_eq_true,bne_iff_ne,ne_eq] at h2
   rcases atomIdx_range (n:=n) L (s.drop (Q[j].code n).length) with hr | ⟨a,ha,hr⟩
   ·exact absurd hr h2.1
   ·obtain ⟨ha2,e1,e2⟩:=atomIdx_at hr
    rw [hr] at h2 hf
    have hmet:L[a].metric = true:=by simpa [ha] using h2.2
    have hs:=hasP_app hP
    have hpne:(Q[j].code n).isEmpty = false:=by
     cases hq:Q[j].code n with
     | nil=>rw [hq] at hc; simp at hc
     | cons b l=>rfl
    have hsne:s.isEmpty = false:=by
     rw [hs]
     cases hq:Q[j].code n with
     | nil=>rw [hq] at hpne; cases hpne
     | cons b l=>rfl
    refine ⟨a,j,ha,by omega,by omega,?_,?_⟩
    ·have hne1:¬ ((j:Int) = -1):=by omega
     simp only [symText,hne1,if_false,textP,Int.toNat_natCast,List.getElem?_eq_getElem ha,List.getElem?_eq_getElem hj,e1,e2,hpne,hmet]
     simpa using hs.symm
    ·simp [toldB,hf,hsne]
end Go.Pv
/- What is parsed is a tree; where an error stands. Conditions: none; theorems. -/
namespace Go.Pv
variable {x sz:Int} {s:List UInt8}
structure TokIn (s:List UInt8) (k:Tok):Prop where
 low:0 ≤ k.pos
 high:k.pos ≤ s.length
 lft:k.kind = 7→s[k.pos.toNat]? = some 40
 sym:k.kind = 1→0 < k.text.length∧k.pos + k.text.length ≤ s.length
 note:k.kind = 9→printB k.text = true∧k.text.length ≤ s.length
theorem plain_print {t:List UInt8} (h:plain x t = true):printB t = true:=by
 simp only [plain,plainS,Bool.and_eq_true,Bool.not_eq_true',List.any_eq_false,badB,Bool.or_eq_true,decide_eq_true_eq,not_or] at h
 unfold printB
 rw [List.all_eq_true]
 intro c hc
 have:=h.1 c hc
 simp only [Bool.and_eq_true,decide_eq_true_eq]
 omega
abbrev GoodT (s:List UInt8) (l:List Tok):Prop:=∀ k ∈ l,TokIn s k
theorem GoodT.tail {c l':List Tok} (h:GoodT s (c++l')):GoodT s l':=fun k hk=>h k (List.mem_append_right _ hk)
theorem find_ok {n:Nat} {t:List UInt8} (h:(findB n atomsT prefsT t).2.2 = true):∃ p a,findB n atomsT prefsT t = (p,a,true)∧0 ≤ a∧a < atomsT.length∧-1 ≤ p∧p < prefsT.length∧(p = -1∨metricT a = true):=by
 obtain ⟨a,p,ha,hp,hq,ht,htb⟩:=find_told h
 simp only [toldB,Bool.and_eq_true,Bool.not_eq_true',beq_iff_eq] at htb
 obtain ⟨h0,h1,h2,h3⟩:=htb
 refine ⟨p,a,Prod.ext h2 (Prod.ext h3 h1),by omega,by omega,hp,hq,?_⟩
 by_cases hpn:p = -1
 ·exact .inl hpn
 ·refine .inr ?_
  rw [← ht] at h0
  simp only [symText,hpn,if_false,textP] at h0
  simp only [metricT,Int.toNat_natCast]
  cases hL:atomsT[a]? with
  | none=>rw [hL] at h0; simp at h0
  | some b=>
   rw [hL] at h0
   cases hm:b.metric
   ·exfalso
    cases hQ:prefsT[p.toNat]? with
    | none=>rw [hQ] at h0; simp at h0
    | some q=>rw [hQ] at h0; simp [hm] at h0
   ·simp [hm]
section
variable {inner:List Tok→Option Tok→Res (List StepA)} {r0:Nat}
end
theorem treeP_few (x sz:Int) (l:List Tok):(treeP x sz l).tree.length ≤ l.length:=by
 have hf:=mainP_fits (x:=x) (sz:=sz) (levelP_fits (x:=x) (sz:=sz) 32) l none
 unfold treeP
 split
 ·simp
 ·simp
 ·simp
 ·rename_i h
  rw [h] at hf
  simp only [Fits,List.length_nil] at hf
  simp only
  omega
end Go.Pv
