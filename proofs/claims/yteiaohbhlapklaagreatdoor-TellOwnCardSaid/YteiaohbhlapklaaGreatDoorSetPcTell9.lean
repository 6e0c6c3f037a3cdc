/- A part of the proof: functions of the program in the evaluator's code, and what they come to. Conditions: none; definitions and theorems that the statement's proof uses. -/
import Derived.Test.YteiaohbhlapklaaGreatDoorSetPcTell1
/- The tell laws' facts, without the program. Conditions: the functions' codes where said; theorems. -/
namespace Go.Pv
variable {E:Env} {x a b c:Int}
theorem TellIs.cases_ok {s:List UInt8} {r:TellR} (h:TellIs a b s r):(r.err ≠ 0∧r.text = [])∨(r.err = 0∧∃ tr,isN b = true∧ParsedT a s tr∧r = tellT b tr∧r.text = ptext b tr∧tr.told b∧(ptext b tr).length ≤ 255∧r.name = []∧r.pos = 0):=by
 cases h with
 | arg h0=>exact .inl ⟨by simp,rfl⟩
 | bad _ _ he=>exact .inl ⟨he,rfl⟩
 | told tr hb P=>
  have key:((printD b tr).2.2 ≠ 0∧(printD b tr).1 = [])∨(printD b tr = (ptext b tr,0,0)∧tr.told b∧(ptext b tr).length ≤ 255):=by
   unfold printD
   cases hm:missD b tr.steps 0 with
   | some ie=>
    obtain ⟨i,e⟩:=ie
    refine .inl ⟨?_,rfl⟩
    rcases miss_er hm with rfl | rfl <;> simp
   | none=>
    simp only
    split
    ·exact .inl ⟨by simp,rfl⟩
    ·split
     ·exact .inl ⟨by simp,rfl⟩
     ·exact .inr ⟨rfl,told_of _ _ hm,by omega⟩
  rcases key with ⟨h1,h2⟩ | ⟨h1,h2,h3⟩
  ·exact .inl ⟨h1,h2⟩
  ·refine .inr ⟨by simp [tellT,h1],tr,hb,P,rfl,by simp [tellT,h1],h2,h3,by simp [tellT,h1],by simp [tellT,h1]⟩
theorem tell_on (H:Has 235 E) {tr:Tr} {s:List UInt8} (P:ParsedT a s tr) (hb:isN b = true) (hd:tr.told b) (hl:(ptext b tr).length ≤ 255) (hc:isN c = true) {q:TellR} (h:TellIs b c (ptext b tr) q):q = tellT c tr:=by
 have hp:=parse_print hb P.ok P.fits hd P.deep hl
 cases h with
 | arg h0=>rw [hb,hc] at h0; cases h0
 | bad _ _ he=>rw [hp] at he; exact absurd rfl he
 | told tr2 _ P2=>
  have e:=P2.eq
  rw [hp] at e
  exact tellT_det H hc P2.ok P.ok P2.fits P.fits e P2.few
theorem par_empty (ha:isN a = true):(parseP a [40,41]).err ≠ 0:=by
 rcases isN_cases ha with rfl | rfl | rfl | rfl | rfl <;> decide +kernel
theorem back_law (H:Has 235 E) (ha:isN a = true) (hb:isN b = true) (L:List Int) {r:TellR} (h:TellIs a b (40 :: ((printD a (madeT L)).1++[41])) r):
  (r.err ≠ 0∧r.text = [])∨∃ tr,r.err = 0∧ParsedT a (40 :: ((printD a (madeT L)).1++[41])) tr∧r.text = ptext b tr∧parseP b r.text = ⟨tr.steps,0,r.text.length,0⟩∧r.text.length ≤ 255∧∀ q,TellIs b a r.text q→q.err = 0∧q.text = (printD a (madeT L)).1:=by
 rcases h.cases_ok with h | ⟨h0,tr,_,P,hr,ht,hd,hl,_⟩
 ·exact .inl h
 ·refine .inr ⟨tr,h0,P,ht,by rw [ht]; exact parse_print hb P.ok P.fits hd P.deep hl,by rw [ht]; exact hl,fun q hq=>?_⟩
  rw [ht] at hq
  have e:=tell_on H P hb hd hl ha hq
  rcases printD_two ha L with ⟨i,e0,h1,_⟩ | ⟨h1,Q⟩
  ·exfalso
   have:=P.err
   rw [h1] at this
   exact par_empty ha this
  ·have hs:=P.short
   have he:=P.eq
   rw [h1] at he hs ⊢
   simp only [List.length_cons,List.length_append,List.length_nil] at hs
   have hb:=(brackets_parse Q 1 (by omega)).1 (by have:=Q.deep; omega)
   have hbr:brN 1 (ptext a (madeT L)) = 40 :: (ptext a (madeT L)++[41]):=rfl
   rw [hbr] at hb
   simp only at he
   rw [hb] at he
   have hpd:=printD_told P.ok P.told P.deep (by have:=P.len; have:=P.short; omega)
   have hpe:=print_det H ha P.ok Q.ok P.fits Q.fits he P.few
   rw [hpd,h1] at hpe
   rw [e]
   simp only [tellT,hpd]
   exact ⟨trivial,congrArg Prod.fst hpe⟩
theorem ways_law (H:Has 235 E) (ha:isN a = true) (hb:isN b = true) (hc:isN c = true) {s:List UInt8} {r:TellR} (h:TellIs a b s r):(r.err ≠ 0∧r.text = [])∨(r.err = 0∧r.text.length ≤ 255∧∀ q z,TellIs b c r.text q→TellIs a c s z→q = z):=by
 rcases h.cases_ok with h | ⟨h0,tr,_,P,hr,ht,hd,hl,_⟩
 ·exact .inl h
 ·refine .inr ⟨h0,by rw [ht]; exact hl,fun q z hq hz=>?_⟩
  rw [ht] at hq
  rw [tell_on H P hb hd hl hc hq]
  cases hz with
  | arg h0=>rw [ha,hc] at h0; cases h0
  | bad _ _ he=>exact absurd P.err he
  | told tr2 _ P2=>exact tellT_det H hc P.ok P2.ok P.fits P2.fits (by rw [P.eq,P2.eq]) P.few
def tabLen (n:Nat):Bool:=refB.L.all (fun a=>decide ((a.code n).length ≤ 100)) && refB.Q.all (fun a=>decide ((a.code n).length ≤ 100))
theorem tab_len:tabLen 0 = true:=by decide +kernel
theorem sym_short (p a:Int):(symD 1 p a).length ≤ 255:=by
 have h:=tab_len
 simp only [tabLen,Bool.and_eq_true,List.all_eq_true,decide_eq_true_eq] at h
 obtain ⟨hL,hQ⟩:=h
 show (symText 0 refB.L refB.Q p a.toNat).length ≤ 255
 unfold symText
 split
 ·unfold textA
  cases h:refB.L[a.toNat]? with
  | none=>simp
  | some r=>
   have:=hL r (List.mem_of_getElem? h)
   show (r.code 0).length ≤ 255
   omega
 ·unfold textP
  cases h:refB.L[a.toNat]? with
  | none=>simp
  | some r=>
   cases hq:refB.Q[p.toNat]? with
   | none=>simp
   | some q=>
    have h1:=hL r (List.mem_of_getElem? h)
    have h2:=hQ q (List.mem_of_getElem? hq)
    simp only
    split
    ·simp
    ·split
     ·simp
     ·rw [List.length_append]; omega
theorem miss_none:∀ (t:List StepA) (i:Nat),missD x t i = none→∀ s ∈ t,badD x s = none
 | [],_,_,s,hs=>by simp at hs
 | a :: t,i,h,s,hs=>by
  simp only [missD] at h
  split at h
  ·cases h
  ·rename_i hb
   rcases List.mem_cons.1 hs with rfl | hs
   ·exact hb
   ·exact miss_none t (i + 1) h s hs
theorem parse_no16 {s:List UInt8} (ha:isN a = true):(parseP a s).err ≠ 16:=(parse_q ha s).1
theorem names_law (H:Has 235 E) (hb:isN b = true) {s:List UInt8} {r:TellR} (h:TellIs 1 b s r):(r.err ≠ 16∧r.name = [])∨∃ p a':Int,r.err = 16∧r.name = symD 1 p a'∧r.name.length ≤ 255∧parseP 1 r.name = ⟨[⟨2,p,a',1,0,[]⟩],0,r.name.length,0⟩∧StepOk ⟨2,p,a',1,0,[]⟩∧∀ q,TellIs 1 b r.name q→q = ⟨[],16,0,r.name⟩:=by
 cases h with
 | arg h0=>exact .inl ⟨by simp,rfl⟩
 | bad h1 _ he=>exact .inl ⟨parse_no16 h1,rfl⟩
 | told tr _ P=>
  by_cases h16:(printD b tr).2.2 = 16
  ·obtain ⟨i,hi,e3,hok,h2,hnt⟩:=print_16 P.ok h16
   have hmem:=List.getElem_mem hi
   have hbad:=miss_none _ 0 (miss_told P.ok P.told 0) _ hmem
   generalize hst:tr.steps[i] = st at *
   cases hok with
   | num n h1=>cases h2
   | op o ho=>simp only at h2; rcases ho with rfl | rfl | rfl <;> cases h2
   | text o t ho _ _=>simp only at h2; rcases ho with rfl | rfl <;> cases h2
   | sym p a' n a0 a1 p0 p1 n0 n1 hm=>
    have htd:toldD 1 p a' = true:=by
     cases hq:toldD 1 p a'
     ·simp [badD,hq] at hbad
     ·rfl
    simp only at hnt
    have hsok:TrOk (.sym p a' 1):=.sym p a' 1 a0 a1 p0 p1 (by decide) (by decide) hm
    have hnm:(tellT b tr).name = symD 1 p a':=by
     simp only [tellT,e3,if_true]
     rw [nameAt_eq hi,hst]
     rfl
    have hpt:ptext 1 (.sym p a' 1) = symD 1 p a':=by
     show symD 1 p a'++powT (sty 1) 1 = _
     rw [show powT (sty 1) 1 = [] from rfl,List.append_nil]
    have hpp:=parse_print (x:=1) rfl hsok trivial htd (by simp [Tr.deep]) (by rw [hpt]; exact sym_short p a')
    rw [hpt] at hpp
    refine .inr ⟨p,a',by simp [tellT,e3],hnm,by rw [hnm]; exact sym_short p a',by rw [hnm]; exact hpp,.sym p a' 1 a0 a1 p0 p1 (by decide) (by decide) hm,fun q hq=>?_⟩
    rw [hnm] at hq ⊢
    cases hq with
    | arg h0=>rw [hb] at h0; cases h0
    | bad _ _ he=>rw [hpp] at he; exact absurd rfl he
    | told tr2 _ P2=>
     have e:=P2.eq
     rw [hpp] at e
     rw [tellT_det (u:=.sym p a' 1) H hb P2.ok hsok P2.fits trivial e P2.few]
     have hpd:printD b (.sym p a' 1) = ([],0,16):=by
      unfold printD
      simp [Tr.steps,missD,badD,hnt]
     simp only [tellT,hpd,if_true]
     rfl
  ·exact .inl ⟨h16,by simp [tellT,h16]⟩
end Go.Pv
/- What can be told. Conditions: the functions' codes; theorems. -/
namespace Go.Pv
variable {E:Env} {x a b:Int} {h:AHeap}
def canI (m:Option (Nat × Int)):Int:=match m with | some (i,_)=>i | none=>-1
theorem can248_eq (H:Has 248 E) (hn:isN x = true) {t:Tr} (ht:TrOk t) (hf:t.fits) (hl:t.steps.length ≤ 255) {v:AV} (hv:TreeV v t.steps):EvClosed E (.fn (.func 248) [] []) [.int .i64 x,v] = some (.tuple [.int .i64 (canI (missD x t.steps 0)),.bool (missD x t.steps 0).isNone]):=by
 obtain ⟨v',sv,hv'⟩:=tree_shut hv
 rw [EvClosed_eq H.c248 rfl (vs:=[.int .i64 x,v']) (by simp [sv]),EvFn_eq]
 have hp:=print235_eq (H.to 235) hn ht hf hl hv'
 unfold printD at hp
 cases hm:missD x t.steps 0 with
 | some ie=>
  obtain ⟨i,e⟩:=ie
  rw [hm] at hp
  simp only [prtT] at hp
  rcases miss_er hm with rfl | rfl <;> simp [f248,start,EvCall_closed H.c235 rfl,hp,canI]
 | none=>
  rw [hm] at hp
  simp only at hp
  by_cases h1:32 < t.deep
  ·rw [if_pos h1] at hp
   simp only [prtT] at hp
   simp [f248,start,EvCall_closed H.c235 rfl,hp,canI]
  ·rw [if_neg h1] at hp
   by_cases h2:255 < (ptext x t).length
   ·rw [if_pos h2] at hp
    simp only [prtT] at hp
    simp [f248,start,EvCall_closed H.c235 rfl,hp,canI]
   ·rw [if_neg h2] at hp
    simp only [prtT] at hp
    simp [f248,start,EvCall_closed H.c235 rfl,hp,canI]
end Go.Pv
/- The tell laws are true. Conditions: the functions' codes; theorems. -/
namespace Go.Pv
variable {E:Env} {x a b:Int} {h:AHeap}
set_option maxHeartbeats 4000000 in
set_option maxRecDepth 20000 in
theorem tellBack_eq (H:Has 226 E) (p q:Int) {v:AV} {L:List Int} (hv:IntsV v L):EvClosed E (.fn (.func 226) [] []) [.agg [.int .i64 p,.int .i64 q],v] = some (.bool true):=by
 obtain ⟨v',sv,hv'⟩:=ints_shut hv
 rw [EvClosed_eq H.c226 rfl (vs:=[.agg [.int .i64 p,.int .i64 q],v']) (by simp [sv]),EvFn_eq]
 have ra:=rest242_eq (H.to 242) (x:=p) (m:=5) (by omega) (by omega)
 have rb:=rest242_eq (H.to 242) (x:=q) (m:=5) (by omega) (by omega)
 obtain ⟨na,wa⟩:=five p
 obtain ⟨nb,wb⟩:=five q
 have haw:=awake240_eq (H.to 240)
 have ht:=text243_eq (H.to 243) na hv'
 have htl:=text_len L na
 obtain ⟨r1,h1⟩:=tell_is (1 + p % 5) (1 + q % 5) (40 :: ((printD (1 + p % 5) (madeT L)).1++[41]))
 have law:=back_law (H.to 235) na nb L h1
 have pe:=parse_eq (H.to 20) (1 + p % 5) (40 :: ((printD (1 + p % 5) (madeT L)).1++[41])) (by simp; omega)
 have a1:=tell244_eq (H.to 244) (by simp; omega) h1
 clear h1
 generalize (printD (1 + p % 5) (madeT L)).1 = t at *
 have l0:1 + t.length ≤ 9223372036854775807:=by omega
 have l1:t.length + 1 ≤ 9223372036854775807:=by omega
 have l2:t.length + 1 + 1 ≤ 9223372036854775807:=by omega
 obtain ⟨t1,e1,p1,n1⟩:=r1
 rcases law with ⟨hne,htx⟩ | ⟨tr,h0,P,htx,hpb,hl,hq⟩
 ·simp only at hne htx
  subst htx
  have ct:=stepsV_cell (parseP (1 + p % 5) (40 :: (t++[41]))).tree
  have hne':(e1 != 0) = true:=by simpa using hne
  simp only [TellR.cs] at a1
  simp only [Psd.cs] at pe
  generalize stepsV (parseP (1 + p % 5) (40 :: (t++[41]))).tree = tv at *
  simp [f226,start,EvCall_closed H.c240 rfl,EvCall_closed H.c242 rfl,EvCall_closed H.c243 rfl,EvCall_closed H.c20 rfl,EvCall_closed H.c244 rfl,haw,ra,rb,wa,wb,ht,a1,pe,ct,hne',l0,l2,push_setk]
 ·simp only at h0 htx hpb hl hq
  subst h0
  obtain ⟨r2,h2⟩:=tell_is (1 + q % 5) (1 + p % 5) t1
  have a2:=tell244_eq (H.to 244) (by omega) h2
  obtain ⟨g1,g2⟩:=hq r2 h2
  obtain ⟨t2,e2,p2,n2⟩:=r2
  simp only at g1 g2
  subst g1 g2
  have pb:=parse_eq (H.to 20) (1 + q % 5) t1 (by omega)
  rw [hpb] at pb
  have e1:=P.eq
  have e2:=P.err
  cases hps:parseP (1 + p % 5) (40 :: (t2++[41])) with | mk tree err pos len=>
  rw [hps] at pe e1 e2
  simp only at e1 e2
  subst e1 e2
  have hsm:=same_eq (H.to 160) (stepsV_tree tr.steps) (stepsV_tree tr.steps) (by have:=P.few; omega)
  simp only [decide_true] at hsm
  have ct:=stepsV_cell tr.steps
  simp only [TellR.cs] at a1 a2
  simp only [Psd.cs] at pe pb
  generalize stepsV tr.steps = tv at *
  simp [f226,start,EvCall_closed H.c240 rfl,EvCall_closed H.c242 rfl,EvCall_closed H.c243 rfl,EvCall_closed H.c20 rfl,EvCall_closed H.c244 rfl,haw,ra,rb,wa,wb,ht,a1,a2,pe,pb,ct,hsm,l0,l2,push_setk]
set_option maxHeartbeats 4000000 in
set_option maxRecDepth 20000 in
theorem tellWays_eq (H:Has 227 E) (p q w:Int) {v:AV} {L:List Int} (hv:IntsV v L):EvClosed E (.fn (.func 227) [] []) [.agg [.int .i64 p,.int .i64 q,.int .i64 w],v] = some (.bool true):=by
 obtain ⟨v',sv,hv'⟩:=ints_shut hv
 rw [EvClosed_eq H.c227 rfl (vs:=[.agg [.int .i64 p,.int .i64 q,.int .i64 w],v']) (by simp [sv]),EvFn_eq]
 have ra:=rest242_eq (H.to 242) (x:=p) (m:=5) (by omega) (by omega)
 have rb:=rest242_eq (H.to 242) (x:=q) (m:=5) (by omega) (by omega)
 have rc:=rest242_eq (H.to 242) (x:=w) (m:=5) (by omega) (by omega)
 obtain ⟨na,wa⟩:=five p
 obtain ⟨nb,wb⟩:=five q
 obtain ⟨nc,wc⟩:=five w
 have haw:=awake240_eq (H.to 240)
 have ht:=text243_eq (H.to 243) na hv'
 have htl:=text_len L na
 generalize (printD (1 + p % 5) (madeT L)).1 = t at *
 obtain ⟨r1,h1⟩:=tell_is (1 + p % 5) (1 + q % 5) t
 have law:=ways_law (H.to 235) na nb nc h1
 have a1:=tell244_eq (H.to 244) (by omega) h1
 clear h1
 obtain ⟨t1,e1,p1,n1⟩:=r1
 simp only [TellR.cs] at a1
 rcases law with ⟨hne,htx⟩ | ⟨h0,hl,hq⟩
 ·simp only at hne htx
  subst htx
  have hne':(e1 != 0) = true:=by simpa using hne
  simp [f227,start,EvCall_closed H.c240 rfl,EvCall_closed H.c242 rfl,EvCall_closed H.c243 rfl,EvCall_closed H.c244 rfl,haw,ra,rb,rc,wa,wb,wc,ht,a1,hne',push_setk]
 ·simp only at h0 hl hq
  subst h0
  obtain ⟨r2,h2⟩:=tell_is (1 + q % 5) (1 + w % 5) t1
  obtain ⟨r3,h3⟩:=tell_is (1 + p % 5) (1 + w % 5) t
  have a2:=tell244_eq (H.to 244) (by omega) h2
  have a3:=tell244_eq (H.to 244) (by omega) h3
  have e:=hq r2 r3 h2 h3
  subst e
  obtain ⟨t2,e2,p2,n2⟩:=r2
  simp only [TellR.cs] at a2 a3
  simp [f227,start,EvCall_closed H.c240 rfl,EvCall_closed H.c242 rfl,EvCall_closed H.c243 rfl,EvCall_closed H.c244 rfl,haw,ra,rb,rc,wa,wb,wc,ht,a1,a2,a3,push_setk]
set_option maxHeartbeats 4000000 in
set_option maxRecDepth 20000 in
theorem tellNames_eq (H:Has 228 E) (n:Int) {v:AV} {L:List Int} (hv:IntsV v L):EvClosed E (.fn (.func 228) [] []) [.int .i64 n,v] = some (.bool true):=by
 obtain ⟨v',sv,hv'⟩:=ints_shut hv
 rw [EvClosed_eq H.c228 rfl (vs:=[.int .i64 n,v']) (by simp [sv]),EvFn_eq]
 have ra:=rest242_eq (H.to 242) (x:=n) (m:=5) (by omega) (by omega)
 obtain ⟨na,wa⟩:=five n
 have haw:=awake240_eq (H.to 240)
 have ht:=text243_eq (x:=1) (H.to 243) rfl hv'
 have htl:=text_len (x:=1) L rfl
 generalize (printD 1 (madeT L)).1 = t at *
 obtain ⟨r1,h1⟩:=tell_is 1 (1 + n % 5) t
 have law:=names_law (H.to 235) na h1
 have a1:=tell244_eq (H.to 244) (by omega) h1
 clear h1
 obtain ⟨t1,e1,p1,n1⟩:=r1
 simp only [TellR.cs] at a1
 rcases law with ⟨hne,htx⟩ | ⟨p,a',h0,hnm,hnl,hpp,hok,hq⟩
 ·simp only at hne htx
  subst htx
  have hne':(e1 != 16) = true:=by simpa using hne
  simp [f228,start,EvCall_closed H.c240 rfl,EvCall_closed H.c242 rfl,EvCall_closed H.c243 rfl,EvCall_closed H.c244 rfl,haw,ra,wa,ht,a1,hne',push_setk]
 ·simp only at h0 hnm hnl hpp hq
  subst h0
  obtain ⟨r2,h2⟩:=tell_is 1 (1 + n % 5) n1
  have a2:=tell244_eq (H.to 244) (by omega) h2
  have e:=hq r2 h2
  subst e
  have pe:=parse_eq (H.to 20) 1 n1 (by omega)
  rw [hpp] at pe
  have hn2:=name246_eq (H.to 246) hok
  have hn3:nameS ⟨2,p,a',1,0,[]⟩ = n1:=by rw [hnm]; rfl
  rw [hn3] at hn2
  simp only [TellR.cs] at a2
  simp only [Psd.cs,stepsV,StepA.cs] at pe hn2
  simp [f228,start,EvCall_closed H.c240 rfl,EvCall_closed H.c242 rfl,EvCall_closed H.c243 rfl,EvCall_closed H.c244 rfl,EvCall_closed H.c20 rfl,haw,ra,wa,ht,a1,a2,pe,hn2,StepA.cs,push_setk]
set_option maxHeartbeats 4000000 in
set_option maxRecDepth 20000 in
theorem tellOwn_eq (H:Has 230 E) (n:Int) (s:List UInt8):EvClosed E (.fn (.func 230) [] []) [.int .i64 n,.str s] = some (.bool true):=by
 rw [EvClosed_eq H.c230 rfl (vs:=[.int .i64 n,.str s]) (by simp),EvFn_eq]
 have ra:=rest242_eq (H.to 242) (x:=n) (m:=5) (by omega) (by omega)
 obtain ⟨na,wa⟩:=five n
 have haw:=awake240_eq (H.to 240)
 have hsh:EvClosed E (.fn (.func 241) [] []) [.str s,.int .i64 255] = some (.str (s.take 255)):=short241_eq (H.to 241) s 255 (by omega)
 have hsl:(s.take 255).length ≤ 255:=by simp; omega
 generalize s.take 255 = u at *
 have pe:=parse_eq (H.to 20) (1 + n % 5) u (by omega)
 obtain ⟨r1,h1⟩:=tell_is (1 + n % 5) (1 + n % 5) u
 have a1:=tell244_eq (H.to 244) (by omega) h1
 cases h1 with
 | arg h0=>rw [na] at h0; cases h0
 | bad _ _ he=>
  have ct:=stepsV_cell (parseP (1 + n % 5) u).tree
  have he':((parseP (1 + n % 5) u).err != 0) = true:=by simpa using he
  simp only [TellR.cs] at a1
  simp only [Psd.cs] at pe
  generalize stepsV (parseP (1 + n % 5) u).tree = tv at *
  generalize (parseP (1 + n % 5) u).err = e at *
  generalize (parseP (1 + n % 5) u).pos = ps at *
  simp [f230,start,EvCall_closed H.c240 rfl,EvCall_closed H.c241 rfl,EvCall_closed H.c242 rfl,EvCall_closed H.c244 rfl,EvCall_closed H.c20 rfl,haw,ra,wa,hsh,a1,pe,ct,he',push_setk]
 | told tr _ P=>
  have hpd:=printD_told P.ok P.told P.deep (by have:=P.len; omega)
  have hc:=can248_eq (H.to 248) na P.ok P.fits P.few (stepsV_tree _)
  rw [miss_told P.ok P.told 0] at hc
  have ct:=stepsV_cell tr.steps
  have hl:=P.len
  have e1:=P.eq
  have e2:=P.err
  cases hps:parseP (1 + n % 5) u with | mk tree err pos len=>
  rw [hps] at pe e1 e2
  simp only at e1 e2
  subst e1 e2
  simp only [tellT,hpd,TellR.cs] at a1
  simp only [Psd.cs] at pe
  have z16:¬ ((0:Int) = 16):=by decide
  simp only [z16,if_false] at a1
  simp only [canI,Option.isNone_none] at hc
  generalize stepsV tr.steps = tv at *
  generalize ptext (1 + n % 5) tr = w at *
  have d1:decide ((w.length:Int) ≤ (u.length:Int)) = true:=decide_eq_true (by omega)
  simp [f230,start,EvCall_closed H.c240 rfl,EvCall_closed H.c241 rfl,EvCall_closed H.c242 rfl,EvCall_closed H.c244 rfl,EvCall_closed H.c20 rfl,EvCall_closed H.c248 rfl,haw,ra,wa,hsh,a1,pe,hc,ct,hl,push_setk]
end Go.Pv
