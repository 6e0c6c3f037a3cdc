/- A part of the proof: functions of the program in the evaluator's code, and what they come to. Conditions: none; definitions and theorems that the statement's proof uses. -/
import Derived.Test.YteiaohbhlapklaaGreatDoorSettPcPrint6
import Derived.Test.YteiaohbhlapklaaGreatDoorSettPcMay2
import Derived.Test.YteiaohbhlapklaaGreatDoorSettPcTree15
import Derived.Test.YteiaohbhlapklaaGreatDoorSettPcBack1
import Derived.Test.YteiaohbhlapklaaGreatDoorSettPcParse7
/- The program's printer. Conditions: the functions' codes; theorems. -/
namespace Go.Pv
variable {E:Env} {x:Int} {h:AHeap}
theorem tells_bad (H:Has 251 E) (hn:isN x = true) {s:StepA} (hs:StepOk s):EvClosed E (.fn (.func 251) [] []) [.int .i64 x,.agg s.cs] = some (.int .i64 ((badD x s).getD 0)):=by
 rw [tells251_eq H hn hs]
 unfold badD
 congr 2
 show (if s.op == 2 && !toldD x s.pfx s.atom then (16:Int) else _) = _
 split
 ·rfl
 ·split <;> rfl
theorem bad_or {s:StepA} {e:Int} (h:badD x s = some e):e = 16∨e = 17:=by
 unfold badD at h
 split at h
 ·cases h; exact .inl rfl
 ·split at h
  ·cases h; exact .inr rfl
  ·cases h
def atV (m:Option (Nat × Int)):Int:=match m with | none=>0 | some (i,_)=>i
def erV (m:Option (Nat × Int)):Int:=match m with | none=>0 | some (_,e)=>e
set_option maxRecDepth 20000 in
theorem print235_loop (H:Has 235 E) (hn:isN x = true) {own:Own} {t:List StepA} (hok:∀ s ∈ t,StepOk s) (hl:t.length < 1000000):∀ (m i:Nat),i + m = t.length→∀ (h:AHeap),h.ro = 0 →
  ∃ h':AHeap,h'.ro = 0∧∀ F,mask k235_0 F = s235_0 (.int .i64 x) (.vs own t.length (t.flatMap StepA.cs)) (.int .i64 0) (.int .i64 0) (.vs own t.length (t.flatMap StepA.cs)) (.int .i64 t.length) (.int .i64 i) →
   EvCode E (.loop k235_0 l235_0) F h = some (.exit 0,x235_0 (.int .i64 x) (.vs own t.length (t.flatMap StepA.cs)) (.int .i64 (atV (missD x (t.drop i) i))) (.int .i64 (erV (missD x (t.drop i) i))),h')
 | 0,i,hi,h,hro=>by
  have:i = t.length:=by omega
  subst this
  rw [List.drop_length]
  refine ⟨h,hro,fun F hF=>?_⟩
  rw [EvCode_loop,hF]
  simp [l235_0,s235_0,x235_0,missD,atV,erV]
 | m + 1,i,hi,h,hro=>by
  have hlt:i < t.length:=by omega
  rw [List.drop_eq_getElem_cons hlt]
  have hsok:=hok t[i] (List.getElem_mem hlt)
  have ht:=tells_bad (H.to 251) hn hsok
  have e6:((t.flatMap StepA.cs).drop (i * 6)).take 6 = t[i].cs:=fm_el StepA.len hlt
  have ll:(t.flatMap StepA.cs).length = t.length * 6:=fm_len StepA.len t
  have hd:decide ((i:Int) < (t.length:Int)) = true:=decide_eq_true (by omega)
  have h6:6 ≤ t.length * 6 - i * 6:=by omega
  have h60:i * 6 < t.length * 6:=by omega
  have w1:IntKind.i64.wrap ((i:Int) + 1) = (i:Int) + 1:=w64
  simp only [missD]
  cases hb:badD x t[i] with
  | some e=>
   rw [hb] at ht
   refine ⟨h.push (.cells t[i].cs),by simpa using hro,fun F hF=>?_⟩
   rw [EvCode_loop,hF]
   have he0:(e != 0) = true:=by rcases bad_or hb with rfl | rfl <;> rfl
   have he1:¬ e = 0:=by rcases bad_or hb with rfl | rfl <;> decide
   simp only [StepA.cs] at e6 ht ⊢
   generalize t.flatMap StepA.cs = ca at *
   generalize EvCode E (.loop k235_0 l235_0) = lp
   simp [l235_0,s235_0,x235_0,hlt,ll,h6,h60,e6,hro,push_setk,bl_push,EvCall_closed H.c251 rfl,ht,he0,atV,erV]
  | none=>
   rw [hb] at ht
   obtain ⟨g,g0,hg⟩:=print235_loop H hn (own:=own) hok hl m (i + 1) (by omega) (h.push (.cells t[i].cs)) (by simpa using hro)
   refine ⟨g,g0,fun F hF=>?_⟩
   rw [EvCode_loop,hF]
   simp only [StepA.cs] at e6 ht hg ⊢
   generalize t.flatMap StepA.cs = ca at *
   generalize EvCode E (.loop k235_0 l235_0) = lp at hg ⊢
   simp [l235_0,s235_0,hlt,ll,h6,h60,e6,hro,push_setk,bl_push,EvCall_closed H.c251 rfl,ht,w1]
   exact hg _ (by simp [s235_0])
theorem miss_er {t:List StepA}:∀ {i j:Nat} {e:Int},missD x t i = some (j,e)→e = 16∨e = 17:=by
 induction t with
 | nil=>intro i j e h; cases h
 | cons s r ih=>
  intro i j e h
  simp only [missD] at h
  split at h
  ·rename_i e' he
   cases h
   exact bad_or he
  ·exact ih h
def prtT (p:List UInt8 × Nat × Int):AV:=.tuple [.str p.1,.int .i64 p.2.1,.int .i64 p.2.2]
set_option maxRecDepth 20000 in
theorem print235_eq (H:Has 235 E) (hn:isN x = true) {t:Tr} (ht:TrOk t) (hf:t.fits) (hl:t.steps.length ≤ 255) {v:AV} (hv:TreeV v t.steps):EvClosed E (.fn (.func 235) [] []) [.int .i64 x,v] = some (prtT (printD x t)):=by
 obtain ⟨v',sv,hv'⟩:=tree_shut hv
 rw [EvClosed_eq H.c235 rfl (vs:=[.int .i64 x,v']) (by simp [sv]),EvFn_eq]
 have hs:=sound168_eq (H.to 168) ht hv' hl
 have hnt:=nest169_eq (H.to 169) ht hl hv'
 have ho:=of_eq (H.to 44) x
 rw [hn] at ho
 have htx:=fun hm:missD x t.steps 0 = none=>text252_eq (H.to 252) hn ht hf (told_of t 0 hm) hl hv'
 have hpos:=Tr.steps_pos t
 rcases hv' with ⟨_,h0⟩ | ⟨own,rfl⟩
 ·rw [h0] at hpos
  simp at hpos
 obtain ⟨g,hgr,hg⟩:=print235_loop H hn (own:=own) (tr_steps ht) (by omega) t.steps.length 0 (by omega) (heap0.push (.cells (sty x).cs)) rfl
 rw [List.drop_zero] at hg
 unfold printD
 cases hm:missD x t.steps 0 with
 | some ie=>
  obtain ⟨i,e⟩:=ie
  rw [hm] at hg
  have he0:(e != 0) = true:=by rcases miss_er hm with rfl | rfl <;> rfl
  have he1:¬ e = 0:=by rcases miss_er hm with rfl | rfl <;> decide
  simp only [atV,erV,Sty.cs] at hg ho ⊢
  generalize t.steps.flatMap StepA.cs = ca at *
  simp [f235,start,EvCall_closed H.c44 rfl,EvCall_closed H.c168 rfl,hs,ho,push_setk]
  rw [hg _ (by simp [s235_0])]
  simp [x235_0,he0,prtT]
 | none=>
  rw [hm] at hg
  have htx:=htx hm
  simp only [atV,erV,Sty.cs] at hg ho ⊢
  generalize t.steps.flatMap StepA.cs = ca at *
  generalize ptext x t = s at *
  by_cases hd:32 < t.deep
  ·have d3:decide ((32:Int) < (t.deep:Int)) = true:=decide_eq_true (by omega)
   simp [f235,start,EvCall_closed H.c44 rfl,EvCall_closed H.c168 rfl,hs,ho,push_setk]
   rw [hg _ (by simp [s235_0])]
   simp [x235_0,EvCall_closed H.c169 rfl,hnt,d3,hd,prtT]
  ·have d3:decide ((32:Int) < (t.deep:Int)) = false:=decide_eq_false (by omega)
   cases hd2:decide (255 < s.length)
   ·have d4:decide ((255:Int) < (s.length:Int)) = false:=decide_eq_false (by have:=of_decide_eq_false hd2; omega)
    have d5:=of_decide_eq_false hd2
    simp [f235,start,EvCall_closed H.c44 rfl,EvCall_closed H.c168 rfl,hs,ho,push_setk]
    rw [hg _ (by simp [s235_0])]
    simp [x235_0,EvCall_closed H.c169 rfl,EvCall_closed H.c252 rfl,hnt,htx,d3,d4,d5,hd,prtT]
   ·have d4:decide ((255:Int) < (s.length:Int)) = true:=decide_eq_true (by have:=of_decide_eq_true hd2; omega)
    have d5:=of_decide_eq_true hd2
    simp [f235,start,EvCall_closed H.c44 rfl,EvCall_closed H.c168 rfl,hs,ho,push_setk]
    rw [hg _ (by simp [s235_0])]
    simp [x235_0,EvCall_closed H.c169 rfl,EvCall_closed H.c252 rfl,hnt,htx,d3,d4,d5,hd,prtT]
theorem print235_no (H:Has 235 E) {t:List StepA} (hl:t.length < 1000000) {v:AV} (hv:TreeV v t) (h0:isN x = false∨soundB t = false):EvClosed E (.fn (.func 235) [] []) [.int .i64 x,v] = some (prtT ([],0,1)):=by
 obtain ⟨v',sv,hv'⟩:=tree_shut hv
 rw [EvClosed_eq H.c235 rfl (vs:=[.int .i64 x,v']) (by simp [sv]),EvFn_eq]
 have hs:=sound168_gen (H.to 168) hv' hl
 have ho:=of_eq (H.to 44) x
 simp only [Sty.cs] at ho
 cases hn:isN x with
 | false=>
  rw [hn] at ho
  simp [f235,start,EvCall_closed H.c44 rfl,ho,push_setk,prtT]
 | true=>
  rw [hn] at ho h0
  have hsf:soundB t = false:=by simpa using h0
  rw [hsf] at hs
  simp [f235,start,EvCall_closed H.c44 rfl,EvCall_closed H.c168 rfl,hs,ho,push_setk,prtT]
end Go.Pv
/- What is printed is parsed to the same tree. Conditions: none; theorems. -/
namespace Go.Pv
variable {x sz:Int}
def Stop (rest:List Tok):Prop:=isT 2 rest = false∧isT 3 rest = false∧isT 6 rest = false
def StopI (rest:List Tok):Prop:=Stop rest∧isT 9 rest = false
theorem stop_cons {k:Tok} {r:List Tok} (h2:k.kind ≠ 2) (h3:k.kind ≠ 3) (h6:k.kind ≠ 6):Stop (k :: r):=⟨by simpa [isT] using h2,by simpa [isT] using h3,by simpa [isT] using h6⟩
theorem stopI_cons {k:Tok} {r:List Tok} (h2:k.kind ≠ 2) (h3:k.kind ≠ 3) (h6:k.kind ≠ 6) (h9:k.kind ≠ 9):StopI (k :: r):=⟨stop_cons h2 h3 h6,by simpa [isT] using h9⟩
theorem stopI_nil:StopI []:=⟨⟨rfl,rfl,rfl⟩,rfl⟩
def loopG (x sz:Int) (inner:List Tok→Option Tok→Res (List StepA)) (t:List StepA) (l:List Tok) (u:Option Tok):Res (List StepA):=loopP x sz inner l.length t l u
variable {inner:List Tok→Option Tok→Res (List StepA)}
theorem loop_fuel (hi:∀ l u,Fits 0 l (inner l u)):∀ (n f:Nat) (t:List StepA) (l:List Tok) (u:Option Tok),l.length ≤ n→l.length ≤ f→loopP x sz inner f t l u = loopG x sz inner t l u:=by
 intro n
 induction n with
 | zero=>
  intro f t l u hn _
  have:l = []:=List.eq_nil_of_length_eq_zero (by omega)
  subst this
  cases f <;> rfl
 | succ n ih=>
  intro f t l u hn hf
  cases l with
  | nil=>cases f <;> rfl
  | cons k r=>
   cases f with
   | zero=>simp at hf
   | succ f=>
    unfold loopG
    simp only [List.length_cons] at hn hf ⊢
    simp only [loopP]
    split
    ·have hfit:=itemP_fits (x:=x) (sz:=sz) hi r u
     cases h:itemP x sz inner r u with
     | error e=>rfl
     | ok q=>
      obtain ⟨t',l',u'⟩:=q
      rw [h] at hfit
      simp only [Fits] at hfit
      exact (ih f _ l' u' (by omega) (by omega)).trans (ih r.length _ l' u' (by omega) (by omega)).symm
    ·rfl
theorem loopG_stop {t:List StepA} {l:List Tok} {u:Option Tok} (h4:isT 4 l = false) (h5:isT 5 l = false):loopG x sz inner t l u = .ok (t,l,u):=by
 cases l with
 | nil=>rfl
 | cons k r=>
  simp only [isT] at h4 h5
  simp only [loopG,List.length_cons,loopP,h4,h5,Bool.or_self,Bool.false_eq_true,if_false]
theorem loopG_step (hi:∀ l u,Fits 0 l (inner l u)) {t t':List StepA} {k:Tok} {r l':List Tok} {u u':Option Tok} (hk:k.kind = 4∨k.kind = 5) (h:itemP x sz inner r u = .ok (t',l',u')):
  loopG x sz inner t (k :: r) u = loopG x sz inner (t++t'++[stepO (if k.kind = 4 then 3 else 4)]) l' u':=by
 have hfit:=itemP_fits (x:=x) (sz:=sz) hi r u
 rw [h] at hfit
 simp only [Fits] at hfit
 have hk':(k.kind == 4 || k.kind == 5) = true:=by rcases hk with e | e <;> simp [e]
 have e:loopG x sz inner t (k :: r) u = loopP x sz inner r.length (t++t'++[⟨if k.kind == 4 then 3 else 4,-1,0,0,0,[]⟩]) l' u':=by
  simp only [loopG,List.length_cons,loopP,hk',if_true,h]
 rw [e,loop_fuel hi l'.length _ _ _ _ (Nat.le_refl _) (by omega)]
 rcases hk with e | e <;> simp [e,stepO]
theorem loopG_err {t:List StepA} {k:Tok} {r:List Tok} {u:Option Tok} {e:PErr} (hk:k.kind = 4∨k.kind = 5) (h:itemP x sz inner r u = .error e):loopG x sz inner t (k :: r) u = .error e:=by
 have hk':(k.kind == 4 || k.kind == 5) = true:=by rcases hk with e | e <;> simp [e]
 simp only [loopG,List.length_cons,loopP,hk',if_true,h]
theorem num_tok {m:Tok} {rest:List Tok} {lo hi n:Int} (hk:m.kind = 2) (hn:m.n = n) (h1:lo ≤ n) (h2:n ≤ hi):numP sz lo hi (m :: rest) = .ok (n,rest):=by
 simp [numP,hk,hn,h1,h2]
theorem numTok_pow {n:Int} {us rest:List Tok} (h1:-99 ≤ n) (h2:n ≤ 99) (h:NumTok n us):powN sz (us++rest) = .ok (n,rest):=by
 unfold NumTok at h
 split at h
 ·rename_i hneg
  obtain ⟨k,m,rfl,hk,hkt,hm,hmn⟩:=h
  have:=num_tok (sz:=sz) (rest:=rest) (lo:=0) (hi:=99) hm hmn (by omega) (by omega)
  simp [powN,hk,hkt,this]
 ·obtain ⟨m,rfl,hm,hmn⟩:=h
  have:=num_tok (sz:=sz) (rest:=rest) (lo:=0) (hi:=99) hm hmn (by omega) (by omega)
  have hk3:(m.kind == 3) = false:=by simp [hm]
  simp only [List.cons_append,List.nil_append,powN,hk3,Bool.false_eq_true,if_false]
  exact this
theorem powTok_ok {pw:Bool} {n:Int} {us rest:List Tok} (h1:-99 ≤ n) (h2:n ≤ 99) (h:PowTok pw n us) (hr:Stop rest):powP pw sz (us++rest) = .ok (n,rest):=by
 obtain ⟨r2,r3,r6⟩:=hr
 unfold PowTok at h
 split at h
 ·rename_i hn
  subst h hn
  cases pw <;> simp [powP,r2,r3,r6]
 ·cases pw with
  | true=>
   simp only [if_true] at h
   obtain ⟨k,vs,rfl,hk,hv⟩:=h
   have:=numTok_pow (sz:=sz) (rest:=rest) h1 h2 hv
   have e6:isT 6 (k :: (vs++rest)) = true:=by simp [isT,hk]
   simp only [powP,if_true,List.cons_append,e6,List.tail_cons,this]
  | false=>
   simp only [Bool.false_eq_true,if_false] at h
   have:=numTok_pow (sz:=sz) (rest:=rest) h1 h2 h
   have e:(isT 3 (us++rest) || isT 2 (us++rest)) = true:=by
    unfold NumTok at h
    split at h
    ·obtain ⟨k,m,rfl,hk,_⟩:=h
     simp [isT,hk]
    ·obtain ⟨m,rfl,hm,_⟩:=h
     simp [isT,hm]
   simp only [powP,Bool.false_eq_true,if_false,e,if_true,this]
def Goes (r deep:Nat) (q:Res (List StepA)) (v:List StepA × List Tok × Option Tok):Prop:=(deep ≤ r→q = .ok v)∧(r < deep→∃ p,q = .error (13,p))
def MainOk (x sz:Int) (t:Tr):Prop:=∀ (r:Nat) (ts rest:List Tok) (u:Option Tok),TokT x t ts→StopI rest →
 (t.deep ≤ r→mainP x sz (levelP x sz r) (ts++rest) u = loopG x sz (levelP x sz r) t.steps rest u)∧(r < t.deep→∃ p,mainP x sz (levelP x sz r) (ts++rest) u = .error (13,p))
theorem base_brk {t:Tr} (h:MainOk x sz t) {r:Nat} {ts rest:List Tok} {u:Option Tok} (hb:Brk true (TokT x t) ts):Goes r (t.deep + 1) (baseP x sz (levelP x sz r) (ts++rest) u) (t.steps,rest,u):=by
 simp only [Brk,if_true] at hb
 obtain ⟨k,us,k',rfl,hk,hk',hu⟩:=hb
 have e:baseP x sz (levelP x sz r) (k :: (us++[k'])++rest) u = levelP x sz r (k :: (us++(k' :: rest))) u:=by
  rw [List.cons_append,List.append_assoc]
  simp [baseP,hk]
 rw [e]
 cases r with
 | zero=>exact ⟨fun h=>by omega,fun _=>⟨_,rfl⟩⟩
 | succ r=>
  have hst:StopI (k' :: rest):=stopI_cons (by rw [hk']; decide) (by rw [hk']; decide) (by rw [hk']; decide) (by rw [hk']; decide)
  obtain ⟨h1,h2⟩:=h r us (k' :: rest) u hu hst
  refine ⟨fun hd=>?_,fun hd=>?_⟩
  ·have h1:=h1 (by omega)
   rw [loopG_stop (by simp [isT,hk']) (by simp [isT,hk'])] at h1
   simp [levelP,h1,closeP,hk']
  ·obtain ⟨p,h2⟩:=h2 (by omega)
   exact ⟨p,by simp [levelP,h2]⟩
theorem base_num {n:Int} (h1:1 ≤ n) (h2:n ≤ 9223372036854775807) {ts rest:List Tok} {u:Option Tok} (h:TokT x (.num n) ts):baseP x sz inner (ts++rest) u = .ok ((Tr.num n).steps,rest,u):=by
 obtain ⟨k,rfl,hk,hn⟩:=h
 have:=num_tok (sz:=sz) (rest:=rest) (lo:=1) (hi:=maxNum) hk hn h1 (by simpa [maxNum] using h2)
 simp [baseP,hk,this,Tr.steps]
theorem base_sym {p a n:Int} (hd:toldD x p a = true) (h1:-99 ≤ n) (h2:n ≤ 99) {ts rest:List Tok} {u:Option Tok} (h:TokT x (.sym p a n) ts) (hr:Stop rest):baseP x sz inner (ts++rest) u = .ok ((Tr.sym p a n).steps,rest,u):=by
 obtain ⟨k,us,rfl,hk,ht,hp⟩:=h
 have:=powTok_ok (sz:=sz) h1 h2 hp hr
 obtain ⟨_,hf⟩:=told_sym hd
 have e:symP x sz k (us++rest) u = .ok ((Tr.sym p a n).steps,rest,u):=by
  simp only [symP,this,ht,hf,unkP,Bool.not_true,Bool.false_and,Bool.false_eq_true,if_false,Tr.steps]
 have hk1:(k.kind == 1) = true:=by simp [hk]
 rw [List.cons_append]
 simp only [baseP,hk1,if_true,e]
theorem item_base {ts rest:List Tok} {u:Option Tok} {t:List StepA} (h9:isT 9 (ts++rest) = false) (hb:baseP x sz inner (ts++rest) u = .ok (t,rest,u)) (hr:isT 9 rest = false):itemP x sz inner (ts++rest) u = .ok (t,rest,u):=by
 have e:itemP x sz inner (ts++rest) u = itemB x sz inner (ts++rest) u:=by
  cases h:ts++rest with
  | nil=>rfl
  | cons k r=>
   rw [h] at h9
   simp only [isT] at h9
   simp [itemP,h9]
 rw [e,itemB,hb]
 cases rest with
 | nil=>rfl
 | cons k r=>
  simp only [isT] at hr
  simp [noteP,hr]
theorem item_err {ts:List Tok} {u:Option Tok} {e:PErr} (h9:isT 9 ts = false) (hb:baseP x sz inner ts u = .error e):itemP x sz inner ts u = .error e:=by
 have e:itemP x sz inner ts u = itemB x sz inner ts u:=by
  cases ts with
  | nil=>rfl
  | cons k r=>
   simp only [isT] at h9
   simp [itemP,h9]
 rw [e,itemB,hb]
theorem item_note {ts rest:List Tok} {k:Tok} {u:Option Tok} {t:List StepA} (h9:isT 9 (ts++k :: rest) = false) (hb:baseP x sz inner (ts++k :: rest) u = .ok (t,k :: rest,u)) (hk:k.kind = 9):itemP x sz inner (ts++k :: rest) u = .ok (t++[⟨6,-1,0,0,0,k.text⟩],rest,u):=by
 have e:itemP x sz inner (ts++k :: rest) u = itemB x sz inner (ts++k :: rest) u:=by
  cases h:ts++k :: rest with
  | nil=>rfl
  | cons k r=>
   rw [h] at h9
   simp only [isT] at h9
   simp [itemP,h9]
 rw [e,itemB,hb]
 simp [noteP,hk]
theorem brk_head {_b:Bool} {t:Tr} {ts rest:List Tok} (h:Brk true (TokT x t) ts):isT 9 (ts++rest) = false∧isT 5 (ts++rest) = false:=by
 simp only [Brk,if_true] at h
 obtain ⟨k,us,k',rfl,hk,_⟩:=h
 simp [isT,hk]
end Go.Pv
/- What is printed is parsed to the same tree. Conditions: none; theorems. -/
namespace Go.Pv
variable {x sz:Int}
theorem main_item {inner:List Tok→Option Tok→Res (List StepA)} {l rest:List Tok} {u u':Option Tok} {t:List StepA} (h5:isT 5 l = false) (h:itemP x sz inner l u = .ok (t,rest,u')):mainP x sz inner l u = loopG x sz inner t rest u':=by
 simp only [mainP,h5,Bool.false_eq_true,if_false,h,loopG]
theorem main_err {inner:List Tok→Option Tok→Res (List StepA)} {l:List Tok} {u:Option Tok} {e:PErr} (h5:isT 5 l = false) (h:itemP x sz inner l u = .error e):mainP x sz inner l u = .error e:=by
 simp only [mainP,h5,Bool.false_eq_true,if_false,h]
theorem main_inv {inner:List Tok→Option Tok→Res (List StepA)} {k:Tok} {l rest:List Tok} {u u':Option Tok} {t:List StepA} (h5:k.kind = 5) (h:itemP x sz inner l u = .ok (t,rest,u')):mainP x sz inner (k :: l) u = loopG x sz inner (t++[stepO 5]) rest u':=by
 have e:isT 5 (k :: l) = true:=by simp [isT,h5]
 simp only [mainP,e,if_true,List.tail_cons,h,loopG,stepO]
theorem main_inv_err {inner:List Tok→Option Tok→Res (List StepA)} {k:Tok} {l:List Tok} {u:Option Tok} {e:PErr} (h5:k.kind = 5) (h:itemP x sz inner l u = .error e):mainP x sz inner (k :: l) u = .error e:=by
 have e:isT 5 (k :: l) = true:=by simp [isT,h5]
 simp only [mainP,e,if_true,List.tail_cons,h]
def ItemOk (x sz:Int) (t:Tr):Prop:=∀ (r:Nat) (ts rest:List Tok) (u:Option Tok),TokT x t ts→StopI rest→Goes r t.deep (itemP x sz (levelP x sz r) (ts++rest) u) (t.steps,rest,u)∧isT 5 (ts++rest) = false
theorem main_of_item {t:Tr} (h:ItemOk x sz t):MainOk x sz t:=by
 intro r ts rest u ht hr
 obtain ⟨⟨h1,h2⟩,h5⟩:=h r ts rest u ht hr
 exact ⟨fun hd=>main_item h5 (h1 hd),fun hd=>by obtain ⟨p,e⟩:=h2 hd; exact ⟨p,main_err h5 e⟩⟩
theorem item_brk {t:Tr} {o:Int} (ho:o = 3∨o = 4∨o = 5) (hm:MainOk x sz t) (hi:looseB (lastOp t.steps) = false→ItemOk x sz t) {r:Nat} {ts rest:List Tok} {u:Option Tok} (hb:Brk (inB o t.steps) (TokT x t) ts) (hr:StopI rest):
  Goes r (t.deep + if inB o t.steps then 1 else 0) (itemP x sz (levelP x sz r) (ts++rest) u) (t.steps,rest,u):=by
 have e:inB o t.steps = looseB (lastOp t.steps):=by
  unfold inB
  rcases ho with rfl | rfl | rfl <;> simp
 rw [e] at hb ⊢
 cases h:looseB (lastOp t.steps) with
 | false=>
  rw [h] at hb
  exact (hi h r ts rest u hb hr).1
 | true=>
  rw [h] at hb
  obtain ⟨h9,_⟩:=brk_head (_b:=true) (rest:=rest) hb
  obtain ⟨g1,g2⟩:=base_brk hm (r:=r) (rest:=rest) (u:=u) hb
  exact ⟨fun hd=>item_base h9 (g1 hd) hr.2,fun hd=>by obtain ⟨p,e⟩:=g2 hd; exact ⟨p,item_err h9 e⟩⟩
theorem tree_ok {t:Tr} (ht:TrOk t):t.fits→t.told x→MainOk x sz t∧(looseB (lastOp t.steps) = false→ItemOk x sz t):=by
 induction ht with
 | num n h1=>
  intro hf _
  have hi:ItemOk x sz (.num n):=by
   intro r ts rest u hts hr
   have hts':=hts
   obtain ⟨k,rfl,hk,hn⟩:=hts'
   have h9:isT 9 ([k]++rest) = false:=by simp [isT,hk]
   have h5:isT 5 ([k]++rest) = false:=by simp [isT,hk]
   exact ⟨⟨fun _=>item_base h9 (base_num h1 hf hts) hr.2,fun h=>absurd h (Nat.not_lt_zero _)⟩,h5⟩
  exact ⟨main_of_item hi,fun _=>hi⟩
 | sym p a n a0 a1 p0 p1 n0 n1 hm=>
  intro _ hd
  have hi:ItemOk x sz (.sym p a n):=by
   intro r ts rest u hts hr
   have hts':=hts
   obtain ⟨k,us,rfl,hk,_⟩:=hts'
   have h9:isT 9 (k :: us++rest) = false:=by simp [isT,hk]
   have h5:isT 5 (k :: us++rest) = false:=by simp [isT,hk]
   exact ⟨⟨fun _=>item_base h9 (base_sym hd n0 n1 hts hr.1) hr.2,fun h=>absurd h (Nat.not_lt_zero _)⟩,h5⟩
  exact ⟨main_of_item hi,fun _=>hi⟩
 | alone s h1 h2=>
  intro _ _
  have hi:ItemOk x sz (.alone s):=by
   rintro r ts rest u ⟨k,rfl,hk,hs⟩ hr
   have h5:isT 5 ([k]++rest) = false:=by simp [isT,hk]
   refine ⟨⟨fun _=>?_,fun h=>absurd h (Nat.not_lt_zero _)⟩,h5⟩
   simp [itemP,hk,hs,Tr.steps]
  exact ⟨main_of_item hi,fun _=>hi⟩
 | note t s ht h1 h2 ih=>
  intro hf hd
  obtain ⟨im,ii⟩:=ih hf hd.1
  have hi:ItemOk x sz (.note t s):=by
   rintro r ts rest u ⟨us,k,rfl,hb,hk,hs⟩ hr
   have hst:Stop (k :: rest):=stop_cons (by rw [hk]; decide) (by rw [hk]; decide) (by rw [hk]; decide)
   have hgo:∀ (d:Nat),Goes r d (baseP x sz (levelP x sz r) (us++k :: rest) u) (t.steps,k :: rest,u)→isT 9 (us++k :: rest) = false→isT 5 (us++k :: rest) = false→d = (Tr.note t s).deep →
     Goes r (Tr.note t s).deep (itemP x sz (levelP x sz r) (us++[k]++rest) u) ((Tr.note t s).steps,rest,u)∧isT 5 (us++[k]++rest) = false:=by
    rintro d ⟨g1,g2⟩ h9 h5 rfl
    have e:us++[k]++rest = us++k :: rest:=by simp
    rw [e]
    refine ⟨⟨fun hd=>?_,fun hd=>?_⟩,h5⟩
    ·rw [item_note h9 (g1 hd) hk,hs]
     rfl
    ·obtain ⟨p,e⟩:=g2 hd
     exact ⟨p,item_err h9 e⟩
   cases hib:inB 6 t.steps with
   | true=>
    rw [hib] at hb
    obtain ⟨h9,h5⟩:=brk_head (_b:=true) (rest:=k :: rest) hb
    exact hgo _ (base_brk im hb) h9 h5 (by simp [Tr.deep,hib])
   | false=>
    rw [hib] at hb
    have hb':TokT x t us:=hb
    cases ht with
    | num n h1=>
     have hb2:=hb'
     obtain ⟨k0,rfl,hk0,_⟩:=hb2
     exact hgo 0 ⟨fun _=>base_num h1 hf hb',fun h=>absurd h (Nat.not_lt_zero _)⟩ (by simp [isT,hk0]) (by simp [isT,hk0]) (by simp [Tr.deep,hib])
    | sym p a n a0 a1 p0 p1 n0 n1 hm=>
     have hb2:=hb'
     obtain ⟨k0,vs,rfl,hk0,_⟩:=hb2
     exact hgo 0 ⟨fun _=>base_sym hd.1 n0 n1 hb' hst,fun h=>absurd h (Nat.not_lt_zero _)⟩ (by simp [isT,hk0]) (by simp [isT,hk0]) (by simp [Tr.deep,hib])
    | alone w _ _=>
     have h7:lastOp (Tr.alone w).steps = 7:=rfl
     simp [inB,h7] at hib
    | note t w _ _ _=>simp [inB,last_note] at hib
    | inv t _=>simp [inB,last_inv,looseB] at hib
    | bin o l r ho _ _=>rcases ho with rfl | rfl <;> simp [inB,last_bin,looseB] at hib
  exact ⟨main_of_item hi,fun _=>hi⟩
 | inv t ht ih=>
  intro hf hd
  obtain ⟨im,ii⟩:=ih hf hd
  refine ⟨?_,fun h=>by simp [last_inv,looseB] at h⟩
  rintro r ts rest u ⟨k,us,rfl,hk,hb⟩ hr
  obtain ⟨g1,g2⟩:=item_brk (.inr (.inr rfl)) im ii (r:=r) (u:=u) hb hr
  exact ⟨fun hd=>main_inv hk (g1 hd),fun hd=>by obtain ⟨p,e⟩:=g2 hd; exact ⟨p,main_inv_err hk e⟩⟩
 | bin o l r' ho _ _ ih1 ih2=>
  intro hf hd
  obtain ⟨lm,_⟩:=ih1 hf.1 hd.1
  obtain ⟨rm,ri⟩:=ih2 hf.2 hd.2
  refine ⟨?_,fun h=>by rcases ho with rfl | rfl <;> simp [last_bin,looseB] at h⟩
  rintro r ts rest u ⟨us,k,vs,rfl,hl,hk,hb⟩ hr
  have hk45:k.kind = 4∨k.kind = 5:=by rw [hk]; split <;> simp
  have hst:StopI (k :: (vs++rest)):=stopI_cons (by omega) (by omega) (by omega) (by omega)
  obtain ⟨m1,m2⟩:=lm r us (k :: (vs++rest)) u hl hst
  obtain ⟨g1,g2⟩:=item_brk (by omega:o = 3∨o = 4∨o = 5) rm ri (r:=r) (u:=u) hb hr
  have e:us++k :: vs++rest = us++k :: (vs++rest):=by simp
  have hok:(if k.kind = 4 then (3:Int) else 4) = o:=by
   rw [hk]
   rcases ho with rfl | rfl <;> simp
  rw [e]
  have hdp:(Tr.bin o l r').deep = max (r'.deep + if inB o r'.steps then 1 else 0) l.deep:=rfl
  rw [hdp]
  generalize (r'.deep + if inB o r'.steps then 1 else 0) = dr at *
  refine ⟨fun hd=>?_,fun hd=>?_⟩
  ·rw [m1 (by omega),loopG_step (levelP_fits r) hk45 (g1 (by omega)),hok]
   rfl
  ·by_cases hl:l.deep ≤ r
   ·obtain ⟨p,e⟩:=g2 (by omega)
    exact ⟨p,by rw [m1 hl,loopG_err hk45 e]⟩
   ·exact m2 (by omega)
theorem parse_print (hx:isN x = true) {t:Tr} (ht:TrOk t) (hf:t.fits) (hd:t.told x) (h32:t.deep ≤ 32) (hl:(ptext x t).length ≤ 255):parseP x (ptext x t) = ⟨t.steps,0,(ptext x t).length,0⟩:=by
 obtain ⟨ts,hts,e⟩:=lx_tree hx ht hf hd [] 0 NJ.nil
 rw [List.append_nil,lexG_nil,List.append_nil,Nat.zero_add] at e
 have e':lexS x (ptext x t) = (ts,(ptext x t).length):=e
 unfold parseP
 rw [if_pos hx,if_pos hl,e']
 simp only [Nat.lt_irrefl,if_false]
 have h:=(tree_ok (x:=x) (sz:=((ptext x t).length:Int)) ht hf hd).1 32 ts [] none hts stopI_nil
 rw [List.append_nil] at h
 have h1:=h.1 h32
 rw [loopG_stop rfl rfl] at h1
 simp only [treeP,h1]
end Go.Pv
/- A number's rest; the chapter's examples. Conditions: the functions' codes; theorems. -/
namespace Go.Pv
variable {E:Env} {x:Int}
end Go.Pv
