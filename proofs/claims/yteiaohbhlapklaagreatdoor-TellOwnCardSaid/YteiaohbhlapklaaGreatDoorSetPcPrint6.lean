/- A part of the proof: functions of the program in the evaluator's code, and what they come to. Conditions: none; definitions and theorems that the statement's proof uses. -/
import Derived.Test.YteiaohbhlapklaaGreatDoorSetPcPrint5
import Derived.Test.YteiaohbhlapklaaGreatDoorSetPcBack1
import Derived.Test.YteiaohbhlapklaaGreatDoorSetPcTree9
import Derived.Test.YteiaohbhlapklaaGreatDoorSetPcTree7
import Derived.Test.YteiaohbhlapklaaGreatDoorSetPcTree15
/- The program's printer: a tree's text. Conditions: the functions' codes; theorems. -/
namespace Go.Pv
variable {E:Env} {x:Int}
theorem told_ne {p a:Int} (h:toldD x p a = true):symD x p a ≠ []:=by
 intro q
 unfold toldD toldB at h
 rw [q] at h
 simp at h
theorem noteD_len (st:Sty) (s:List UInt8):(noteD st s).length = s.length + 2:=by simp [noteD]
theorem ptext_bd {t:Tr} (ht:TrOk t):(ptext x t).length ≤ t.steps.length * 1000100:=by
 induction ht with
 | num n _=>
  have:=dec_len n.toNat
  simp only [ptext,Tr.steps,List.length_cons,List.length_nil]
  omega
 | sym p a n _ _ _ _ _ _ _=>
  have h1:=symD_len x p a
  have h2:=powT_len (sty x) n
  simp only [ptext,Tr.steps,List.length_cons,List.length_nil,List.length_append]
  omega
 | alone s _ h2=>
  simp only [ptext,Tr.steps,List.length_cons,List.length_nil,noteD_len]
  omega
 | note t s _ _ h2 ih=>
  have:=brk_len (inB 6 t.steps) (ptext x t)
  simp only [ptext,Tr.steps,List.length_cons,List.length_nil,List.length_append,noteD_len]
  omega
 | inv t _ ih=>
  have:=brk_len (inB 5 t.steps) (ptext x t)
  simp only [ptext,Tr.steps,List.length_cons,List.length_nil,List.length_append]
  omega
 | bin o l r _ _ _ ih1 ih2=>
  have:=brk_len (inB o r.steps) (ptext x r)
  simp only [ptext,Tr.steps,List.length_cons,List.length_nil,List.length_append]
  omega
theorem last_note (t:Tr) (s:List UInt8):lastOp (Tr.note t s).steps = 6:=by rw [Tr.steps,last_snoc]
theorem last_inv (t:Tr):lastOp (Tr.inv t).steps = 5:=by rw [Tr.steps,last_snoc]; rfl
theorem last_bin (o:Int) (l r:Tr):lastOp (Tr.bin o l r).steps = o:=by rw [Tr.steps,last_snoc]; rfl
theorem walk_tr (H:Has 252 E) (hn:isN x = true) {own:Own} {T:List StepA} (hT:T.length ≤ 255) {t:Tr} (ht:TrOk t):t.fits→t.told x→∀ (a b:List StepA) (h:AHeap) (st:List (List UInt8 × Int)),T = a++(t.steps++b)→st.length + t.steps.length ≤ 1000→PStk x h st →
  ∃ h',PStk x h' ((ptext x t,lastOp t.steps) :: st)∧GoesT E x (.vs own T.length (T.flatMap StepA.cs)) T.length a.length h (a.length + t.steps.length) h':=by
 induction ht with
 | num n n0=>
  intro hf _ a b h st hE hst S
  simp only [Tr.steps,List.length_cons,List.length_nil] at hst
  exact step_num H (hE ▸ at_of) hT n0 hf S (by omega)
 | sym p i n a0 a1 p0 p1 n0 n1 hm=>
  intro hf hd a b h st hE hst S
  simp only [Tr.steps,List.length_cons,List.length_nil] at hst
  exact step_sym H hn (hE ▸ at_of) hT (.sym p i n a0 a1 p0 p1 n0 n1 hm) (told_ne hd) S (by omega)
 | alone s h1 h2=>
  intro hf hd a b h st hE hst S
  simp only [Tr.steps,List.length_cons,List.length_nil] at hst
  exact step_alone H (hE ▸ at_of) hT h2 S (by omega)
 | note t s ht h1 h2 ih=>
  intro hf hd a b h st hE hst S
  have hlen:(Tr.note t s).steps.length = t.steps.length + 1:=by simp [Tr.steps]
  rw [hlen] at hst
  have hE2:T = a++(t.steps++(⟨6,-1,0,0,0,s⟩ :: b)):=by rw [hE]; simp [Tr.steps]
  obtain ⟨h1',S1,G1⟩:=ih hf hd.1 a _ h st hE2 (by omega) S
  have hb:=ptext_bd (x:=x) ht
  have hl:t.steps.length ≤ 255:=by rw [hE2] at hT; simp at hT; omega
  have hA:AtS T (a.length + t.steps.length) ⟨6,-1,0,0,0,s⟩:=by
   have:=@at_of (a++t.steps) b ⟨6,-1,0,0,0,s⟩
   rw [List.append_assoc,← hE2,List.length_append] at this
   exact this
  obtain ⟨h2',S2,G2⟩:=step_note H (own:=own) hA hT h2 (p:=(ptext x t,lastOp t.steps)) (by show (ptext x t).length < _; omega) S1
  refine ⟨h2',?_,?_⟩
  ·rw [last_note]
   exact S2
  ·rw [hlen,← Nat.add_assoc]
   exact G1.trans G2
 | inv t ht ih=>
  intro hf hd a b h st hE hst S
  have hlen:(Tr.inv t).steps.length = t.steps.length + 1:=by simp [Tr.steps]
  rw [hlen] at hst
  have hE2:T = a++(t.steps++(stepO 5 :: b)):=by rw [hE]; simp [Tr.steps]
  obtain ⟨h1',S1,G1⟩:=ih hf hd a _ h st hE2 (by omega) S
  have hb:=ptext_bd (x:=x) ht
  have hl:t.steps.length ≤ 255:=by rw [hE2] at hT; simp at hT; omega
  have hA:AtS T (a.length + t.steps.length) (stepO 5):=by
   have:=@at_of (a++t.steps) b (stepO 5)
   rw [List.append_assoc,← hE2,List.length_append] at this
   exact this
  obtain ⟨h2',S2,G2⟩:=step_inv H (own:=own) hA hT (p:=(ptext x t,lastOp t.steps)) (by show (ptext x t).length < _; omega) S1
  refine ⟨h2',?_,?_⟩
  ·rw [last_inv]
   exact S2
  ·rw [hlen,← Nat.add_assoc]
   exact G1.trans G2
 | bin o l r ho hl hr ih1 ih2=>
  intro hf hd a b h st hE hst S
  have hlen:(Tr.bin o l r).steps.length = l.steps.length + r.steps.length + 1:=by simp [Tr.steps]; omega
  rw [hlen] at hst
  have hp:=Tr.steps_pos l
  have hE1:T = a++(l.steps++(r.steps++stepO o :: b)):=by rw [hE]; simp [Tr.steps]
  have hE2:T = (a++l.steps)++(r.steps++(stepO o :: b)):=by rw [hE1]; simp
  obtain ⟨h1',S1,G1⟩:=ih1 hf.1 hd.1 a _ h st hE1 (by omega) S
  obtain ⟨h2',S2,G2⟩:=ih2 hf.2 hd.2 (a++l.steps) _ h1' _ hE2 (by simp only [List.length_cons]; omega) S1
  rw [List.length_append] at G2
  have hb1:=ptext_bd (x:=x) hl
  have hb2:=ptext_bd (x:=x) hr
  have hlT:l.steps.length + r.steps.length ≤ 255:=by rw [hE1] at hT; simp at hT; omega
  have hA:AtS T (a.length + l.steps.length + r.steps.length) (stepO o):=by
   have:=@at_of (a++l.steps++r.steps) b (stepO o)
   rw [List.append_assoc (a++l.steps),← hE2,List.length_append,List.length_append] at this
   exact this
  obtain ⟨h3',S3,G3⟩:=step_bin H (own:=own) ho hA hT (q:=(ptext x r,lastOp r.steps)) (p:=(ptext x l,lastOp l.steps)) (by show (ptext x r).length < _; omega) (by show (ptext x l).length < _; omega) S2
  refine ⟨h3',?_,?_⟩
  ·rw [last_bin]
   exact S3
  ·rw [hlen,show a.length + (l.steps.length + r.steps.length + 1) = a.length + l.steps.length + r.steps.length + 1 by omega]
   exact (G1.trans G2).trans G3
theorem text252_eq (H:Has 252 E) (hn:isN x = true) {t:Tr} (ht:TrOk t) (hf:t.fits) (hd:t.told x) (hl:t.steps.length ≤ 255) {v:AV} (hv:TreeV v t.steps):EvClosed E (.fn (.func 252) [] []) [.int .i64 x,v] = some (.str (ptext x t)):=by
 obtain ⟨v',sv,hv'⟩:=tree_shut hv
 rw [EvClosed_eq H.c252 rfl (vs:=[.int .i64 x,v']) (by simp [sv]),EvFn_eq]
 have hpos:=Tr.steps_pos t
 rcases hv' with ⟨_,h0⟩ | ⟨own,rfl⟩
 ·rw [h0] at hpos
  simp at hpos
 have ho:=of_eq (H.to 44) x
 rw [hn] at ho
 have S:PStk x ((heap0.push (.cells (sty x).cs)).push (.cells [.nils])) []:=⟨rfl,⟨.nils,rfl,.inl ⟨rfl,rfl⟩⟩,rfl,by simp⟩
 obtain ⟨g,Sg,G⟩:=walk_tr H hn (own:=own) hl ht hf hd [] [] _ [] (by simp) (by simp; omega) S
 simp only [List.length_nil,Nat.zero_add] at G
 obtain ⟨_,⟨w,q1,q2⟩,gro,_⟩:=Sg
 rcases q2 with ⟨_,q2⟩ | ⟨b,junk,hb,rfl,q2⟩
 ·cases q2
 simp only [List.reverse_cons,List.reverse_nil,List.nil_append,List.flatMap_cons,List.flatMap_nil,List.append_nil,partC,List.cons_append,List.length_cons,List.length_nil,Nat.zero_add] at q1 q2
 have hend:=G (some (.exit 0,x252_0 (.ref 1 0),g)) (fun F' hF=>by
  rw [EvCode_loop,hF]
  simp [l252_0,s252_0,x252_0])
 simp only [Sty.cs] at ho hend
 generalize t.steps.flatMap StepA.cs = ca at *
 generalize ptext x t = pt at *
 simp [f252,start,EvCall_closed H.c44 rfl,ho,push_setk,bl_push]
 rw [hend _ (by simp [s252_0])]
 simp [x252_0,q1,q2]
end Go.Pv
/- Which steps may be: any step. Conditions: the functions' codes; theorems. -/
namespace Go.Pv
variable {E:Env} {h:AHeap}
end Go.Pv
/- Which steps may be, and which rows of them are trees: any steps. Conditions: the functions' codes; theorems. -/
namespace Go.Pv
variable {E:Env} {h:AHeap}
end Go.Pv
/- Which rows of steps are trees: any steps. Conditions: the functions' codes; theorems. -/
namespace Go.Pv
variable {E:Env} {h:AHeap}
end Go.Pv
/- The program's printer. Conditions: the functions' codes; theorems. -/
namespace Go.Pv
variable {E:Env} {x:Int} {h:AHeap}
theorem tells_bad (H:Has 251 E) (hn:isN x = true) {s:StepA} (hs:StepOk s):EvClosed E (.fn (.func 251) [] []) [.int .i64 x,.agg s.cs] = some (.int .i64 ((badD x s).getD 0)):=by
 rw [tells251_eq H hn hs]
 unfold badD
 congr 2
 show (if s.op == 2 && !toldD x s.pfx s.atom then (16:Int) else _) = _
 split
 ·rfl
 ·split <;> rfl
theorem bad_or {s:StepA} {e:Int} (h:badD x s = some e):e = 16∨e = 17:=by
 unfold badD at h
 split at h
 ·cases h; exact .inl rfl
 ·split at h
  ·cases h; exact .inr rfl
  ·cases h
def atV (m:Option (Nat × Int)):Int:=match m with | none=>0 | some (i,_)=>i
def erV (m:Option (Nat × Int)):Int:=match m with | none=>0 | some (_,e)=>e
set_option maxRecDepth 20000 in
theorem print235_loop (H:Has 235 E) (hn:isN x = true) {own:Own} {t:List StepA} (hok:∀ s ∈ t,StepOk s) (hl:t.length < 1000000):∀ (m i:Nat),i + m = t.length→∀ (h:AHeap),h.ro = 0 →
  ∃ h':AHeap,h'.ro = 0∧∀ F,mask k235_0 F = s235_0 (.int .i64 x) (.vs own t.length (t.flatMap StepA.cs)) (.int .i64 0) (.int .i64 0) (.vs own t.length (t.flatMap StepA.cs)) (.int .i64 t.length) (.int .i64 i) →
   EvCode E (.loop k235_0 l235_0) F h = some (.exit 0,x235_0 (.int .i64 x) (.vs own t.length (t.flatMap StepA.cs)) (.int .i64 (atV (missD x (t.drop i) i))) (.int .i64 (erV (missD x (t.drop i) i))),h')
 | 0,i,hi,h,hro=>by
  have:i = t.length:=by omega
  subst this
  rw [List.drop_length]
  refine ⟨h,hro,fun F hF=>?_⟩
  rw [EvCode_loop,hF]
  simp [l235_0,s235_0,x235_0,missD,atV,erV]
 | m + 1,i,hi,h,hro=>by
  have hlt:i < t.length:=by omega
  rw [List.drop_eq_getElem_cons hlt]
  have hsok:=hok t[i] (List.getElem_mem hlt)
  have ht:=tells_bad (H.to 251) hn hsok
  have e6:((t.flatMap StepA.cs).drop (i * 6)).take 6 = t[i].cs:=fm_el StepA.len hlt
  have ll:(t.flatMap StepA.cs).length = t.length * 6:=fm_len StepA.len t
  have hd:decide ((i:Int) < (t.length:Int)) = true:=decide_eq_true (by omega)
  have h6:6 ≤ t.length * 6 - i * 6:=by omega
  have h60:i * 6 < t.length * 6:=by omega
  have w1:IntKind.i64.wrap ((i:Int) + 1) = (i:Int) + 1:=w64
  simp only [missD]
  cases hb:badD x t[i] with
  | some e=>
   rw [hb] at ht
   refine ⟨h.push (.cells t[i].cs),by simpa using hro,fun F hF=>?_⟩
   rw [EvCode_loop,hF]
   have he0:(e != 0) = true:=by rcases bad_or hb with rfl | rfl <;> rfl
   have he1:¬ e = 0:=by rcases bad_or hb with rfl | rfl <;> decide
   simp only [StepA.cs] at e6 ht ⊢
   generalize t.flatMap StepA.cs = ca at *
   generalize EvCode E (.loop k235_0 l235_0) = lp
   simp [l235_0,s235_0,x235_0,hlt,ll,h6,h60,e6,hro,push_setk,bl_push,EvCall_closed H.c251 rfl,ht,he0,atV,erV]
  | none=>
   rw [hb] at ht
   obtain ⟨g,g0,hg⟩:=print235_loop H hn (own:=own) hok hl m (i + 1) (by omega) (h.push (.cells t[i].cs)) (by simpa using hro)
   refine ⟨g,g0,fun F hF=>?_⟩
   rw [EvCode_loop,hF]
   simp only [StepA.cs] at e6 ht hg ⊢
   generalize t.flatMap StepA.cs = ca at *
   generalize EvCode E (.loop k235_0 l235_0) = lp at hg ⊢
   simp [l235_0,s235_0,hlt,ll,h6,h60,e6,hro,push_setk,bl_push,EvCall_closed H.c251 rfl,ht,w1]
   exact hg _ (by simp [s235_0])
theorem miss_er {t:List StepA}:∀ {i j:Nat} {e:Int},missD x t i = some (j,e)→e = 16∨e = 17:=by
 induction t with
 | nil=>intro i j e h; cases h
 | cons s r ih=>
  intro i j e h
  simp only [missD] at h
  split at h
  ·rename_i e' he
   cases h
   exact bad_or he
  ·exact ih h
def prtT (p:List UInt8 × Nat × Int):AV:=.tuple [.str p.1,.int .i64 p.2.1,.int .i64 p.2.2]
set_option maxRecDepth 20000 in
theorem print235_eq (H:Has 235 E) (hn:isN x = true) {t:Tr} (ht:TrOk t) (hf:t.fits) (hl:t.steps.length ≤ 255) {v:AV} (hv:TreeV v t.steps):EvClosed E (.fn (.func 235) [] []) [.int .i64 x,v] = some (prtT (printD x t)):=by
 obtain ⟨v',sv,hv'⟩:=tree_shut hv
 rw [EvClosed_eq H.c235 rfl (vs:=[.int .i64 x,v']) (by simp [sv]),EvFn_eq]
 have hs:=sound168_eq (H.to 168) ht hv' hl
 have hnt:=nest169_eq (H.to 169) ht hl hv'
 have ho:=of_eq (H.to 44) x
 rw [hn] at ho
 have htx:=fun hm:missD x t.steps 0 = none=>text252_eq (H.to 252) hn ht hf (told_of t 0 hm) hl hv'
 have hpos:=Tr.steps_pos t
 rcases hv' with ⟨_,h0⟩ | ⟨own,rfl⟩
 ·rw [h0] at hpos
  simp at hpos
 obtain ⟨g,hgr,hg⟩:=print235_loop H hn (own:=own) (tr_steps ht) (by omega) t.steps.length 0 (by omega) (heap0.push (.cells (sty x).cs)) rfl
 rw [List.drop_zero] at hg
 unfold printD
 cases hm:missD x t.steps 0 with
 | some ie=>
  obtain ⟨i,e⟩:=ie
  rw [hm] at hg
  have he0:(e != 0) = true:=by rcases miss_er hm with rfl | rfl <;> rfl
  have he1:¬ e = 0:=by rcases miss_er hm with rfl | rfl <;> decide
  simp only [atV,erV,Sty.cs] at hg ho ⊢
  generalize t.steps.flatMap StepA.cs = ca at *
  simp [f235,start,EvCall_closed H.c44 rfl,EvCall_closed H.c168 rfl,hs,ho,push_setk]
  rw [hg _ (by simp [s235_0])]
  simp [x235_0,he0,prtT]
 | none=>
  rw [hm] at hg
  have htx:=htx hm
  simp only [atV,erV,Sty.cs] at hg ho ⊢
  generalize t.steps.flatMap StepA.cs = ca at *
  generalize ptext x t = s at *
  by_cases hd:32 < t.deep
  ·have d3:decide ((32:Int) < (t.deep:Int)) = true:=decide_eq_true (by omega)
   simp [f235,start,EvCall_closed H.c44 rfl,EvCall_closed H.c168 rfl,hs,ho,push_setk]
   rw [hg _ (by simp [s235_0])]
   simp [x235_0,EvCall_closed H.c169 rfl,hnt,d3,hd,prtT]
  ·have d3:decide ((32:Int) < (t.deep:Int)) = false:=decide_eq_false (by omega)
   cases hd2:decide (255 < s.length)
   ·have d4:decide ((255:Int) < (s.length:Int)) = false:=decide_eq_false (by have:=of_decide_eq_false hd2; omega)
    have d5:=of_decide_eq_false hd2
    simp [f235,start,EvCall_closed H.c44 rfl,EvCall_closed H.c168 rfl,hs,ho,push_setk]
    rw [hg _ (by simp [s235_0])]
    simp [x235_0,EvCall_closed H.c169 rfl,EvCall_closed H.c252 rfl,hnt,htx,d3,d4,d5,hd,prtT]
   ·have d4:decide ((255:Int) < (s.length:Int)) = true:=decide_eq_true (by have:=of_decide_eq_true hd2; omega)
    have d5:=of_decide_eq_true hd2
    simp [f235,start,EvCall_closed H.c44 rfl,EvCall_closed H.c168 rfl,hs,ho,push_setk]
    rw [hg _ (by simp [s235_0])]
    simp [x235_0,EvCall_closed H.c169 rfl,EvCall_closed H.c252 rfl,hnt,htx,d3,d4,d5,hd,prtT]
end Go.Pv
/- What is printed is parsed to the same tree. Conditions: none; theorems. -/
namespace Go.Pv
variable {x sz:Int}
def Stop (rest:List Tok):Prop:=isT 2 rest = false∧isT 3 rest = false∧isT 6 rest = false
def StopI (rest:List Tok):Prop:=Stop rest∧isT 9 rest = false
theorem stop_cons {k:Tok} {r:List Tok} (h2:k.kind ≠ 2) (h3:k.kind ≠ 3) (h6:k.kind ≠ 6):Stop (k :: r):=⟨by simpa [isT] using h2,by simpa [isT] using h3,by simpa [isT] using h6⟩
theorem stopI_cons {k:Tok} {r:List Tok} (h2:k.kind ≠ 2) (h3:k.kind ≠ 3) (h6:k.kind ≠ 6) (h9:k.kind ≠ 9):StopI (k :: r):=⟨stop_cons h2 h3 h6,by simpa [isT] using h9⟩
theorem stopI_nil:StopI []:=⟨⟨rfl,rfl,rfl⟩,rfl⟩
def loopG (x sz:Int) (inner:List Tok→Option Tok→Res (List StepA)) (t:List StepA) (l:List Tok) (u:Option Tok):Res (List StepA):=loopP x sz inner l.length t l u
variable {inner:List Tok→Option Tok→Res (List StepA)}
theorem loop_fuel (hi:∀ l u,Fits 0 l (inner l u)):∀ (n f:Nat) (t:List StepA) (l:List Tok) (u:Option Tok),l.length ≤ n→l.length ≤ f→loopP x sz inner f t l u = loopG x sz inner t l u:=by
 intro n
 induction n with
 | zero=>
  intro f t l u hn _
  have:l = []:=List.eq_nil_of_length_eq_zero (by omega)
  subst this
  cases f <;> rfl
 | succ n ih=>
  intro f t l u hn hf
  cases l with
  | nil=>cases f <;> rfl
  | cons k r=>
   cases f with
   | zero=>simp at hf
   | succ f=>
    unfold loopG
    simp only [List.length_cons] at hn hf ⊢
    simp only [loopP]
    split
    ·have hfit:=itemP_fits (x:=x) (sz:=sz) hi r u
     cases h:itemP x sz inner r u with
     | error e=>rfl
     | ok q=>
      obtain ⟨t',l',u'⟩:=q
      rw [h] at hfit
      simp only [Fits] at hfit
      exact (ih f _ l' u' (by omega) (by omega)).trans (ih r.length _ l' u' (by omega) (by omega)).symm
    ·rfl
theorem loopG_stop {t:List StepA} {l:List Tok} {u:Option Tok} (h4:isT 4 l = false) (h5:isT 5 l = false):loopG x sz inner t l u = .ok (t,l,u):=by
 cases l with
 | nil=>rfl
 | cons k r=>
  simp only [isT] at h4 h5
  simp only [loopG,List.length_cons,loopP,h4,h5,Bool.or_self,Bool.false_eq_true,if_false]
theorem loopG_step (hi:∀ l u,Fits 0 l (inner l u)) {t t':List StepA} {k:Tok} {r l':List Tok} {u u':Option Tok} (hk:k.kind = 4∨k.kind = 5) (h:itemP x sz inner r u = .ok (t',l',u')):
  loopG x sz inner t (k :: r) u = loopG x sz inner (t++t'++[stepO (if k.kind = 4 then 3 else 4)]) l' u':=by
 have hfit:=itemP_fits (x:=x) (sz:=sz) hi r u
 rw [h] at hfit
 simp only [Fits] at hfit
 have hk':(k.kind == 4 || k.kind == 5) = true:=by rcases hk with e | e <;> simp [e]
 have e:loopG x sz inner t (k :: r) u = loopP x sz inner r.length (t++t'++[⟨if k.kind == 4 then 3 else 4,-1,0,0,0,[]⟩]) l' u':=by
  simp only [loopG,List.length_cons,loopP,hk',if_true,h]
 rw [e,loop_fuel hi l'.length _ _ _ _ (Nat.le_refl _) (by omega)]
 rcases hk with e | e <;> simp [e,stepO]
theorem loopG_err {t:List StepA} {k:Tok} {r:List Tok} {u:Option Tok} {e:PErr} (hk:k.kind = 4∨k.kind = 5) (h:itemP x sz inner r u = .error e):loopG x sz inner t (k :: r) u = .error e:=by
 have hk':(k.kind == 4 || k.kind == 5) = true:=by rcases hk with e | e <;> simp [e]
 simp only [loopG,List.length_cons,loopP,hk',if_true,h]
theorem num_tok {m:Tok} {rest:List Tok} {lo hi n:Int} (hk:m.kind = 2) (hn:m.n = n) (h1:lo ≤ n) (h2:n ≤ hi):numP sz lo hi (m :: rest) = .ok (n,rest):=by
 simp [numP,hk,hn,h1,h2]
theorem numTok_pow {n:Int} {us rest:List Tok} (h1:-99 ≤ n) (h2:n ≤ 99) (h:NumTok n us):powN sz (us++rest) = .ok (n,rest):=by
 unfold NumTok at h
 split at h
 ·rename_i hneg
  obtain ⟨k,m,rfl,hk,hkt,hm,hmn⟩:=h
  have:=num_tok (sz:=sz) (rest:=rest) (lo:=0) (hi:=99) hm hmn (by omega) (by omega)
  simp [powN,hk,hkt,this]
 ·obtain ⟨m,rfl,hm,hmn⟩:=h
  have:=num_tok (sz:=sz) (rest:=rest) (lo:=0) (hi:=99) hm hmn (by omega) (by omega)
  have hk3:(m.kind == 3) = false:=by simp [hm]
  simp only [List.cons_append,List.nil_append,powN,hk3,Bool.false_eq_true,if_false]
  exact this
theorem powTok_ok {pw:Bool} {n:Int} {us rest:List Tok} (h1:-99 ≤ n) (h2:n ≤ 99) (h:PowTok pw n us) (hr:Stop rest):powP pw sz (us++rest) = .ok (n,rest):=by
 obtain ⟨r2,r3,r6⟩:=hr
 unfold PowTok at h
 split at h
 ·rename_i hn
  subst h hn
  cases pw <;> simp [powP,r2,r3,r6]
 ·cases pw with
  | true=>
   simp only [if_true] at h
   obtain ⟨k,vs,rfl,hk,hv⟩:=h
   have:=numTok_pow (sz:=sz) (rest:=rest) h1 h2 hv
   have e6:isT 6 (k :: (vs++rest)) = true:=by simp [isT,hk]
   simp only [powP,if_true,List.cons_append,e6,List.tail_cons,this]
  | false=>
   simp only [Bool.false_eq_true,if_false] at h
   have:=numTok_pow (sz:=sz) (rest:=rest) h1 h2 h
   have e:(isT 3 (us++rest) || isT 2 (us++rest)) = true:=by
    unfold NumTok at h
    split at h
    ·obtain ⟨k,m,rfl,hk,_⟩:=h
     simp [isT,hk]
    ·obtain ⟨m,rfl,hm,_⟩:=h
     simp [isT,hm]
   simp only [powP,Bool.false_eq_true,if_false,e,if_true,this]
def Goes (r deep:Nat) (q:Res (List StepA)) (v:List StepA × List Tok × Option Tok):Prop:=(deep ≤ r→q = .ok v)∧(r < deep→∃ p,q = .error (13,p))
def MainOk (x sz:Int) (t:Tr):Prop:=∀ (r:Nat) (ts rest:List Tok) (u:Option Tok),TokT x t ts→StopI rest →
 (t.deep ≤ r→mainP x sz (levelP x sz r) (ts++rest) u = loopG x sz (levelP x sz r) t.steps rest u)∧(r < t.deep→∃ p,mainP x sz (levelP x sz r) (ts++rest) u = .error (13,p))
theorem base_brk {t:Tr} (h:MainOk x sz t) {r:Nat} {ts rest:List Tok} {u:Option Tok} (hb:Brk true (TokT x t) ts):Goes r (t.deep + 1) (baseP x sz (levelP x sz r) (ts++rest) u) (t.steps,rest,u):=by
 simp only [Brk,if_true] at hb
 obtain ⟨k,us,k',rfl,hk,hk',hu⟩:=hb
 have e:baseP x sz (levelP x sz r) (k :: (us++[k'])++rest) u = levelP x sz r (k :: (us++(k' :: rest))) u:=by
  rw [List.cons_append,List.append_assoc]
  simp [baseP,hk]
 rw [e]
 cases r with
 | zero=>exact ⟨fun h=>by omega,fun _=>⟨_,rfl⟩⟩
 | succ r=>
  have hst:StopI (k' :: rest):=stopI_cons (by rw [hk']; decide) (by rw [hk']; decide) (by rw [hk']; decide) (by rw [hk']; decide)
  obtain ⟨h1,h2⟩:=h r us (k' :: rest) u hu hst
  refine ⟨fun hd=>?_,fun hd=>?_⟩
  ·have h1:=h1 (by omega)
   rw [loopG_stop (by simp [isT,hk']) (by simp [isT,hk'])] at h1
   simp [levelP,h1,closeP,hk']
  ·obtain ⟨p,h2⟩:=h2 (by omega)
   exact ⟨p,by simp [levelP,h2]⟩
theorem base_num {n:Int} (h1:1 ≤ n) (h2:n ≤ 9223372036854775807) {ts rest:List Tok} {u:Option Tok} (h:TokT x (.num n) ts):baseP x sz inner (ts++rest) u = .ok ((Tr.num n).steps,rest,u):=by
 obtain ⟨k,rfl,hk,hn⟩:=h
 have:=num_tok (sz:=sz) (rest:=rest) (lo:=1) (hi:=maxNum) hk hn h1 (by simpa [maxNum] using h2)
 simp [baseP,hk,this,Tr.steps]
theorem base_sym {p a n:Int} (hd:toldD x p a = true) (h1:-99 ≤ n) (h2:n ≤ 99) {ts rest:List Tok} {u:Option Tok} (h:TokT x (.sym p a n) ts) (hr:Stop rest):baseP x sz inner (ts++rest) u = .ok ((Tr.sym p a n).steps,rest,u):=by
 obtain ⟨k,us,rfl,hk,ht,hp⟩:=h
 have:=powTok_ok (sz:=sz) h1 h2 hp hr
 obtain ⟨_,hf⟩:=told_sym hd
 have e:symP x sz k (us++rest) u = .ok ((Tr.sym p a n).steps,rest,u):=by
  simp only [symP,this,ht,hf,unkP,Bool.not_true,Bool.false_and,Bool.false_eq_true,if_false,Tr.steps]
 have hk1:(k.kind == 1) = true:=by simp [hk]
 rw [List.cons_append]
 simp only [baseP,hk1,if_true,e]
theorem item_base {ts rest:List Tok} {u:Option Tok} {t:List StepA} (h9:isT 9 (ts++rest) = false) (hb:baseP x sz inner (ts++rest) u = .ok (t,rest,u)) (hr:isT 9 rest = false):itemP x sz inner (ts++rest) u = .ok (t,rest,u):=by
 have e:itemP x sz inner (ts++rest) u = itemB x sz inner (ts++rest) u:=by
  cases h:ts++rest with
  | nil=>rfl
  | cons k r=>
   rw [h] at h9
   simp only [isT] at h9
   simp [itemP,h9]
 rw [e,itemB,hb]
 cases rest with
 | nil=>rfl
 | cons k r=>
  simp only [isT] at hr
  simp [noteP,hr]
theorem item_err {ts:List Tok} {u:Option Tok} {e:PErr} (h9:isT 9 ts = false) (hb:baseP x sz inner ts u = .error e):itemP x sz inner ts u = .error e:=by
 have e:itemP x sz inner ts u = itemB x sz inner ts u:=by
  cases ts with
  | nil=>rfl
  | cons k r=>
   simp only [isT] at h9
   simp [itemP,h9]
 rw [e,itemB,hb]
theorem item_note {ts rest:List Tok} {k:Tok} {u:Option Tok} {t:List StepA} (h9:isT 9 (ts++k :: rest) = false) (hb:baseP x sz inner (ts++k :: rest) u = .ok (t,k :: rest,u)) (hk:k.kind = 9):itemP x sz inner (ts++k :: rest) u = .ok (t++[⟨6,-1,0,0,0,k.text⟩],rest,u):=by
 have e:itemP x sz inner (ts++k :: rest) u = itemB x sz inner (ts++k :: rest) u:=by
  cases h:ts++k :: rest with
  | nil=>rfl
  | cons k r=>
   rw [h] at h9
   simp only [isT] at h9
   simp [itemP,h9]
 rw [e,itemB,hb]
 simp [noteP,hk]
theorem brk_head {_b:Bool} {t:Tr} {ts rest:List Tok} (h:Brk true (TokT x t) ts):isT 9 (ts++rest) = false∧isT 5 (ts++rest) = false:=by
 simp only [Brk,if_true] at h
 obtain ⟨k,us,k',rfl,hk,_⟩:=h
 simp [isT,hk]
end Go.Pv
