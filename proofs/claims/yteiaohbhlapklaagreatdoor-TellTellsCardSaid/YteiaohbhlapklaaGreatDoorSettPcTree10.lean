/- A part of the proof: functions of the program in the evaluator's code, and what they come to. Conditions: none; definitions and theorems that the statement's proof uses. -/
import Derived.Test.YteiaohbhlapklaaGreatDoorSettPcTree8
import Derived.Test.YteiaohbhlapklaaGreatDoorSettPcTree5
import Derived.Test.YteiaohbhlapklaaGreatDoorSettPcLex8
/- The reference's text of a tree. Conditions: the functions' codes; theorems. -/
namespace Go.Pv
variable {E:Env}
def noteD (st:Sty) (s:List UInt8):List UInt8:=st.opn :: (s++[st.cls])
def brkD (b:Bool) (s:List UInt8):List UInt8:=if b then 40 :: (s++[41]) else s
def ptext (x:Int):Tr→List UInt8
 | .num n=>decSt n.toNat
 | .sym p a n=>symD x p a++powT (sty x) n
 | .alone s=>noteD (sty x) s
 | .note t s=>brkD (inB 6 t.steps) (ptext x t)++noteD (sty x) s
 | .inv t=>(sty x).div :: brkD (inB 5 t.steps) (ptext x t)
 | .bin o l r=>ptext x l++(if o = 3 then (sty x).mul else (sty x).div) :: brkD (inB o r.steps) (ptext x r)
def Tr.fits:Tr→Prop
 | .num n=>n ≤ 9223372036854775807
 | .sym _ _ _=>True
 | .alone _=>True
 | .note t _=>t.fits
 | .inv t=>t.fits
 | .bin _ l r=>l.fits∧r.fits
theorem brk_len (b:Bool) (s:List UInt8):(brkD b s).length ≤ s.length + 2:=by
 unfold brkD
 split <;> simp
theorem ptext_len (x:Int) {t:Tr} (ht:TrOk t):(ptext x t).length ≤ t.steps.length * 1000100:=by
 induction ht with
 | num n h1=>
  have:=dec_len n.toNat
  simp only [ptext,Tr.steps,List.length_cons,List.length_nil]
  omega
 | sym p a n=>
  have h1:=symD_len x p a
  have h2:=powT_len (sty x) n
  simp only [ptext,Tr.steps,List.length_cons,List.length_nil,List.length_append]
  omega
 | alone s h1 h2=>
  simp only [ptext,noteD,Tr.steps,List.length_cons,List.length_nil,List.length_append]
  omega
 | note t s _ h1 h2 ih=>
  have:=brk_len (inB 6 t.steps) (ptext x t)
  simp only [ptext,noteD,Tr.steps,List.length_cons,List.length_nil,List.length_append]
  omega
 | inv t _ ih=>
  have:=brk_len (inB 5 t.steps) (ptext x t)
  simp only [ptext,Tr.steps,List.length_cons,List.length_nil,List.length_append,stepO]
  omega
 | bin o l r ho _ _ ih1 ih2=>
  have:=brk_len (inB o r.steps) (ptext x r)
  simp only [ptext,Tr.steps,List.length_cons,List.length_nil,List.length_append,stepO]
  omega
theorem last6 {a:List StepA} {x:StepA}:(((a++[x]).flatMap StepA.cs).drop (a.length * 6)).take 6 = x.cs:=by
 rw [fm_el StepA.len (l:=a++[x]) (by simp)]
 simp
set_option maxHeartbeats 4000000 in
theorem text_leaf (H:Has 174 E) {x:Int} (hn:isN x = true) {t:Tr} (ht:TrOk t) (hf:t.fits) {s:StepA} (hs:t.steps = [s]) {v:AV} (hv:TreeV v t.steps):EvClosed E (.fn (.func 174) [] []) [.int .i64 x,v] = some (.str (ptext x t)):=by
 obtain ⟨v',sv,hv'⟩:=tree_shut hv
 rw [EvClosed_eq H.c174 rfl (vs:=[.int .i64 x,v']) (by simp [sv]),EvFn_eq]
 have ho:=refOf_eq (H.to 19) x
 simp only [Sty.cs] at ho
 have hb1:=byteOf_eq (H.to 185) (sty x).opn
 have hb2:=byteOf_eq (H.to 185) (sty x).cls
 have w0:IntKind.i64.wrap 0 = 0:=w64
 rcases hv' with ⟨_,h0⟩ | ⟨own,rfl⟩
 ·rw [hs] at h0
  cases h0
 rw [hs]
 cases ht with
 | num n h1=>
  cases hs
  have hn':n ≤ 9223372036854775807:=hf
  obtain ⟨m,rfl⟩:∃ m:Nat,n = m:=⟨n.toNat,by omega⟩
  have hd:=digits_eq (H.to 186) (n:=m) (by omega)
  simp [f174,start,StepA.cs,EvCall_closed H.c19 rfl,EvCall_closed H.c186 rfl,ho,hb1,hb2,hd,w0,push_setk,ptext]
 | sym p a n a0 a1 p0 p1 n0 n1 hm=>
  cases hs
  have hd:=sym187_eq (H.to 187) hn (s:=⟨2,p,a,n,0,[]⟩) p0 p1 a0 a1 n0 n1
  simp only [StepA.cs] at hd
  simp [f174,start,StepA.cs,EvCall_closed H.c19 rfl,EvCall_closed H.c187 rfl,ho,hb1,hb2,hd,w0,push_setk,ptext]
 | alone w h1 h2=>
  cases hs
  have l1:1 + w.length ≤ 9223372036854775807:=by omega
  have l1':w.length + 1 ≤ 9223372036854775807:=by omega
  have l2:w.length + 1 + 1 ≤ 9223372036854775807:=by omega
  simp [f174,start,StepA.cs,EvCall_closed H.c19 rfl,ho,hb1,hb2,w0,push_setk,ptext,noteD,l1,l2]
 | note t w=>have h1:=Tr.steps_pos t; have h2:=congrArg List.length hs; simp only [Tr.steps,List.length_append,List.length_cons,List.length_nil] at h2; omega
 | inv t=>have h1:=Tr.steps_pos t; have h2:=congrArg List.length hs; simp only [Tr.steps,List.length_append,List.length_cons,List.length_nil] at h2; omega
 | bin o l r=>have h1:=Tr.steps_pos l; have h2:=congrArg List.length hs; simp only [Tr.steps,List.length_append,List.length_cons,List.length_nil] at h2; omega
end Go.Pv
/- A stack on which a tree's text is made. Conditions: none; theorems. -/
namespace Go.Pv
variable {x:Int}
def partIn (o:Int) (p:List UInt8 × Int):List UInt8:=brkD (looseB p.2 || (o == 6 && (p.2 == 6 || p.2 == 7))) p.1
theorem last_snoc (a:List StepA) (s:StepA):lastOp (a++[s]) = s.op:=by simp [lastOp]
end Go.Pv
/- The program's functions on trees: what may be, what is sound. Conditions: the functions' codes; theorems. -/
namespace Go.Pv
variable {E:Env} {h:AHeap}
theorem takes179_eq (H:Has 179 E) (s:StepA):EvClosed E (.fn (.func 179) [] []) [.agg s.cs] = some (.int .i64 (takesI s.op)):=by
 rw [EvClosed_eq H.c179 rfl (vs:=[.agg s.cs]) (by simp [StepA.cs]),EvFn_eq]
 unfold takesI
 cases h3:s.op == 3
 ·cases h4:s.op == 4
  ·cases h5:s.op == 5
   ·cases h6:s.op == 6 <;> simp [f179,start,StepA.cs,h3,h4,h5,h6]
   ·simp [f179,start,StepA.cs,h3,h4,h5]
  ·simp [f179,start,StepA.cs,h3,h4]
 ·simp [f179,start,StepA.cs,h3]
theorem odd_print:∀ {s:List UInt8},printB s = true→oddAt s = -1
 | [],_=>rfl
 | c :: s,h=>by
  simp only [printB,List.all_cons,Bool.and_eq_true,decide_eq_true_eq] at h
  have ih:=odd_print (s:=s) (by simp only [printB]; exact h.2)
  simp only [oddAt]
  rw [if_neg (by omega),ih]
  rfl
theorem oddAt_neg {s:List UInt8} (h:printB s = true):decide (oddAt s < 0) = true:=by rw [odd_print h]; rfl
set_option maxRecDepth 20000 in
set_option maxHeartbeats 4000000 in
theorem symbol200_eq (H:Has 200 E) {p a n:Int} (a0:0 ≤ a) (a1:a < atomsT.length) (p0:-1 ≤ p) (p1:p < prefsT.length) (n0:-99 ≤ n) (n1:n ≤ 99) (hm:p = -1∨metricT a = true):
  EvClosed E (.fn (.func 200) [] []) [.agg (StepA.cs ⟨2,p,a,n,0,[]⟩)] = some (.bool true):=by
 rw [EvClosed_eq H.c200 rfl (vs:=[.agg (StepA.cs ⟨2,p,a,n,0,[]⟩)]) (by simp [StepA.cs]),EvFn_eq]
 have ht:=table_eq (H.to 38)
 simp only [Tb.V,Tb.A,Tb.P,progB] at ht
 obtain ⟨k,rfl⟩:∃ k:Nat,a = k:=⟨a.toNat,by omega⟩
 have hk:k < atomsT.length:=by omega
 have d1:decide ((k:Int) < 0) = false:=decide_eq_false (by omega)
 have d2:decide ((atomsT.length:Int) ≤ (k:Int)) = false:=decide_eq_false (by omega)
 have d2':¬ atomsT.length ≤ k:=by omega
 have d3:decide (p < 0) = false∨p = -1:=by
  by_cases h:p < 0
  ·exact .inr (by omega)
  ·exact .inl (decide_eq_false h)
 have d4:decide (p < (prefsT.length:Int)) = true:=decide_eq_true p1
 have d5:decide (n < -99) = false:=decide_eq_false (by omega)
 have d6:decide (99 < n) = false:=decide_eq_false (by omega)
 have hm0:((atomsT.flatMap (acs .shared)).drop (k * 12 + 5)).take 1 = [.bool (metricT k)]:=by
  have:metricT k = atomsT[k].metric:=by simp [metricT,hk]
  rw [this,fm_at (acs_len .shared) hk (by omega)]
  rfl
 have hlA:(atomsT.flatMap (acs .shared)).length = atomsT.length * 12:=fm_len (acs_len .shared) _
 have hx1:k * 12 < atomsT.length * 12:=by omega
 have hx2:5 < atomsT.length * 12 - k * 12:=by omega
 have hx3:1 ≤ atomsT.length * 12 - (k * 12 + 5):=by omega
 generalize atomsT.flatMap (acs .shared) = cA at *
 cases hp:p == -1 with
 | true=>
  simp [f200,start,StepA.cs,EvCall_closed H.c38 rfl,ht,push_setk,d1,d2',d5,d6,hp]
 | false=>
  have hpn:¬ p = -1:=by simpa using hp
  have hm':metricT k = true:=by
   rcases hm with rfl | hm
   ·cases hp
   ·exact hm
  have d3:decide (0 ≤ p) = true:=decide_eq_true (by omega)
  have d3':0 ≤ p:=by omega
  rw [hm'] at hm0
  simp [f200,start,StepA.cs,EvCall_closed H.c38 rfl,ht,push_setk,d1,d2',d3',d4,d5,d6,hp,hk,hlA,hx1,hx2,hx3,hm0]
set_option maxRecDepth 20000 in
set_option maxHeartbeats 4000000 in
theorem may180_eq (H:Has 180 E) {s:StepA} (hs:StepOk s):EvClosed E (.fn (.func 180) [] []) [.agg s.cs] = some (.bool true):=by
 rw [EvClosed_eq H.c180 rfl (vs:=[.agg s.cs]) (by simp [StepA.cs]),EvFn_eq]
 cases hs with
 | num n h1=>
  simp [f180,start,StepA.cs,h1]
 | sym p a n a0 a1 p0 p1 n0 n1 hm=>
  have hy:=symbol200_eq (H.to 200) a0 a1 p0 p1 n0 n1 hm
  simp only [StepA.cs] at hy
  simp [f180,start,StepA.cs,EvCall_closed H.c200 rfl,hy]
 | op o ho=>
  rcases ho with rfl | rfl | rfl <;> simp [f180,start,StepA.cs]
 | text o s ho hpr hl=>
  have hx:EvClosed E (.fn (.func 202) [] []) [.str s,.fn (.func 201) [] []] = some (.int .i64 (oddAt s)):=by
   rw [EvClosed_ext H.x202 (vs:=[.str s,.fn (.func 201) [] []]) (by simp)]
   rfl
  have hd:=oddAt_neg hpr
  rcases ho with rfl | rfl <;> simp [f180,start,StepA.cs,EvCall_ext H.x202,hx,hd]
theorem put178_eq (H:Has 178 E) {s:StepA} (hs:StepOk s) {b:Nat} {n:Int} (hb:h.bl b = some (.cells [.int .i64 n])) (hro:h.ro = 0) (hn:takesI s.op ≤ n) (hn2:n < 1000000):
  EvCall E (.fn (.func 178) [] [.ref b 0]) [.agg s.cs] h = some (.ret (.bool true),(h.push (.cells s.cs)).setBlk b (.cells [.int .i64 (n + (1 - takesI s.op))])):=by
 rw [EvCall_open H.c178 rfl,EvFn_eq]
 have ht:=takes179_eq (H.to 179) s
 have hm:=may180_eq (H.to 180) hs
 have hr:0 ≤ takesI s.op∧takesI s.op ≤ 2:=by
  unfold takesI
  split
  ·omega
  ·split <;> omega
 have hd:decide (takesI s.op ≤ n) = true:=decide_eq_true hn
 have w1:IntKind.i64.wrap (1 - takesI s.op) = 1 - takesI s.op:=w64
 have w2:IntKind.i64.wrap (n + (1 - takesI s.op)) = n + (1 - takesI s.op):=w64
 have nb:=blk_ne hb
 simp only [StepA.cs] at ht hm ⊢
 generalize takesI s.op = k at *
 simp [f178,start,EvCall_closed H.c179 rfl,EvCall_closed H.c180 rfl,ht,hm,hb,hro,nb,hn,w1,w2]
set_option maxHeartbeats 2000000 in
theorem sound168_loop (H:Has 168 E) {own:Own} {t:List StepA} (hok:∀ s ∈ t,StepOk s) (hl:t.length < 1000000):∀ (m i:Nat),i + m = t.length→∀ (n k:Int) (h:AHeap),0 ≤ n→n ≤ i→leaves n (t.drop i) = some k→h.bl 0 = some (.cells [.int .i64 n])→h.ro = 0 →
  ∃ h',(∀ F,mask k168_0 F = s168_0 (.vs own t.length (t.flatMap StepA.cs)) (.ref 0 0) (.fn (.func 178) [] [.ref 0 0]) (.vs own t.length (t.flatMap StepA.cs)) (.int .i64 t.length) (.int .i64 i) →
   EvCode E (.loop k168_0 l168_0) F h = some (.exit 0,x168_0 (.vs own t.length (t.flatMap StepA.cs)) (.ref 0 0),h'))∧h'.bl 0 = some (.cells [.int .i64 k])
 | 0,i,hi,n,k,h,hn,hni,hlv,hb,hro=>by
  have:i = t.length:=by omega
  subst this
  rw [List.drop_length] at hlv
  simp only [leaves] at hlv
  cases hlv
  refine ⟨h,fun F hF=>?_,hb⟩
  rw [EvCode_loop,hF]
  simp [l168_0,s168_0,x168_0]
 | m + 1,i,hi,n,k,h,hn,hni,hlv,hb,hro=>by
  have hlt:i < t.length:=by omega
  rw [List.drop_eq_getElem_cons hlt] at hlv
  simp only [leaves] at hlv
  split at hlv
  ·cases hlv
  ·rename_i htk
   have hr:0 ≤ takesI t[i].op∧takesI t[i].op ≤ 2:=by
    unfold takesI
    split
    ·omega
    ·split <;> omega
   have e:n + (1 - takesI t[i].op) = n - takesI t[i].op + 1:=by omega
   have h0:(h.push (.cells t[i].cs)).bl 0 = some (.cells [.int .i64 n]):=by
    rw [bl_push,if_neg (blk_ne hb)]
    exact hb
   have hput:=put178_eq (H.to 178) (hok t[i] (List.getElem_mem hlt)) h0 (by simpa using hro) (by omega) (by omega)
   rw [e] at hput
   obtain ⟨h',ih,hb'⟩:=sound168_loop H (own:=own) hok hl m (i + 1) (by omega) (n - takesI t[i].op + 1) k (((h.push (.cells t[i].cs)).push (.cells t[i].cs)).setBlk 0 (.cells [.int .i64 (n - takesI t[i].op + 1)])) (by omega) (by omega) hlv (by simp; exact fun _=>⟨_,hb⟩) (by simpa using hro)
   have e6:((t.flatMap StepA.cs).drop (i * 6)).take 6 = t[i].cs:=fm_el StepA.len hlt
   have ll:(t.flatMap StepA.cs).length = t.length * 6:=fm_len StepA.len t
   have hd:decide ((i:Int) < (t.length:Int)) = true:=decide_eq_true (by omega)
   have h6:6 ≤ t.length * 6 - i * 6:=by omega
   have h60:i * 6 < t.length * 6:=by omega
   have w1:IntKind.i64.wrap ((i:Int) + 1) = (i:Int) + 1:=w64
   refine ⟨h',fun F hF=>?_,hb'⟩
   rw [EvCode_loop,hF]
   have cl:t[i].cs.length = 6:=StepA.len _
   have ca6:=List.all_eq_true.1 (StepA.all t[i])
   have ctake:t[i].cs.take 6 = t[i].cs:=by rw [List.take_of_length_le (by rw [StepA.len]; exact Nat.le_refl _)]
   have cset:setCells 0 t[i].cs [.int .i64 0,.int .i64 0,.int .i64 0,.int .i64 0,.int .i64 0,.str []] = t[i].cs:=setCells_app t[i].cs [.int .i64 0,.int .i64 0,.int .i64 0,.int .i64 0,.int .i64 0,.str []] [] (by rw [StepA.len]; rfl)
   generalize t[i].cs = cc at *
   generalize t.flatMap StepA.cs = ca at *
   generalize EvCode E (.loop k168_0 l168_0) = lp at ih ⊢
   simp [l168_0,s168_0,hlt,ll,h6,h60,e6,cl,cset,push_setk,hro]
   rw [if_pos ca6]
   simp [cl,ctake,hput,w1]
   refine ih _ ?_
   simp [s168_0]
theorem sound168_eq (H:Has 168 E) {v:AV} {t:Tr} (ht:TrOk t) (hv:TreeV v t.steps) (hl:t.steps.length ≤ 255):EvClosed E (.fn (.func 168) [] []) [v] = some (.bool true):=by
 obtain ⟨v',sv,hv'⟩:=tree_shut hv
 rw [EvClosed_eq H.c168 rfl (vs:=[v']) (by simp [sv]),EvFn_eq]
 have hpos:=Tr.steps_pos t
 rcases hv' with ⟨_,h0⟩ | ⟨own,rfl⟩
 ·rw [h0] at hpos
  simp at hpos
 ·have d:decide ((t.steps.length:Int) ≤ 255) = true:=decide_eq_true (by omega)
  obtain ⟨h',lp,hb⟩:=sound168_loop (E:=E) H (own:=own) (tr_steps ht) (by omega) t.steps.length 0 (by omega) 0 1 (heap0.push (.cells [.int .i64 0])) (by omega) (by omega) (leaves_tr ht 0 (by omega)) (by simp) (by simp)
  simp [f168,start,push_setk]
  rw [lp _ (by simp [s168_0])]
  simp [x168_0,hb,d]
end Go.Pv
