/- A part of the proof: functions of the program in the evaluator's code, and what they come to. Conditions: none; definitions and theorems that the statement's proof uses. -/
import Derived.Test.YteiaohbhlapklaaGreatDoorSettPcTree10
import Derived.Test.YteiaohbhlapklaaGreatDoorSettPcTree8
/- The program's functions on trees: parts, how deep brackets stand. Conditions: the functions' codes; theorems. -/
namespace Go.Pv
variable {E:Env}
def cutQ (t:List StepA):Nat→Int→Option Nat
 | i,0=>some i
 | 0,_=>none
 | i + 1,need=>cutQ t i (need - 1 + takesI ((t[i]?.map (·.op)).getD 0))
theorem cutQ_zero (t:List StepA) (i:Nat):cutQ t i 0 = some i:=by
 cases i <;> rfl
theorem cutQ_succ (t:List StepA) (i:Nat) {need:Int} (h:need ≠ 0):cutQ t (i + 1) need = cutQ t i (need - 1 + takesI ((t[i]?.map (·.op)).getD 0)):=by
 rw [cutQ]
 exact h
theorem cutQ_step {a c:List StepA} {s:StepA} {need:Int} (hn:1 ≤ need):cutQ (a++s :: c) (a.length + 1) need = cutQ (a++s :: c) a.length (need - 1 + takesI s.op):=by
 rw [cutQ_succ _ _ (by omega)]
 simp
theorem cutQ_tr {r:Tr} (hr:TrOk r):∀ (a c:List StepA) (need:Int),1 ≤ need→cutQ (a++(r.steps++c)) (a.length + r.steps.length) need = cutQ (a++(r.steps++c)) a.length (need - 1):=by
 have one:∀ (s:StepA) (a c:List StepA) (need:Int),takesI s.op = 0→1 ≤ need→cutQ (a++([s]++c)) (a.length + [s].length) need = cutQ (a++([s]++c)) a.length (need - 1):=by
  intro s a c need h0 hn
  have:=cutQ_step (a:=a) (c:=c) (s:=s) hn
  rw [h0,Int.add_zero] at this
  exact this
 have snoc:∀ (b:List StepA) (s:StepA) (a c:List StepA) (need:Int),1 ≤ need→cutQ (a++(b++[s]++c)) (a.length + (b++[s]).length) need = cutQ (a++(b++[s]++c)) (a.length + b.length) (need - 1 + takesI s.op):=by
  intro b s a c need hn
  have:=cutQ_step (a:=a++b) (c:=c) (s:=s) hn
  simp only [List.length_append,List.append_assoc,List.cons_append,List.nil_append,List.length_cons,List.length_nil,Nat.add_assoc] at this ⊢
  exact this
 induction hr with
 | num n h1=>intro a c need hn; exact one _ a c need rfl hn
 | sym p a n _ _ _ _ _ _ _=>intro a c need hn; exact one _ a c need rfl hn
 | alone s h1 h2=>intro a c need hn; exact one _ a c need rfl hn
 | note t s _ h1 h2 ih=>
  intro a c need hn
  rw [Tr.steps,snoc _ _ a c need hn]
  have e:need - 1 + takesI 6 = need:=by rw [show takesI 6 = 1 from rfl]; omega
  have:=ih a ([⟨6,-1,0,0,0,s⟩]++c) need hn
  show cutQ _ _ (need - 1 + takesI 6) = _
  rw [e]
  simp only [List.append_assoc] at this ⊢
  exact this
 | inv t _ ih=>
  intro a c need hn
  rw [Tr.steps,snoc _ _ a c need hn]
  have e:need - 1 + takesI 5 = need:=by rw [show takesI 5 = 1 from rfl]; omega
  have:=ih a ([stepO 5]++c) need hn
  show cutQ _ _ (need - 1 + takesI 5) = _
  rw [e]
  simp only [List.append_assoc] at this ⊢
  exact this
 | bin o l r ho _ _ ih1 ih2=>
  intro a c need hn
  rw [Tr.steps,snoc _ _ a c need hn]
  have e:need - 1 + takesI o = need + 1:=by
   have:takesI o = 2:=by rcases ho with rfl | rfl <;> rfl
   omega
  show cutQ _ _ (need - 1 + takesI o) = _
  rw [e]
  have h2:=ih2 (a++l.steps) ([stepO o]++c) (need + 1) (by omega)
  have h1:=ih1 a (r.steps++([stepO o]++c)) need hn
  simp only [List.append_assoc,List.length_append,Nat.add_assoc,Int.add_sub_cancel] at h1 h2 ⊢
  rw [h2]
  exact h1
theorem cutQ_one {r:Tr} (hr:TrOk r) (l:List StepA):cutQ (l++r.steps) (l++r.steps).length 1 = some l.length:=by
 have:=cutQ_tr hr l [] 1 (by omega)
 simp only [List.append_nil] at this
 rw [List.length_append,this]
 exact cutQ_zero _ _
theorem cut212_loop (H:Has 212 E) {h:AHeap} {own:Own} {t:List StepA} (hl:t.length < 1000000) {r:Nat}:∀ (i:Nat),i ≤ t.length→∀ need:Int,0 ≤ need→need ≤ 1000001 + t.length - i→cutQ t i need = some r→∀ F,mask k212_0 F = s212_0 (.vs own t.length (t.flatMap StepA.cs)) (.int .i64 need) (.int .i64 i) →
  EvCode E (.loop k212_0 l212_0) F h = some (.exit 0,x212_0 (.int .i64 r),h)
 | 0,hi,need,h0,h1,hq,F,hF=>by
  have hn:need = 0:=by
   by_cases hn:need = 0
   ·exact hn
   ·rw [cutQ] at hq
    ·cases hq
    ·exact hn
  subst hn
  rw [cutQ_zero] at hq
  cases hq
  rw [EvCode_loop,hF]
  simp [l212_0,s212_0,x212_0]
 | i + 1,hi,need,h0,h1,hq,F,hF=>by
  have hlt:i < t.length:=hi
  have htake:=takes179_eq (H.to 179) t[i]
  have hr:=takes_range t[i].op
  rw [EvCode_loop,hF]
  by_cases hn:need = 0
  ·subst hn
   rw [cutQ_zero] at hq
   cases hq
   simp [l212_0,s212_0,x212_0]
  ·rw [cutQ_succ _ _ hn] at hq
   have ho:(t[i]?.map (·.op)).getD 0 = t[i].op:=by simp [hlt]
   rw [ho] at hq
   have e0:need - 1 + takesI t[i].op = need + (takesI t[i].op - 1):=by omega
   rw [e0] at hq
   have ih:=cut212_loop H (h:=h) (own:=own) hl i (by omega) (need + (takesI t[i].op - 1)) (by omega) (by omega) hq
   have hd:(need == 0) = false:=by simpa using hn
   have e6:((t.flatMap StepA.cs).drop (i * 6)).take 6 = t[i].cs:=fm_el StepA.len hlt
   have ll:(t.flatMap StepA.cs).length = t.length * 6:=fm_len StepA.len t
   have h6:6 ≤ t.length * 6 - i * 6:=by omega
   have h60:i * 6 < t.length * 6:=by omega
   have w1:IntKind.i64.wrap ((i:Int) + 1 - 1) = (i:Int):=by rw [Int.add_sub_cancel]; exact w64
   have w1':IntKind.i64.wrap (i:Int) = (i:Int):=w64
   have w2:IntKind.i64.wrap (takesI t[i].op - 1) = takesI t[i].op - 1:=w64
   have w3:IntKind.i64.wrap (need + (takesI t[i].op - 1)) = need + (takesI t[i].op - 1):=w64
   generalize t[i].cs = cc at *
   generalize t.flatMap StepA.cs = ca at *
   generalize EvCode E (.loop k212_0 l212_0) = lp at ih ⊢
   simp [l212_0,s212_0,hd,hlt,ll,h6,h60,e6,EvCall_closed H.c179 rfl,htake,w1',w2,w3]
   exact ih _ (by simp [s212_0])
theorem cut212_eq (H:Has 212 E) {v:AV} {t:List StepA} (hv:TreeV v t) (hl:t.length < 1000000) {r:Nat} (hq:cutQ t t.length 1 = some r):EvClosed E (.fn (.func 212) [] []) [v] = some (.int .i64 r):=by
 obtain ⟨v',sv,hv'⟩:=tree_shut hv
 rw [EvClosed_eq H.c212 rfl (vs:=[v']) (by simp [sv]),EvFn_eq]
 rcases hv' with ⟨rfl,rfl⟩ | ⟨own,rfl⟩
 ·rw [List.length_nil,cutQ] at hq
  ·cases hq
  ·decide
 ·have lp:=cut212_loop (h:=heap0) H (own:=own) hl t.length (Nat.le_refl _) 1 (by omega) (by omega) hq
  simp [f212,start]
  rw [lp _ (by simp [s212_0])]
  simp [x212_0]
theorem in204_eq (H:Has 204 E) {v:AV} {t a:List StepA} {x:StepA} (hv:TreeV v t) (ht:t = a++[x]) (hl:t.length < 1000000) (o:Int):EvClosed E (.fn (.func 204) [] []) [.int .i64 o,v] = some (.bool (inB o t)):=by
 obtain ⟨v',sv,hv'⟩:=tree_shut hv
 rw [EvClosed_eq H.c204 rfl (vs:=[.int .i64 o,v']) (by simp [sv]),EvFn_eq]
 obtain ⟨e1,e2,e3⟩:=last_at ht
 rcases hv' with ⟨_,h0⟩ | ⟨own,rfl⟩
 ·rw [h0] at e3
  simp at e3
 ·have ll:(t.flatMap StepA.cs).length = t.length * 6:=fm_len StepA.len t
  have w:IntKind.i64.wrap ((a.length:Int) + 1 - 1) = (a.length:Int):=by rw [Int.add_sub_cancel]; exact w64
  have w':IntKind.i64.wrap (a.length:Int) = (a.length:Int):=w64
  have hq:(a.length:Int) < (a.length:Int) + 1:=by omega
  have h1:a.length * 6 < (a.length + 1) * 6:=by omega
  have h2:1 ≤ (a.length + 1) * 6 - a.length * 6:=by omega
  have h3:0 < (a.length + 1) * 6 - a.length * 6:=by omega
  rw [inB,e2,looseB]
  rw [e3] at ll ⊢
  generalize t.flatMap StepA.cs = ca at *
  cases q3:x.op == 3
  ·cases q4:x.op == 4
   ·cases q5:x.op == 5
    ·cases q6:x.op == 6
     ·cases q7:x.op == 7 <;> simp [f204,start,w',hq,ll,h1,h2,h3,e1,q3,q4,q5,q6,q7]
     ·simp [f204,start,w',hq,ll,h1,h2,h3,e1,q3,q4,q5,q6]
    ·simp [f204,start,w',hq,ll,h1,h2,h3,e1,q3,q4,q5]
   ·simp [f204,start,w',hq,ll,h1,h2,h3,e1,q3,q4]
  ·simp [f204,start,w',hq,ll,h1,h2,h3,e1,q3]
structure PartsQ (t:Tr) (k:Int) (at_:Nat):Prop where
 takes:∀ a x,t.steps = a++[x]→takesI x.op = k
 cut:∀ a x,t.steps = a++[x]→k ≠ 0→cutQ a a.length 1 = some at_
 len:at_ = t.left.length
 kind:(k = 0∧t.left = []∧t.right = [])∨(k = 1∧t.left = [])∨k = 2
theorem parts_q {t:Tr} (ht:TrOk t):∃ k at_,PartsQ t k at_:=by
 cases ht with
 | num n h1=>exact ⟨0,0,⟨fun a x h=>by obtain ⟨_,rfl⟩:=snoc_inj (a:=[]) h; rfl,fun _ _ _ h=>absurd rfl h,rfl,.inl ⟨rfl,rfl,rfl⟩⟩⟩
 | sym p a n _ _ _ _ _ _ _=>exact ⟨0,0,⟨fun a x h=>by obtain ⟨_,rfl⟩:=snoc_inj (a:=[]) h; rfl,fun _ _ _ h=>absurd rfl h,rfl,.inl ⟨rfl,rfl,rfl⟩⟩⟩
 | alone s h1 h2=>exact ⟨0,0,⟨fun a x h=>by obtain ⟨_,rfl⟩:=snoc_inj (a:=[]) h; rfl,fun _ _ _ h=>absurd rfl h,rfl,.inl ⟨rfl,rfl,rfl⟩⟩⟩
 | note t s ht h1 h2=>exact ⟨1,0,⟨fun a x h=>by obtain ⟨_,rfl⟩:=snoc_inj h; rfl,fun a x h _=>by obtain ⟨rfl,_⟩:=snoc_inj h; exact cutQ_one ht [],rfl,.inr (.inl ⟨rfl,rfl⟩)⟩⟩
 | inv t ht=>exact ⟨1,0,⟨fun a x h=>by obtain ⟨_,rfl⟩:=snoc_inj h; rfl,fun a x h _=>by obtain ⟨rfl,_⟩:=snoc_inj h; exact cutQ_one ht [],rfl,.inr (.inl ⟨rfl,rfl⟩)⟩⟩
 | bin o l r ho hl hr=>exact ⟨2,l.steps.length,⟨fun a x h=>by obtain ⟨_,rfl⟩:=snoc_inj h; rcases ho with rfl | rfl <;> rfl,fun a x h _=>by obtain ⟨rfl,_⟩:=snoc_inj h; exact cutQ_one hr _,rfl,.inr (.inr rfl)⟩⟩
set_option maxHeartbeats 2000000 in
theorem parts203_eq (H:Has 203 E) {v:AV} {t:Tr} (ht:TrOk t) (hv:TreeV v t.steps) (hl:t.steps.length ≤ 255):∃ lv rv,EvClosed E (.fn (.func 203) [] []) [v] = some (.tuple [lv,rv])∧TreeV lv t.left∧TreeV rv t.right:=by
 obtain ⟨v',sv,hv'⟩:=tree_shut hv
 rw [EvClosed_eq H.c203 rfl (vs:=[v']) (by simp [sv]),EvFn_eq]
 obtain ⟨a,x,e,ea⟩:=t.snoc
 obtain ⟨k,at_,P⟩:=parts_q ht
 have hk:=P.takes a x e
 have htk:=takes179_eq (H.to 179) x
 rw [hk] at htk
 obtain ⟨_,e2,e3⟩:=last_at e
 have e1:((t.steps.flatMap StepA.cs).drop (a.length * 6)).take 6 = x.cs:=by
  rw [e,List.flatMap_append,List.drop_append_of_le_length (by rw [fm_len StepA.len]; exact Nat.le_refl _),List.drop_of_length_le (by rw [fm_len StepA.len]; exact Nat.le_refl _)]
  simp [StepA.cs]
 rcases hv' with ⟨_,h0⟩ | ⟨own,rfl⟩
 ·rw [h0] at e3
  simp at e3
 ·have ll:(t.steps.flatMap StepA.cs).length = t.steps.length * 6:=fm_len StepA.len _
  have w:IntKind.i64.wrap ((a.length:Int) + 1 - 1) = (a.length:Int):=by rw [Int.add_sub_cancel]; exact w64
  have w':IntKind.i64.wrap (a.length:Int) = (a.length:Int):=w64
  have hq:(a.length:Int) < (a.length:Int) + 1:=by omega
  have h1:a.length * 6 < (a.length + 1) * 6:=by omega
  have h2:6 ≤ (a.length + 1) * 6 - a.length * 6:=by omega
  have h3:0 < (a.length + 1) * 6 - a.length * 6:=by omega
  have hat:(a.length:Int) ≤ (a.length:Int) + 1:=by omega
  have hne:¬ a.length = a.length + 1:=by omega
  have htake:(t.steps.flatMap StepA.cs).take (a.length * 6) = a.flatMap StepA.cs:=by
   rw [fm_take StepA.len,e]
   simp
  have hsa:=shutL_flat (n:=0) (t:=0) (f:=StepA.cs) (fun s=>s.shut) a
  have hcut:k ≠ 0→∀ own:Own,EvClosed E (.fn (.func 212) [] []) [.vs own a.length (a.flatMap StepA.cs)] = some (.int .i64 at_):=by
   intro hk0 own
   exact cut212_eq (H.to 212) (v:=.vs own a.length (a.flatMap StepA.cs)) (t:=a) (.inr ⟨own,rfl⟩) (by omega) (P.cut a x e hk0)
  have own3:own = .full∨own = .shared∨∃ k s,own = .tok k s:=by cases own <;> simp
  rw [e3] at ll ⊢
  rcases P.kind with ⟨rfl,hL,hR⟩ | ⟨rfl,hL⟩ | rfl
  ·refine ⟨.nils,.nils,?_,by rw [hL]; exact .inl ⟨rfl,rfl⟩,by rw [hR]; exact .inl ⟨rfl,rfl⟩⟩
   generalize x.cs = cc at *
   generalize t.steps.flatMap StepA.cs = ca at *
   simp [f203,start,EvCall_closed H.c179 rfl,w',hq,ll,h1,h2,e1,htk]
  ·have hc:=hcut (by decide) .shared
   have har:a = t.right:=by rw [ea,hL]; rfl
   refine ⟨.nils,.vs .shared a.length (a.flatMap StepA.cs),?_,by rw [hL]; exact .inl ⟨rfl,rfl⟩,by rw [← har]; exact .inr ⟨_,rfl⟩⟩
   generalize x.cs = cc at *
   generalize t.steps.flatMap StepA.cs = ca at *
   rcases own3 with rfl | rfl | ⟨_,_,rfl⟩ <;> simp [f203,start,EvCall_closed H.c179 rfl,w',hq,ll,h1,h2,e1,htk,hat,htake,hsa]
  ·have hc:=hcut (by decide) .shared
   have hatl:at_ ≤ a.length:=by rw [P.len,ea,List.length_append]; omega
   have hlt:t.left.length = at_:=P.len.symm
   have hta:a.take at_ = t.left:=by rw [ea,← hlt,List.take_left]
   have hda:a.drop at_ = t.right:=by rw [ea,← hlt,List.drop_left]
   have hrl:t.right.length = a.length - at_:=by rw [ea,List.length_append]; omega
   have hat1:(at_:Int) ≤ (a.length:Int) + 1:=by omega
   have hat2:(at_:Int) ≤ (a.length:Int):=by omega
   have hne2:¬ at_ = a.length + 1:=by omega
   have htk2:(t.steps.flatMap StepA.cs).take (at_ * 6) = t.left.flatMap StepA.cs:=by
    rw [fm_take StepA.len,e,List.take_append_of_le_length hatl,hta]
   have hdr:(a.flatMap StepA.cs).drop (at_ * 6) = t.right.flatMap StepA.cs:=by rw [fm_drop StepA.len,hda]
   have hsl:=shutL_flat (n:=0) (t:=0) (f:=StepA.cs) (fun s=>s.shut) t.left
   have hsr:=shutL_flat (n:=0) (t:=0) (f:=StepA.cs) (fun s=>s.shut) t.right
   refine ⟨.vs .shared at_ (t.left.flatMap StepA.cs),.vs .shared (a.length - at_) (t.right.flatMap StepA.cs),?_,.inr ⟨.shared,by rw [hlt]⟩,.inr ⟨.shared,by rw [hrl]⟩⟩
   generalize x.cs = cc at *
   generalize t.steps.flatMap StepA.cs = ca at *
   rcases own3 with rfl | rfl | ⟨_,_,rfl⟩ <;> simp [f203,start,EvCall_closed H.c179 rfl,EvCall_closed H.c212 rfl,w',hq,ll,h1,h2,e1,htk,hat,htake,hc,hat1,hat2,hne2,htk2,hdr,hsl,hsr]
set_option maxHeartbeats 2000000 in
theorem nest181_eq (H:Has 181 E):∀ (t:Tr),TrOk t→t.steps.length ≤ 255→∀ v,TreeV v t.steps→EvClosed E (.fn (.func 181) [] []) [v] = some (.int .i64 t.deep):=by
 have step:∀ (t r:Tr) (k:Int),TrOk t→t.steps.length ≤ 255→t.right = r.steps→(∀ v,TreeV v r.steps→EvClosed E (.fn (.func 181) [] []) [v] = some (.int .i64 r.deep)) →
   (∀ a x,t.steps = a++[x]→x.op = k)→takesI k ≠ 0→(t.left = []∧t.deep = r.deep + (if inB k r.steps then 1 else 0)∨∃ l:Tr,t.left = l.steps∧(∀ v,TreeV v l.steps→EvClosed E (.fn (.func 181) [] []) [v] = some (.int .i64 l.deep))∧t.deep = max (r.deep + (if inB k r.steps then 1 else 0)) l.deep) →
   ∀ v,TreeV v t.steps→EvClosed E (.fn (.func 181) [] []) [v] = some (.int .i64 t.deep):=by
  intro t r k ht hl hright ihr hop hk0 hleft v hv
  obtain ⟨v',sv,hv'⟩:=tree_shut hv
  rw [EvClosed_eq H.c181 rfl (vs:=[v']) (by simp [sv]),EvFn_eq]
  obtain ⟨a,x,e,ea⟩:=t.snoc
  have hx:=hop a x e
  obtain ⟨lv,rv,hp,hlv,hrv⟩:=parts203_eq (H.to 203) ht hv' hl
  obtain ⟨e1,e2,e3⟩:=last_at e
  rw [hx] at e1
  rw [hright] at hrv
  obtain ⟨ra,rx,re,_⟩:=r.snoc
  obtain ⟨o3,hrv3⟩:=last_shut hrv re
  have hrl:r.steps.length < 256:=by rw [← hright]; rw [ea,List.length_append] at e3; omega
  have hin:=in204_eq (H.to 204) hrv re (by omega) k
  have hd:=ihr rv hrv
  have hr0:¬ ((ra.length:Int) + 1 = 0):=by omega
  have hr0':(((ra.length:Int) + 1) == 0) = false:=by simpa using hr0
  subst hrv3
  have hrd:=deep_le r
  obtain ⟨own,rfl⟩:=last_shut hv' e
  have ll:(t.steps.flatMap StepA.cs).length = (a.length + 1) * 6:=by rw [fm_len StepA.len,e3]
  have w:IntKind.i64.wrap ((a.length:Int) + 1 - 1) = (a.length:Int):=by rw [Int.add_sub_cancel]; exact w64
  have w':IntKind.i64.wrap (a.length:Int) = (a.length:Int):=w64
  have hq:(a.length:Int) < (a.length:Int) + 1:=by omega
  have h1:a.length * 6 < (a.length + 1) * 6:=by omega
  have h2:1 ≤ (a.length + 1) * 6 - a.length * 6:=by omega
  have h3:0 < (a.length + 1) * 6 - a.length * 6:=by omega
  have w2:IntKind.i64.wrap ((r.deep:Int) + 1) = (r.deep:Int) + 1:=w64
  have hkb:(takesI k == 0) = false:=by simpa using hk0
  have lvc:lv.isCell = true:=by rcases hlv with ⟨rfl,_⟩ | ⟨_,rfl⟩ <;> rfl
  generalize t.steps.flatMap StepA.cs = ca at *
  generalize r.steps.flatMap StepA.cs = cr at *
  rcases hleft with ⟨hL,hdp⟩ | ⟨l,hL,ihl,hdp⟩
  ·rw [hL] at hlv
   rw [hdp]
   rcases hlv with ⟨rfl,_⟩ | ⟨o2,rfl⟩
   ·cases hb:inB k r.steps <;> rw [hb] at hin <;> simp [f181,start,EvCall_closed H.c203 rfl,EvCall_closed H.c181 rfl,EvCall_closed H.c204 rfl,hr0',hp,hd,hin,w',hq,ll,h1,h2,h3,e1,w2]
   ·cases hb:inB k r.steps <;> rw [hb] at hin <;> simp [f181,start,EvCall_closed H.c203 rfl,EvCall_closed H.c181 rfl,EvCall_closed H.c204 rfl,hr0',hp,hd,hin,w',hq,ll,h1,h2,h3,e1,w2]
  ·rw [hL] at hlv
   have hdl:=ihl lv hlv
   have hlp:=Tr.steps_pos l
   obtain ⟨la,lx,le,_⟩:=l.snoc
   obtain ⟨o2,rfl⟩:=last_shut hlv le
   have hlen:decide ((0:Int) < (la.length:Int) + 1) = true:=decide_eq_true (by omega)
   rw [hdp]
   generalize l.steps.flatMap StepA.cs = cl at *
   cases hb:inB k r.steps
   ·rw [hb] at hin
    have hmx:(if (r.deep:Int) < (l.deep:Int) then AV.int .i64 (l.deep:Int) else .int .i64 (r.deep:Int)) = .int .i64 ((max (r.deep + 0) l.deep:Nat):Int):=by
     split
     ·congr 1; omega
     ·congr 1; omega
    have hmx2:(if (r.deep:Int) < (l.deep:Int) then (l.deep:Int) else (r.deep:Int)) = ((max (r.deep + 0) l.deep:Nat):Int):=by split <;> omega
    simp [f181,start,EvCall_closed H.c203 rfl,EvCall_closed H.c181 rfl,EvCall_closed H.c204 rfl,hr0',hp,hd,hdl,hin,w',hq,ll,h1,h2,h3,e1]
    simpa using hmx2
   ·rw [hb] at hin
    have hmx2:(if (r.deep:Int) + 1 < (l.deep:Int) then (l.deep:Int) else (r.deep:Int) + 1) = ((max (r.deep + 1) l.deep:Nat):Int):=by split <;> omega
    simp [f181,start,EvCall_closed H.c203 rfl,EvCall_closed H.c181 rfl,EvCall_closed H.c204 rfl,hr0',hp,hd,hdl,hin,w',hq,ll,h1,h2,h3,e1,w2]
    simpa using hmx2
 have leaf:∀ (t:Tr),TrOk t→t.steps.length ≤ 255→t.right = []→t.deep = 0→∀ v,TreeV v t.steps→EvClosed E (.fn (.func 181) [] []) [v] = some (.int .i64 t.deep):=by
  intro t ht hl hright hdp v hv
  obtain ⟨v',sv,hv'⟩:=tree_shut hv
  rw [EvClosed_eq H.c181 rfl (vs:=[v']) (by simp [sv]),EvFn_eq]
  rw [hdp]
  obtain ⟨lv,rv,hp,hlv,hrv⟩:=parts203_eq (H.to 203) ht hv' hl
  rw [hright] at hrv
  rcases hrv with ⟨rfl,_⟩ | ⟨o3,rfl⟩
  ·simp [f181,start,EvCall_closed H.c203 rfl,hp]
  ·simp [f181,start,EvCall_closed H.c203 rfl,hp]
 intro t
 induction t with
 | num n=>intro ht hl; exact leaf _ ht hl rfl rfl
 | sym p a n=>intro ht hl; exact leaf _ ht hl rfl rfl
 | alone s=>intro ht hl; exact leaf _ ht hl rfl rfl
 | note t s ih=>
  intro ht hl
  have hlt:t.steps.length ≤ 255:=by simp only [Tr.steps,List.length_append] at hl; omega
  cases ht with
  | note _ _ h1 h2 h3=>exact step (.note t s) t 6 (.note t s h1 h2 h3) hl rfl (ih h1 hlt) (fun a x h=>by obtain ⟨_,rfl⟩:=snoc_inj h; rfl) (by decide) (.inl ⟨rfl,rfl⟩)
 | inv t ih=>
  intro ht hl
  have hlt:t.steps.length ≤ 255:=by simp only [Tr.steps,List.length_append] at hl; omega
  cases ht with
  | inv _ h1=>exact step (.inv t) t 5 (.inv t h1) hl rfl (ih h1 hlt) (fun a x h=>by obtain ⟨_,rfl⟩:=snoc_inj h; rfl) (by decide) (.inl ⟨rfl,rfl⟩)
 | bin o l r ihl ihr=>
  intro ht hl
  have hlt:l.steps.length ≤ 255∧r.steps.length ≤ 255:=by simp only [Tr.steps,List.length_append] at hl; omega
  cases ht with
  | bin _ _ _ ho h1 h2=>exact step (.bin o l r) r o (.bin o l r ho h1 h2) hl rfl (ihr h2 hlt.2) (fun a x h=>by obtain ⟨_,rfl⟩:=snoc_inj h; rfl) (by rcases ho with rfl | rfl <;> decide) (.inr ⟨l,rfl,ihl h1 hlt.1,rfl⟩)
theorem nest169_eq (H:Has 169 E) {t:Tr} (ht:TrOk t) (hl:t.steps.length ≤ 255) {v:AV} (hv:TreeV v t.steps):EvClosed E (.fn (.func 169) [] []) [v] = some (.int .i64 t.deep):=by
 obtain ⟨v',sv,hv'⟩:=tree_shut hv
 rw [EvClosed_eq H.c169 rfl (vs:=[v']) (by simp [sv]),EvFn_eq]
 have h1:=sound168_eq (H.to 168) ht hv' hl
 have h2:=nest181_eq (H.to 181) t ht hl v' hv'
 simp [f169,start,EvCall_closed H.c168 rfl,EvCall_closed H.c181 rfl,h1,h2]
end Go.Pv
/- The program's printer: small functions. Conditions: the functions' codes; theorems. -/
namespace Go.Pv
variable {E:Env} {x:Int}
theorem dig_dec:∀ f n:Nat,digG f n = digitsS f n
 | 0,n=>rfl
 | f + 1,n=>by simp only [digG,digitsS,dig_dec f]
theorem itoa_dec (n:Int):itoaS n = if n < 0 then 45 :: decSt (-n).toNat else decSt n.toNat:=by
 simp only [itoaS,decSt,dig_dec]
theorem fmt104_eq {j:Nat} (H:Has j E) (h:(rch j).contains 104 = true) {n:Int} (h0:-9223372036854775808 ≤ n) (h1:n ≤ 9223372036854775807):EvClosed E (.fn (.func 104) [] []) [.int .i64 n,.int .i64 10] = some (.str (itoaS n)):=by
 rw [EvClosed_ext (H.x104 h) (vs:=[.int .i64 n,.int .i64 10]) (by simp)]
 simp [extFI,h0,h1]
theorem fmt262_eq (H:Has 262 E) {n:Int} (h0:-9223372036854775808 ≤ n) (h1:n ≤ 9223372036854775807):EvClosed E (.fn (.func 262) [] []) [.int .i64 n,.int .i64 10] = some (.str (itoaS n)):=by
 rw [EvClosed_eq H.c262 rfl (vs:=[.int .i64 n,.int .i64 10]) (by simp),EvFn_eq]
 have hx:=fmt104_eq H (by rfl) h0 h1
 simp [f262,start,EvCall_ext H.x104,hx]
theorem itoa102_eq (H:Has 102 E) {n:Int} (h0:-9223372036854775808 ≤ n) (h1:n ≤ 9223372036854775807):EvClosed E (.fn (.func 102) [] []) [.int .i64 n] = some (.str (itoaS n)):=by
 rw [EvClosed_eq H.c102 rfl (vs:=[.int .i64 n]) (by simp),EvFn_eq]
 have hx:=fmt104_eq H (by rfl) h0 h1
 simp [f102,start,EvCall_ext H.x104,hx]
theorem itoa100_eq (H:Has 100 E) {n:Int} (h0:-9223372036854775808 ≤ n) (h1:n ≤ 9223372036854775807):EvClosed E (.fn (.func 100) [] []) [.int .i64 n] = some (.str (itoaS n)):=by
 rw [EvClosed_eq H.c100 rfl (vs:=[.int .i64 n]) (by simp),EvFn_eq]
 have hx:=itoa102_eq (H.to 102) h0 h1
 simp [f100,start,EvCall_closed H.c102 rfl,hx]
theorem sty_small (x:Int):((sty x).mul.toNat:Int) < 128∧((sty x).div.toNat:Int) < 128∧((sty x).pow.toNat:Int) < 128∧((sty x).opn.toNat:Int) < 128∧((sty x).cls.toNat:Int) < 128:=by
 cases h:isN x
 ·simp only [sty,h,Bool.false_eq_true,if_false]
  decide
 ·rcases isN_cases h with rfl | rfl | rfl | rfl | rfl <;> decide
theorem u8back (c:UInt8):UInt8.ofNat c.toNat = c:=by simp
theorem power258_eq (H:Has 258 E) (x:Int) {n:Int} (h0:-99 ≤ n) (h1:n ≤ 99):EvClosed E (.fn (.func 258) [] []) [.agg (sty x).cs,.int .i64 n] = some (.str (powT (sty x) n)):=by
 rw [EvClosed_eq H.c258 rfl (vs:=[.agg (sty x).cs,.int .i64 n]) (by simp [Sty.cs]),EvFn_eq]
 have hi:=itoa100_eq (H.to 100) (n:=n) (by omega) (by omega)
 have hs:=(sty_small x).2.2.1
 unfold powT
 by_cases hn:n = 1
 ·subst hn
  simp [f258,start,Sty.cs]
 ·have hn':(n == 1) = false:=by simpa using hn
  have hl:(itoaS n).length ≤ 20:=by
   rw [itoa_dec]
   split
   ·have:=dec_len (-n).toNat
    simp
    omega
   ·have:=dec_len n.toNat
    omega
  rw [if_neg hn,← itoa_dec]
  generalize itoaS n = s at *
  have hl2:1 + s.length ≤ 9223372036854775807:=by omega
  simp only [Sty.cs]
  generalize (sty x).pow = pw at *
  have hb:=u8back pw
  cases hp:pw != 0
  ·have hp':pw = 0:=by simpa using hp
   subst hp'
   simp [f258,start,hn',EvCall_closed H.c100 rfl,hi]
  ·have hp':¬ pw = 0:=by simpa using hp
   have hp3:¬ pw.toNat = 0:=fun q=>hp' (UInt8.toNat.inj q)
   have hp2:((pw.toNat:Int) != 0) = true:=by
    simp
    omega
   simp [f258,start,hn',EvCall_closed H.c100 rfl,hi,hp2,hs,hb,hl2]
theorem holds265_eq (H:Has 265 E) (s:List UInt8) (o:Int):EvClosed E (.fn (.func 265) [] []) [.agg [.str s,.int .i64 o]] = some (.int .i64 (if looseB o then 0 else if o == 6 || o == 7 then 1 else 2)):=by
 rw [EvClosed_eq H.c265 rfl (vs:=[.agg [.str s,.int .i64 o]]) (by simp),EvFn_eq]
 unfold looseB
 cases h3:o == 3
 ·cases h4:o == 4
  ·cases h5:o == 5
   ·cases h6:o == 6
    ·cases h7:o == 7 <;> simp [f265,start,h3,h4,h5,h6,h7]
    ·simp [f265,start,h3,h4,h5,h6]
   ·simp [f265,start,h3,h4,h5]
  ·simp [f265,start,h3,h4]
 ·simp [f265,start,h3]
theorem in263_eq (H:Has 263 E) {s:List UInt8} (hs:s.length < 1000000000) (o q:Int):EvClosed E (.fn (.func 263) [] []) [.agg [.str s,.int .i64 q],.int .i64 o] = some (.str (partIn o (s,q))):=by
 rw [EvClosed_eq H.c263 rfl (vs:=[.agg [.str s,.int .i64 q],.int .i64 o]) (by simp),EvFn_eq]
 have hh:=holds265_eq (H.to 265) s q
 have l1:1 + s.length ≤ 9223372036854775807:=by omega
 have l2:s.length ≤ 9223372036854775805:=by omega
 unfold partIn brkD
 cases hl:looseB q
 ·rw [hl] at hh
  cases h67:(q == 6 || q == 7)
  ·rw [h67] at hh
   cases h6:o == 6 <;> simp [f263,start,h6,EvCall_closed H.c265 rfl,hh]
  ·rw [h67] at hh
   cases h6:o == 6 <;> simp [f263,start,h6,EvCall_closed H.c265 rfl,hh,l1,l2]
 ·rw [hl] at hh
  cases h6:o == 6 <;> simp [f263,start,h6,EvCall_closed H.c265 rfl,hh,l1,l2]
end Go.Pv
