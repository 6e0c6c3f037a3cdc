/- A part of the proof: functions of the program in the evaluator's code, and what they come to. Conditions: none; definitions and theorems that the statement's proof uses. -/
import Derived.Test.YteiaohbhlapklaaGreatDoorSetPcTree4
import Derived.Test.YteiaohbhlapklaaGreatDoorSetPcSym4
import Derived.Test.YteiaohbhlapklaaGreatDoorSetPcLex8
/- The reference's functions on trees: parts, how deep brackets stand. Conditions: the functions' codes; theorems. -/
namespace Go.Pv
variable {E:Env}
def Tr.left:Tr→List StepA
 | .bin _ l _=>l.steps
 | _=>[]
def Tr.right:Tr→List StepA
 | .bin _ _ r=>r.steps
 | .note t _ | .inv t=>t.steps
 | _=>[]
theorem Tr.snoc:∀ t:Tr,∃ a x,t.steps = a++[x]∧a = t.left++t.right
 | .num _=>⟨[],_,rfl,rfl⟩
 | .sym _ _ _=>⟨[],_,rfl,rfl⟩
 | .alone _=>⟨[],_,rfl,rfl⟩
 | .note t _=>⟨t.steps,_,rfl,rfl⟩
 | .inv t=>⟨t.steps,_,rfl,rfl⟩
 | .bin _ l r=>⟨l.steps++r.steps,_,rfl,rfl⟩
structure PartsAt (t:Tr) (k:Int) (at_:Nat):Prop where
 takes:∀ a x,t.steps = a++[x]→takesI x.op = k
 cut:∀ a x,t.steps = a++[x]→k ≠ 0→cutI a a.length 1 = at_
 len:at_ = t.left.length
 kind:(k = 0∧t.left = []∧t.right = [])∨(k = 1∧t.left = [])∨k = 2
theorem snoc_inj {a b:List StepA} {x y:StepA} (h:a++[x] = b++[y]):a = b∧x = y:=by
 have:=List.append_inj' h rfl
 exact ⟨this.1,by simpa using this.2⟩
theorem cut_one {r:Tr} (hr:TrOk r) (l:List StepA):cutI (l++r.steps) (l++r.steps).length 1 = l.length:=by
 have:=cut_tr hr l [] 1 (by omega)
 simp only [List.append_nil] at this
 rw [List.length_append,this]
 exact cutI_zero _ _
theorem parts_at {t:Tr} (ht:TrOk t):∃ k at_,PartsAt t k at_:=by
 cases ht with
 | num n h1=>exact ⟨0,0,⟨fun a x h=>by obtain ⟨_,rfl⟩:=snoc_inj (a:=[]) h; rfl,fun _ _ _ h=>absurd rfl h,rfl,.inl ⟨rfl,rfl,rfl⟩⟩⟩
 | sym p a n _ _ _ _ _ _ _=>exact ⟨0,0,⟨fun a x h=>by obtain ⟨_,rfl⟩:=snoc_inj (a:=[]) h; rfl,fun _ _ _ h=>absurd rfl h,rfl,.inl ⟨rfl,rfl,rfl⟩⟩⟩
 | alone s h1 h2=>exact ⟨0,0,⟨fun a x h=>by obtain ⟨_,rfl⟩:=snoc_inj (a:=[]) h; rfl,fun _ _ _ h=>absurd rfl h,rfl,.inl ⟨rfl,rfl,rfl⟩⟩⟩
 | note t s ht h1 h2=>exact ⟨1,0,⟨fun a x h=>by obtain ⟨_,rfl⟩:=snoc_inj h; rfl,fun a x h _=>by obtain ⟨rfl,_⟩:=snoc_inj h; exact cut_one ht [],rfl,.inr (.inl ⟨rfl,rfl⟩)⟩⟩
 | inv t ht=>exact ⟨1,0,⟨fun a x h=>by obtain ⟨_,rfl⟩:=snoc_inj h; rfl,fun a x h _=>by obtain ⟨rfl,_⟩:=snoc_inj h; exact cut_one ht [],rfl,.inr (.inl ⟨rfl,rfl⟩)⟩⟩
 | bin o l r ho hl hr=>exact ⟨2,l.steps.length,⟨fun a x h=>by obtain ⟨_,rfl⟩:=snoc_inj h; rcases ho with rfl | rfl <;> rfl,fun a x h _=>by obtain ⟨rfl,_⟩:=snoc_inj h; exact cut_one hr _,rfl,.inr (.inr rfl)⟩⟩
set_option maxHeartbeats 2000000 in
theorem parts_eq (H:Has 188 E) {v:AV} {t:Tr} (ht:TrOk t) (hv:TreeV v t.steps) (hl:t.steps.length ≤ 255):∃ lv rv,EvClosed E (.fn (.func 188) [] []) [v] = some (.agg [lv,rv])∧TreeV lv t.left∧TreeV rv t.right:=by
 obtain ⟨v',sv,hv'⟩:=tree_shut hv
 rw [EvClosed_eq H.c188 rfl (vs:=[v']) (by simp [sv]),EvFn_eq]
 have hs:=sound_eq (H.to 170) ht hv' hl
 obtain ⟨a,x,e,ea⟩:=t.snoc
 obtain ⟨k,at_,P⟩:=parts_at ht
 have hk:=P.takes a x e
 have htk:=takes_eq (H.to 183) x.op
 rw [hk] at htk
 obtain ⟨e1,e2,e3⟩:=last_at e
 rcases hv' with ⟨_,h0⟩ | ⟨own,rfl⟩
 ·rw [h0] at e3
  simp at e3
 ·have ll:(t.steps.flatMap StepA.cs).length = t.steps.length * 6:=fm_len StepA.len _
  have w:IntKind.i64.wrap ((a.length:Int) + 1 - 1) = (a.length:Int):=by rw [Int.add_sub_cancel]; exact w64
  have w':IntKind.i64.wrap (a.length:Int) = (a.length:Int):=w64
  have hq:(a.length:Int) < (a.length:Int) + 1:=by omega
  have h1:a.length * 6 < (a.length + 1) * 6:=by omega
  have h2:1 ≤ (a.length + 1) * 6 - a.length * 6:=by omega
  have h3:0 < (a.length + 1) * 6 - a.length * 6:=by omega
  have hat:(a.length:Int) ≤ (a.length:Int) + 1:=by omega
  have hne:¬ a.length = a.length + 1:=by omega
  have htake:(t.steps.flatMap StepA.cs).take (a.length * 6) = a.flatMap StepA.cs:=by
   rw [fm_take StepA.len,e]
   simp
  have hsa:=shutL_flat (n:=0) (t:=0) (f:=StepA.cs) (fun s=>s.shut) a
  have hcut:k ≠ 0→∀ own:Own,EvClosed E (.fn (.func 206) [] []) [.vs own a.length (a.flatMap StepA.cs)] = some (.int .i64 at_):=by
   intro hk0 own
   have:=cut_eq (H.to 206) (v:=.vs own a.length (a.flatMap StepA.cs)) (t:=a) (.inr ⟨own,rfl⟩) (by omega)
   rw [P.cut a x e hk0] at this
   exact this
  have own3:own = .full∨own = .shared∨∃ k s,own = .tok k s:=by cases own <;> simp
  rw [e3] at ll hs ⊢
  rcases P.kind with ⟨rfl,hL,hR⟩ | ⟨rfl,hL⟩ | rfl
  ·refine ⟨.nils,.nils,?_,by rw [hL]; exact .inl ⟨rfl,rfl⟩,by rw [hR]; exact .inl ⟨rfl,rfl⟩⟩
   generalize t.steps.flatMap StepA.cs = ca at *
   simp [f188,start,EvCall_closed H.c170 rfl,EvCall_closed H.c183 rfl,hs,w',hq,ll,h1,h2,h3,e1,htk]
  ·have hc:=hcut (by decide) .shared
   have har:a = t.right:=by rw [ea,hL]; rfl
   refine ⟨.nils,.vs .shared a.length (a.flatMap StepA.cs),?_,by rw [hL]; exact .inl ⟨rfl,rfl⟩,by rw [← har]; exact .inr ⟨_,rfl⟩⟩
   generalize t.steps.flatMap StepA.cs = ca at *
   rcases own3 with rfl | rfl | ⟨_,_,rfl⟩ <;> simp [f188,start,EvCall_closed H.c170 rfl,EvCall_closed H.c183 rfl,EvCall_closed H.c206 rfl,hs,w',hq,ll,h1,h2,h3,e1,htk,hat,htake,hc,hsa]
  ·have hc:=hcut (by decide) .shared
   have hatl:at_ ≤ a.length:=by rw [P.len,ea,List.length_append]; omega
   have hlt:t.left.length = at_:=P.len.symm
   have hta:a.take at_ = t.left:=by rw [ea,← hlt,List.take_left]
   have hda:a.drop at_ = t.right:=by rw [ea,← hlt,List.drop_left]
   have hrl:t.right.length = a.length - at_:=by rw [ea,List.length_append]; omega
   have hat1:(at_:Int) ≤ (a.length:Int) + 1:=by omega
   have hat2:(at_:Int) ≤ (a.length:Int):=by omega
   have hne2:¬ at_ = a.length + 1:=by omega
   have htk2:(t.steps.flatMap StepA.cs).take (at_ * 6) = t.left.flatMap StepA.cs:=by
    rw [fm_take StepA.len,e,List.take_append_of_le_length hatl,hta]
   have hdr:(a.flatMap StepA.cs).drop (at_ * 6) = t.right.flatMap StepA.cs:=by rw [fm_drop StepA.len,hda]
   have hsl:=shutL_flat (n:=0) (t:=0) (f:=StepA.cs) (fun s=>s.shut) t.left
   have hsr:=shutL_flat (n:=0) (t:=0) (f:=StepA.cs) (fun s=>s.shut) t.right
   refine ⟨.vs .shared at_ (t.left.flatMap StepA.cs),.vs .shared (a.length - at_) (t.right.flatMap StepA.cs),?_,.inr ⟨.shared,by rw [hlt]⟩,.inr ⟨.shared,by rw [hrl]⟩⟩
   generalize t.steps.flatMap StepA.cs = ca at *
   rcases own3 with rfl | rfl | ⟨_,_,rfl⟩ <;> simp [f188,start,EvCall_closed H.c170 rfl,EvCall_closed H.c183 rfl,EvCall_closed H.c206 rfl,hs,w',hq,ll,h1,h2,h3,e1,htk,hat,htake,hc,hat1,hat2,hne2,htk2,hdr,hsl,hsr]
def Tr.deep:Tr→Nat
 | .note t _=>t.deep + (if inB 6 t.steps then 1 else 0)
 | .inv t=>t.deep + (if inB 5 t.steps then 1 else 0)
 | .bin o l r=>max (r.deep + (if inB o r.steps then 1 else 0)) l.deep
 | _=>0
theorem deep_le:∀ t:Tr,t.deep ≤ t.steps.length
 | .num _ | .sym _ _ _ | .alone _=>by simp [Tr.deep]
 | .note t _=>by
  have:=deep_le t
  simp only [Tr.deep,Tr.steps,List.length_append,List.length_cons,List.length_nil]
  split <;> omega
 | .inv t=>by
  have:=deep_le t
  simp only [Tr.deep,Tr.steps,List.length_append,List.length_cons,List.length_nil]
  split <;> omega
 | .bin o l r=>by
  have:=deep_le l
  have:=deep_le r
  simp only [Tr.deep,Tr.steps,List.length_append,List.length_cons,List.length_nil]
  split <;> omega
end Go.Pv
/- The reference's functions on trees: how deep brackets stand; digits. Conditions: the functions' codes; theorems. -/
namespace Go.Pv
variable {E:Env}
theorem last_shut {v:AV} {t a:List StepA} {x:StepA} (hv:TreeV v t) (ht:t = a++[x]):∃ own,v = .vs own (a.length + 1) (t.flatMap StepA.cs):=by
 rcases hv with ⟨_,h0⟩ | ⟨own,rfl⟩
 ·rw [h0] at ht
  simp at ht
 ·exact ⟨own,by rw [ht]; simp⟩
set_option maxHeartbeats 2000000 in
theorem nest_eq (H:Has 184 E):∀ (t:Tr),TrOk t→t.steps.length ≤ 255→∀ v,TreeV v t.steps→EvClosed E (.fn (.func 184) [] []) [v] = some (.int .i64 t.deep):=by
 have step:∀ (t r:Tr) (k:Int),TrOk t→t.steps.length ≤ 255→t.right = r.steps→(∀ v,TreeV v r.steps→EvClosed E (.fn (.func 184) [] []) [v] = some (.int .i64 r.deep)) →
   (∀ a x,t.steps = a++[x]→x.op = k)→takesI k ≠ 0→(t.left = []∧t.deep = r.deep + (if inB k r.steps then 1 else 0)∨∃ l:Tr,t.left = l.steps∧(∀ v,TreeV v l.steps→EvClosed E (.fn (.func 184) [] []) [v] = some (.int .i64 l.deep))∧t.deep = max (r.deep + (if inB k r.steps then 1 else 0)) l.deep) →
   ∀ v,TreeV v t.steps→EvClosed E (.fn (.func 184) [] []) [v] = some (.int .i64 t.deep):=by
  intro t r k ht hl hright ihr hop hk0 hleft v hv
  obtain ⟨v',sv,hv'⟩:=tree_shut hv
  rw [EvClosed_eq H.c184 rfl (vs:=[v']) (by simp [sv]),EvFn_eq]
  obtain ⟨a,x,e,ea⟩:=t.snoc
  have hx:=hop a x e
  have htk:=takes_eq (H.to 183) x.op
  rw [hx] at htk
  obtain ⟨lv,rv,hp,hlv,hrv⟩:=parts_eq (H.to 188) ht hv' hl
  obtain ⟨e1,e2,e3⟩:=last_at e
  rw [hx] at e1
  rw [hright] at hrv
  obtain ⟨ra,rx,re,_⟩:=r.snoc
  have hrl:r.steps.length < 256:=by rw [← hright]; rw [ea,List.length_append] at e3; omega
  have hin:=in_eq (H.to 189) hrv re (by omega) k
  have hd:=ihr rv hrv
  have hrd:=deep_le r
  obtain ⟨own,rfl⟩:=last_shut hv' e
  have ll:(t.steps.flatMap StepA.cs).length = (a.length + 1) * 6:=by rw [fm_len StepA.len,e3]
  have w:IntKind.i64.wrap ((a.length:Int) + 1 - 1) = (a.length:Int):=by rw [Int.add_sub_cancel]; exact w64
  have w':IntKind.i64.wrap (a.length:Int) = (a.length:Int):=w64
  have hq:(a.length:Int) < (a.length:Int) + 1:=by omega
  have h1:a.length * 6 < (a.length + 1) * 6:=by omega
  have h2:1 ≤ (a.length + 1) * 6 - a.length * 6:=by omega
  have h3:0 < (a.length + 1) * 6 - a.length * 6:=by omega
  have w2:IntKind.i64.wrap ((r.deep:Int) + 1) = (r.deep:Int) + 1:=w64
  have hkb:(takesI k == 0) = false:=by simpa using hk0
  have lvc:lv.isCell = true:=by rcases hlv with ⟨rfl,_⟩ | ⟨_,rfl⟩ <;> rfl
  have rvc:rv.isCell = true:=by rcases hrv with ⟨rfl,_⟩ | ⟨_,rfl⟩ <;> rfl
  have rvs:rv.cells? = some [rv]:=by rcases hrv with ⟨rfl,_⟩ | ⟨_,rfl⟩ <;> rfl
  unfold AV.cells? at rvs
  generalize t.steps.flatMap StepA.cs = ca at *
  rcases hleft with ⟨hL,hdp⟩ | ⟨l,hL,ihl,hdp⟩
  ·rw [hL] at hlv
   rw [hdp]
   rcases hlv with ⟨rfl,_⟩ | ⟨o2,rfl⟩
   ·cases hb:inB k r.steps <;> rw [hb] at hin <;> simp [f184,start,EvCall_closed H.c183 rfl,EvCall_closed H.c188 rfl,EvCall_closed H.c184 rfl,hp,hd,hin,htk,hkb,w',hq,ll,h1,h2,h3,e1,w2,push_setk,rvc]
   ·cases hb:inB k r.steps <;> rw [hb] at hin <;> simp [f184,start,EvCall_closed H.c183 rfl,EvCall_closed H.c188 rfl,EvCall_closed H.c184 rfl,hp,hd,hin,htk,hkb,w',hq,ll,h1,h2,h3,e1,w2,push_setk,rvc]
  ·rw [hL] at hlv
   have hdl:=ihl lv hlv
   have hlp:=Tr.steps_pos l
   obtain ⟨la,lx,le,_⟩:=l.snoc
   obtain ⟨o2,rfl⟩:=last_shut hlv le
   have hlen:decide ((0:Int) < (la.length:Int) + 1) = true:=decide_eq_true (by omega)
   rw [hdp]
   generalize l.steps.flatMap StepA.cs = cl at *
   cases hb:inB k r.steps
   ·rw [hb] at hin
    have hmx:(if (r.deep:Int) < (l.deep:Int) then AV.int .i64 (l.deep:Int) else .int .i64 (r.deep:Int)) = .int .i64 ((max (r.deep + 0) l.deep:Nat):Int):=by
     split
     ·congr 1; omega
     ·congr 1; omega
    have hmx2:(if (r.deep:Int) < (l.deep:Int) then (l.deep:Int) else (r.deep:Int)) = ((max (r.deep + 0) l.deep:Nat):Int):=by split <;> omega
    simp [f184,start,EvCall_closed H.c183 rfl,EvCall_closed H.c188 rfl,EvCall_closed H.c184 rfl,hp,hd,hdl,hin,htk,hkb,w',hq,ll,h1,h2,h3,e1,push_setk,rvc]
    simpa using hmx2
   ·rw [hb] at hin
    have hmx2:(if (r.deep:Int) + 1 < (l.deep:Int) then (l.deep:Int) else (r.deep:Int) + 1) = ((max (r.deep + 1) l.deep:Nat):Int):=by split <;> omega
    simp [f184,start,EvCall_closed H.c183 rfl,EvCall_closed H.c188 rfl,EvCall_closed H.c184 rfl,hp,hd,hdl,hin,htk,hkb,w',hq,ll,h1,h2,h3,e1,w2,push_setk,rvc]
    simpa using hmx2
 have leaf:∀ (t:Tr) (x:StepA),t.steps = []++[x]→takesI x.op = 0→t.deep = 0→∀ v,TreeV v t.steps→EvClosed E (.fn (.func 184) [] []) [v] = some (.int .i64 t.deep):=by
  intro t x e hk hdp v hv
  obtain ⟨v',sv,hv'⟩:=tree_shut hv
  rw [EvClosed_eq H.c184 rfl (vs:=[v']) (by simp [sv]),EvFn_eq]
  have htk:=takes_eq (H.to 183) x.op
  rw [hk] at htk
  obtain ⟨own,rfl⟩:=last_shut hv' e
  rw [e,hdp]
  have w0:IntKind.i64.wrap 0 = 0:=w64
  simp [f184,start,EvCall_closed H.c183 rfl,htk,StepA.cs,w0]
 intro t
 induction t with
 | num n=>intro ht hl; exact leaf _ _ rfl rfl rfl
 | sym p a n=>intro ht hl; exact leaf _ _ rfl rfl rfl
 | alone s=>intro ht hl; exact leaf _ _ rfl rfl rfl
 | note t s ih=>
  intro ht hl
  have hlt:t.steps.length ≤ 255:=by simp only [Tr.steps,List.length_append] at hl; omega
  cases ht with
  | note _ _ h1 h2 h3=>exact step (.note t s) t 6 (.note t s h1 h2 h3) hl rfl (ih h1 hlt) (fun a x h=>by obtain ⟨_,rfl⟩:=snoc_inj h; rfl) (by decide) (.inl ⟨rfl,rfl⟩)
 | inv t ih=>
  intro ht hl
  have hlt:t.steps.length ≤ 255:=by simp only [Tr.steps,List.length_append] at hl; omega
  cases ht with
  | inv _ h1=>exact step (.inv t) t 5 (.inv t h1) hl rfl (ih h1 hlt) (fun a x h=>by obtain ⟨_,rfl⟩:=snoc_inj h; rfl) (by decide) (.inl ⟨rfl,rfl⟩)
 | bin o l r ihl ihr=>
  intro ht hl
  have hlt:l.steps.length ≤ 255∧r.steps.length ≤ 255:=by simp only [Tr.steps,List.length_append] at hl; omega
  cases ht with
  | bin _ _ _ ho h1 h2=>exact step (.bin o l r) r o (.bin o l r ho h1 h2) hl rfl (ihr h2 hlt.2) (fun a x h=>by obtain ⟨_,rfl⟩:=snoc_inj h; rfl) (by rcases ho with rfl | rfl <;> decide) (.inr ⟨l,rfl,ihl h1 hlt.1,rfl⟩)
theorem nestT_eq (H:Has 173 E) {t:Tr} (ht:TrOk t) (hl:t.steps.length ≤ 255) {v:AV} (hv:TreeV v t.steps):EvClosed E (.fn (.func 173) [] []) [v] = some (.int .i64 t.deep):=by
 obtain ⟨v',sv,hv'⟩:=tree_shut hv
 rw [EvClosed_eq H.c173 rfl (vs:=[v']) (by simp [sv]),EvFn_eq]
 have h1:=sound_eq (H.to 170) ht hv' hl
 have h2:=nest_eq (H.to 184) t ht hl v' hv'
 simp [f173,start,EvCall_closed H.c170 rfl,EvCall_closed H.c184 rfl,h1,h2]
theorem byteOf_eq (H:Has 185 E) (c:UInt8):EvClosed E (.fn (.func 185) [] []) [b8 c] = some (.str [c]):=by
 rw [EvClosed_eq H.c185 rfl (vs:=[b8 c]) (by simp),EvFn_eq]
 simp [f185,start,bytesOf]
def digitsS:Nat→Nat→List UInt8
 | 0,n=>[UInt8.ofNat (48 + n)]
 | f + 1,n=>if n < 10 then [UInt8.ofNat (48 + n)] else digitsS f (n / 10)++[UInt8.ofNat (48 + n % 10)]
theorem u8_dig {n:Nat} (h:n ≤ 9):IntKind.u8.wrap (48 + (n:Int)) = (UInt8.ofNat (48 + n)).toNat:=by
 have:n = 0∨n = 1∨n = 2∨n = 3∨n = 4∨n = 5∨n = 6∨n = 7∨n = 8∨n = 9:=by omega
 rcases this with rfl | rfl | rfl | rfl | rfl | rfl | rfl | rfl | rfl | rfl <;> rfl
theorem digits_len:∀ f n,(digitsS f n).length ≤ f + 1
 | 0,n=>by simp [digitsS]
 | f + 1,n=>by
  unfold digitsS
  split
  ·simp
  ·have:=digits_len f (n / 10)
   simp only [List.length_append,List.length_cons,List.length_nil]
   omega
def leadD:Nat→Nat→Nat
 | 0,n=>n
 | f + 1,n=>if n < 10 then n else leadD f (n / 10)
def tailD:Nat→Nat→List UInt8→List UInt8
 | 0,_,s=>s
 | f + 1,n,s=>if n < 10 then s else tailD f (n / 10) (UInt8.ofNat (48 + n % 10) :: s)
theorem lead_lt:∀ f n,n < 10 ^ (f + 1)→leadD f n < 10
 | 0,n,h=>by simpa [leadD] using h
 | f + 1,n,h=>by
  unfold leadD
  split
  ·assumption
  ·have hp:(10:Nat) ^ (f + 1 + 1) = 10 ^ (f + 1) * 10:=Nat.pow_succ ..
   exact lead_lt f (n / 10) (by omega)
theorem lead_tail:∀ f n s,UInt8.ofNat (48 + leadD f n) :: tailD f n s = digitsS f n++s
 | 0,n,s=>by simp [leadD,tailD,digitsS]
 | f + 1,n,s=>by
  simp only [leadD,tailD,digitsS]
  split
  ·rfl
  ·rw [lead_tail f (n / 10)]
   simp
theorem bytes1 (c:UInt8):bytesOf [b8 c] = some [c]:=by simp [bytesOf]
theorem digits_loop {hh:AHeap}:∀ (f n:Nat) (s:List UInt8),n < 10 ^ (f + 1)→n < 9223372036854775808→s.length + f ≤ 100→∀ F,mask k186_0 F = s186_0 (.int .i64 n) (.str s) →
  EvCode E (.loop k186_0 l186_0) F hh = some (.exit 0,x186_0 (.int .i64 (leadD f n)) (.str (tailD f n s)),hh):=by
 intro f
 induction f with
 | zero=>
  intro n s hn hn2 hs F hF
  have h10:decide ((10:Int) ≤ (n:Int)) = false:=decide_eq_false (by omega)
  have h10':¬ 10 ≤ n:=by omega
  rw [EvCode_loop,hF]
  simp [l186_0,s186_0,x186_0,h10,leadD,tailD]
 | succ f ih=>
  intro n s hn hn2 hs F hF
  by_cases h:n < 10
  ·have h10:decide ((10:Int) ≤ (n:Int)) = false:=decide_eq_false (by omega)
   have h10':¬ 10 ≤ n:=by omega
   rw [EvCode_loop,hF]
   simp [l186_0,s186_0,x186_0,h10,leadD,tailD,h]
  ·have h10:decide ((10:Int) ≤ (n:Int)) = true:=decide_eq_true (by omega)
   have h10':10 ≤ n:=by omega
   have hp:(10:Nat) ^ (f + 1 + 1) = 10 ^ (f + 1) * 10:=Nat.pow_succ ..
   have ih:=ih (n / 10) (UInt8.ofNat (48 + n % 10) :: s) (by omega) (by omega) (by simp only [List.length_cons]; omega)
   have w1:IntKind.i64.wrap (48 + (n:Int).tmod 10) = 48 + ((n % 10:Nat):Int):=(w64:IntKind.i64.wrap (48 + ((n % 10:Nat):Int)) = _)
   have w2:=u8_dig (n:=n % 10) (by omega)
   have w3:IntKind.i64.wrap ((n:Int) / 10) = ((n / 10:Nat):Int):=by rw [w64]; rfl
   have hl:s.length + 1 ≤ 9223372036854775807:=by omega
   have hl':1 + s.length ≤ 9223372036854775807:=by omega
   have w12:IntKind.u8.wrap (IntKind.i64.wrap (48 + (n:Int).tmod 10)) = ((UInt8.ofNat (48 + n % 10)).toNat:Int):=by rw [w1]; exact w2
   have hb:=bytes1 (UInt8.ofNat (48 + n % 10))
   have e1:leadD (f + 1) n = leadD f (n / 10):=by simp only [leadD]; rw [if_neg h]
   have e2:tailD (f + 1) n s = tailD f (n / 10) (UInt8.ofNat (48 + n % 10) :: s):=by simp only [tailD]; rw [if_neg h]
   rw [EvCode_loop,hF,e1,e2]
   generalize UInt8.ofNat (48 + n % 10) = c at *
   generalize EvCode E (.loop k186_0 l186_0) = lp at ih ⊢
   simp [l186_0,s186_0,h10,w12,hb,hl',w3]
   exact ih _ (by simp [s186_0])
def decS (n:Nat):List UInt8:=digitsS 18 n
theorem dec_len (n:Nat):(decS n).length ≤ 19:=digits_len 18 n
theorem digits_eq (H:Has 186 E) {n:Nat} (hn:n < 9223372036854775808):EvClosed E (.fn (.func 186) [] []) [.int .i64 n] = some (.str (decS n)):=by
 rw [EvClosed_eq H.c186 rfl (vs:=[.int .i64 n]) (by simp),EvFn_eq]
 have hlt:=lead_lt 18 n (by omega)
 have lp:=digits_loop (E:=E) (hh:=heap0) 18 n [] (by omega) hn (by simp)
 have hlt2:=lead_tail 18 n []
 have hln:=digits_len 18 n
 rw [List.append_nil] at hlt2
 have hl3:(tailD 18 n []).length + 1 ≤ 19:=by rw [← hlt2] at hln; simpa using hln
 have w1:IntKind.i64.wrap (48 + (leadD 18 n:Int)) = 48 + (leadD 18 n:Int):=w64
 have w2:=u8_dig (n:=leadD 18 n) (by omega)
 have hb:=bytes1 (UInt8.ofNat (48 + leadD 18 n))
 unfold decS
 generalize leadD 18 n = m at *
 generalize tailD 18 n [] = tl at *
 rw [← hlt2]
 rw [← w1] at w2
 generalize UInt8.ofNat (48 + m) = c at *
 have hl:tl.length + 1 ≤ 9223372036854775807:=by omega
 have hl':1 + tl.length ≤ 9223372036854775807:=by omega
 simp [f186,start]
 rw [lp _ (by simp [s186_0])]
 simp [x186_0,w2,hb,hl']
end Go.Pv
/- What the reference's texts of symbols come to, all of them, their row, a rank. Conditions: the functions' codes; theorems. -/
namespace Go.Pv
variable {E:Env} {B:Tb} {n:Nat}
set_option maxHeartbeats 2000000 in
theorem refText_eq (H:Has 53 E) (ok:B.Ok) (sh:B.Short) (hn:n < 5) {p:Int} (hp:-1 ≤ p) (hp2:p < B.Q.length) {i:Nat} (hi:i < B.L.length):EvClosed E (.fn (.func 53) [] []) [B.V,.int .i64 ((n:Int) + 1),.int .i64 p,.int .i64 i] = some (.str (symText n B.L B.Q p i)):=by
 rw [EvClosed_eq H.c53 rfl (vs:=[B.V,.int .i64 ((n:Int) + 1),.int .i64 p,.int .i64 i]) (by simp [Tb.V,Tb.A_shut ok,Tb.P_shut ok]),EvFn_eq]
 have hw:IntKind.i64.wrap (n:Int) = n:=w64
 have hn5:(n:Int) < 5:=by omega
 have hi1:=decide_eq_false (by omega:¬ ((i:Int) < 0))
 have hi2:=decide_eq_false (by omega:¬ ((B.L.length:Int) ≤ i))
 have hi3:¬ (B.L.length ≤ i):=by omega
 have hp1:=decide_eq_false (by omega:¬ (p < -1))
 have hp3:=decide_eq_false (by omega:¬ ((B.Q.length:Int) ≤ p))
 have hc:(B.L[i].code n).length ≤ 1000:=sh.a _ (List.getElem_mem hi) n
 have ca:=code_at B.ot hn hi
 have cm:=metric_at B.ot hi
 cases h1:(B.L[i].code n).isEmpty
 ·by_cases hpp:p = -1
  ·subst hpp
   simp [f53,start,Tb.V,Tb.A,Tb.P,hi,hi1,hi3,hp3,hw,hn5,fm_len (acs_len B.ot),lt_at hi,le_off hi,lt_off hi,(by omega:n < 12),(by omega:n + 1 ≤ 12),ca,h1,symText,textA]
  ·obtain ⟨j,rfl⟩:∃ j:Nat,p = j:=⟨p.toNat,by omega⟩
   have hj:j < B.Q.length:=by omega
   have hj3:¬ (B.Q.length ≤ j):=by omega
   have hj4:((j:Int) == -1) = false:=by simp
   have hj5:¬ ((j:Int) = -1):=by omega
   have hq:(B.Q[j].code n).length ≤ 1000:=sh.p _ (List.getElem_mem hj) n
   have hs3:(B.Q[j].code n).length + (B.L[i].code n).length ≤ 9223372036854775807:=by omega
   have cp:=pref_at hn hj
   cases h2:(B.Q[j].code n).isEmpty
   ·cases h3:B.L[i].metric <;> simp [f53,start,Tb.V,Tb.A,Tb.P,hi,hi1,hi3,hp1,hw,hn5,fm_len (acs_len B.ot),lt_at hi,le_off hi,lt_off hi,(by omega:n < 12),(by omega:n + 1 ≤ 12),ca,cm,h1,h2,h3,hj,hj3,hj4,hj5,cp,fm_len PrefR.len,lt_at hj,le_off hj,lt_off hj,(by omega:n < 6),(by omega:n + 1 ≤ 6),hs3,symText,textP]
   ·simp [f53,start,Tb.V,Tb.A,Tb.P,hi,hi1,hi3,hp1,hw,hn5,fm_len (acs_len B.ot),lt_at hi,le_off hi,lt_off hi,(by omega:n < 12),(by omega:n + 1 ≤ 12),ca,h1,h2,hj,hj3,hj4,hj5,cp,fm_len PrefR.len,lt_at hj,le_off hj,lt_off hj,(by omega:n < 6),(by omega:n + 1 ≤ 6),symText,textP]
 ·have h1':B.L[i].code n = []:=by simpa using h1
  have hs:symText n B.L B.Q p i = []:=by
   unfold symText textA textP
   split
   ·simp [hi,h1']
   ·simp only [List.getElem?_eq_getElem hi]
    split
    ·rename_i a q e1 e2
     cases e1
     simp [h1']
    ·rfl
  rw [hs]
  simp [f53,start,Tb.V,Tb.A,Tb.P,hi,hi1,hi3,hp1,hp3,hw,hn5,fm_len (acs_len B.ot),lt_at hi,le_off hi,lt_off hi,(by omega:n < 12),(by omega:n + 1 ≤ 12),ca,h1']
theorem refTold_eq (H:Has 52 E) (ok:B.Ok) (sh:B.Short) (hn:n < 5) {p:Int} (hp:-1 ≤ p) (hp2:p < B.Q.length) {i:Nat} (hi:i < B.L.length):EvClosed E (.fn (.func 52) [] []) [B.V,.int .i64 ((n:Int) + 1),.int .i64 p,.int .i64 i] = some (.bool (toldB n B.L B.Q (symText n B.L B.Q p i) p i)):=by
 rw [EvClosed_eq H.c52 rfl (vs:=[B.V,.int .i64 ((n:Int) + 1),.int .i64 p,.int .i64 i]) (by simp [Tb.V,Tb.A_shut ok,Tb.P_shut ok]),EvFn_eq]
 have ht:=refText_eq (H.to 53) ok sh hn hp hp2 hi
 have hf:=refFind_eq (H.to 74) ok hn (symText n B.L B.Q p i)
 generalize symText n B.L B.Q p i = s at ht hf ⊢
 simp only [Tb.V] at ht hf
 have ca:=@Tb.A_cell B
 have cp:=@Tb.P_cell B
 cases h1:s.isEmpty
 ·cases h2:(findB n B.L B.Q s).2.2
  ·simp [f52,start,Tb.V,EvCall_closed H.c53 rfl,EvCall_closed H.c74 rfl,ht,hf,toldB,h1,h2]
  ·cases h3:((findB n B.L B.Q s).1 == p) <;> simp [f52,start,Tb.V,EvCall_closed H.c53 rfl,EvCall_closed H.c74 rfl,ht,hf,toldB,h1,h2,h3]
 ·simp [f52,start,Tb.V,EvCall_closed H.c53 rfl,EvCall_closed H.c74 rfl,ht,hf,toldB,h1]
end Go.Pv
/- No code of the tables is long. Conditions: none; theorems. -/
namespace Go.Pv
theorem short_of (B:Tb) (h:(B.L.all fun a=>decide (a.c1.length ≤ 1000) && decide (a.c2.length ≤ 1000) && decide (a.c3.length ≤ 1000) && decide (a.c4.length ≤ 1000) && decide (a.c5.length ≤ 1000)) = true)
  (k:(B.Q.all fun a=>decide (a.c1.length ≤ 1000) && decide (a.c2.length ≤ 1000) && decide (a.c3.length ≤ 1000) && decide (a.c4.length ≤ 1000) && decide (a.c5.length ≤ 1000)) = true):B.Short:=by
 refine ⟨fun a ha n=>?_,fun a ha n=>?_⟩
 ·have:=List.all_eq_true.1 h a ha
  simp only [Bool.and_eq_true,decide_eq_true_eq] at this
  unfold AtomR.code
  split <;> omega
 ·have:=List.all_eq_true.1 k a ha
  simp only [Bool.and_eq_true,decide_eq_true_eq] at this
  unfold PrefR.code
  split <;> omega
theorem progB_short:progB.Short:=short_of _ (by decide) (by decide)
theorem refB_short:refB.Short:=short_of _ (by decide) (by decide)
end Go.Pv
