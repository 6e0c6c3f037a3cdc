/- A part of the proof: functions of the program in the evaluator's code, and what they come to. Conditions: none; definitions and theorems that the statement's proof uses. -/
import Derived.Test.YtamopjeecnhfaaaGreatDoorSetwPcFr26
import Derived.KernelRfl
/- What atoms are worth, plain: the table's numbers, products of worths. Conditions: none; definitions and theorems. -/
namespace Go.Pv
def oneF:Fc:=⟨1,1,0⟩
def oneW:Wo:=⟨oneF,d0,0⟩
def baseW (k:Nat):Wo:=⟨oneF,d0.set k 1,0⟩
def termsW (ws:List Wo):List (Int × Int)→Wo→Except Int Wo
 | [],w=>.ok w
 | (a,n) :: r,w=>match (if 0 ≤ a∧-99 ≤ n∧n ≤ 99 then ws[a.toNat]? else none) with
  | none=>.error 1
  | some x=>match powW x n with
   | .error e=>.error e
   | .ok p=>match mulW w p with
    | .error e=>.error e
    | .ok w'=>termsW ws r w'
def rowW (ws:List Wo) (a:AtomR):Except Int Wo:=
 if 0 ≤ a.base then (if a.base < 7 then .ok (baseW a.base.toNat) else .error 1) else
  match (if a.num.natAbs ≤ 9223372036854775807∧a.den.natAbs ≤ 9223372036854775807 then makeF a.num a.den a.ten else .error 1) with
  | .error e=>.error e
  | .ok f=>match termsW ws a.terms ⟨f,d0,0⟩ with
   | .error e=>.error e
   | .ok w=>.ok ⟨w.f,w.d,a.tag⟩
end Go.Pv
/- What atoms are worth: the table, checked; worths in their form. Conditions: none; definitions and theorems. -/
namespace Go.Pv
def worthT:List Wo:=[
 ⟨⟨1,1,0⟩,[1,0,0,0,0,0,0],0⟩,
 ⟨⟨1,1,0⟩,[0,1,0,0,0,0,0],0⟩,
 ⟨⟨1,1,0⟩,[0,0,1,0,0,0,0],0⟩,
 ⟨⟨1,1,0⟩,[0,0,0,1,0,0,0],0⟩,
 ⟨⟨1,1,0⟩,[0,0,0,0,1,0,0],0⟩,
 ⟨⟨1,1,0⟩,[0,0,0,0,0,1,0],0⟩,
 ⟨⟨1,1,0⟩,[0,0,0,0,0,0,1],0⟩,
 ⟨⟨1,1,-2⟩,[0,0,0,0,0,0,0],0⟩,
 ⟨⟨602214076,1,15⟩,[0,0,0,0,0,0,0],0⟩,
 ⟨⟨1,1,0⟩,[0,0,0,2,0,0,0],0⟩,
 ⟨⟨1,1,0⟩,[0,-1,0,0,0,0,0],0⟩,
 ⟨⟨1,1,3⟩,[1,-2,1,0,0,0,0],0⟩,
 ⟨⟨1,1,3⟩,[-1,-2,1,0,0,0,0],0⟩,
 ⟨⟨1,1,3⟩,[2,-2,1,0,0,0,0],0⟩,
 ⟨⟨1,1,3⟩,[2,-3,1,0,0,0,0],0⟩,
 ⟨⟨1,1,0⟩,[0,-1,0,0,0,1,0],0⟩,
 ⟨⟨1,1,3⟩,[2,-2,1,0,0,-1,0],0⟩,
 ⟨⟨1,1,-3⟩,[-2,2,-1,0,0,2,0],0⟩,
 ⟨⟨1,1,3⟩,[2,-1,1,0,0,-2,0],0⟩,
 ⟨⟨1,1,-3⟩,[-2,1,-1,0,0,2,0],0⟩,
 ⟨⟨1,1,3⟩,[2,-1,1,0,0,-1,0],0⟩,
 ⟨⟨1,1,0⟩,[0,0,0,0,1,0,0],1⟩,
 ⟨⟨1,1,3⟩,[0,-1,1,0,0,-1,0],0⟩,
 ⟨⟨1,1,3⟩,[2,0,1,0,0,-2,0],0⟩,
 ⟨⟨1,1,0⟩,[0,0,0,2,0,0,1],0⟩,
 ⟨⟨1,1,0⟩,[-2,0,0,2,0,0,1],0⟩,
 ⟨⟨1,1,0⟩,[0,-1,0,0,0,0,0],0⟩,
 ⟨⟨1,1,0⟩,[2,-2,0,0,0,0,0],0⟩,
 ⟨⟨1,1,0⟩,[2,-2,0,0,0,0,0],0⟩,
 ⟨⟨1,1,-3⟩,[3,0,0,0,0,0,0],0⟩,
 ⟨⟨1,1,2⟩,[2,0,0,0,0,0,0],0⟩,
 ⟨⟨6,1,1⟩,[0,1,0,0,0,0,0],0⟩,
 ⟨⟨36,1,2⟩,[0,1,0,0,0,0,0],0⟩,
 ⟨⟨864,1,2⟩,[0,1,0,0,0,0,0],0⟩,
 ⟨⟨315576,1,2⟩,[0,1,0,0,0,0,0],0⟩,
 ⟨⟨1,1,6⟩,[0,0,1,0,0,0,0],0⟩,
 ⟨⟨1,1,8⟩,[-1,-2,1,0,0,0,0],0⟩,
 ⟨⟨254,1,-4⟩,[1,0,0,0,0,0,0],0⟩,
 ⟨⟨45359237,1,-5⟩,[0,0,1,0,0,0,0],0⟩,
 ⟨⟨602214076,1,18⟩,[-3,0,0,0,0,0,0],2⟩,
 ⟨⟨1,1,0⟩,[0,0,0,0,0,0,0],3⟩,
 ⟨⟨1,1,0⟩,[0,0,0,0,0,0,0],0⟩,
 ⟨⟨602214076,1,15⟩,[0,0,0,0,0,0,0],0⟩,
 ⟨⟨602214076,1,15⟩,[0,0,0,0,0,0,0],0⟩,
 ⟨⟨602214076,1,15⟩,[0,-1,0,0,0,0,0],0⟩,
 ⟨⟨16605390666,1,-34⟩,[0,0,1,0,0,0,0],0⟩,
 ⟨⟨1602176634,1,-25⟩,[2,-2,1,0,0,0,0],0⟩,
 ⟨⟨17718451953125,1,-13⟩,[0,0,1,0,0,0,0],0⟩]
def fcB (f:Fc):Bool:=(f.num != 0 || (f.den == 1 && f.ten == 0)) && (decide (f.num.natAbs ≤ 9223372036854775807) && (decide (0 < f.den) && (decide (f.den ≤ 9223372036854775807) && (f.den % 2 != 0 && (f.den % 5 != 0 &&
 ((f.num == 0 || (f.num.natAbs % 10 != 0 && Nat.gcd f.num.natAbs f.den == 1)) && (decide (-1000 ≤ f.ten) && decide (f.ten ≤ 1000))))))))
theorem fcB_ok {f:Fc} (h:fcB f = true):FcOk f:=by
 unfold fcB at h
 simp only [Bool.and_eq_true,Bool.or_eq_true,bne_iff_ne,beq_iff_eq,decide_eq_true_eq] at h
 obtain ⟨h1,h2,h3,h4,h5,h6,h7,h8,h9⟩:=h
 exact ⟨fun h0=>h1.resolve_left (fun h=>h h0),h2,h3,h4,h5,h6,fun h0=>(h7.resolve_left h0).1,fun h0=>(h7.resolve_left h0).2,h8,h9⟩
def woB (w:Wo):Bool:=fcB w.f && (w.d.length == 7 && (dOk w.d && (decide (0 ≤ w.tag) && decide (w.tag ≤ 99))))
theorem woB_ok {w:Wo} (h:woB w = true):WoOk w:=by
 unfold woB at h
 simp only [Bool.and_eq_true,beq_iff_eq,decide_eq_true_eq] at h
 exact ⟨fcB_ok h.1,h.2.1,h.2.2.1,h.2.2.2.1,h.2.2.2.2⟩
def sameW:Except Int Wo→Wo→Bool
 | .ok w,v=>decide (w = v)
 | .error _,_=>false
theorem sameW_eq {r:Except Int Wo} {v:Wo} (h:sameW r v = true):r = .ok v:=by
 cases r with
 | ok w=>rw [of_decide_eq_true h]
 | error e=>cases h
def checkT:Bool:=atomsT.zipIdx.all fun p=>sameW (rowW (worthT.take p.2) p.1) (worthT.getD p.2 oneW) && (woB (worthT.getD p.2 oneW) && (worthT.getD p.2 oneW).f.num != 0)
theorem checkT_ok:checkT = true:=by decide +kernel
theorem worthT_len:worthT.length = 48:=rfl
theorem atomsT_len:atomsT.length = 48:=rfl
theorem row_at {i:Nat} (h:i < atomsT.length):rowW (worthT.take i) atomsT[i] = .ok (worthT.getD i oneW)∧WoOk (worthT.getD i oneW)∧(worthT.getD i oneW).f.num ≠ 0:=by
 have hc:=List.all_eq_true.1 checkT_ok (atomsT[i],i) (by
  rw [List.mem_zipIdx_iff_getElem?]
  exact List.getElem?_eq_getElem h)
 simp only [Bool.and_eq_true,bne_iff_ne] at hc
 exact ⟨sameW_eq hc.1,woB_ok hc.2.1,hc.2.2⟩
theorem overE_ok {x:Lo} (hx:LoOk x) {ten:Int} {f:Fc} (h:overE (formL x ten) = .ok f):FcOk f∧f.num ≠ 0:=by
 cases hf:formL x ten with
 | none=>rw [hf] at h; cases h
 | some g=>rw [hf] at h; cases h; exact formL_ok hx hf
theorem prodL_ok {x y:Lo} (hx:LoOk x) (hy:LoOk y) {ten:Int} {f:Fc} (h:prodL x y ten = .ok f):FcOk f∧f.num ≠ 0:=by
 unfold prodL at h
 cases hz:timesL x y with
 | none=>rw [hz] at h; cases h
 | some z=>rw [hz] at h; exact overE_ok (timesL_ok hx hy hz) h
theorem zeroF_ok:FcOk ⟨0,1,0⟩:=fcB_ok rfl
theorem oneF_ok:FcOk oneF:=fcB_ok rfl
theorem lo_ok {a:Fc} (ha:FcOk a) (h:a.num ≠ 0):LoOk (loosen a.num a.den):=(loosen_ok h (by have:=ha.d0; omega) ha.nt (by have:=ha.dt; omega)).1
theorem mulF_ok {a b f:Fc} (ha:FcOk a) (hb:FcOk b) (h:mulF a b = .ok f):FcOk f:=by
 unfold mulF at h
 split at h
 ·cases h; exact zeroF_ok
 ·rename_i hn
  exact (prodL_ok (lo_ok ha (fun h=>hn (.inl h))) (lo_ok hb (fun h=>hn (.inr h))) h).1
theorem divF_ok {a b f:Fc} (ha:FcOk a) (hb:FcOk b) (h:divF a b = .ok f):FcOk f:=by
 unfold divF at h
 split at h
 ·cases h
 ·rename_i hn
  split at h
  ·cases h; exact ha
  ·rename_i hn'
   exact (prodL_ok (lo_ok ha hn') (invL_ok (lo_ok hb hn)) h).1
theorem powF_ok {a f:Fc} {n:Int} (ha:FcOk a) (h:powF a n = .ok f):FcOk f:=by
 unfold powF at h
 split at h
 ·cases h
 ·split at h
  ·cases h; exact oneF_ok
  ·split at h
   ·cases h; exact ha
   ·rename_i h0
    split at h
    ·cases h
    ·rename_i y hy
     exact (overE_ok (powL_ok (powLo_ok ha h0 n).1 hy) h).1
theorem makeF_ok {n d t:Int} {f:Fc} (hn:n.natAbs ≤ 9223372036854775807) (hd:d.natAbs ≤ 9223372036854775807) (h:makeF n d t = .ok f):FcOk f:=by
 unfold makeF at h
 split at h
 ·cases h
 ·rename_i h0
  split at h
  ·cases h; exact zeroF_ok
  ·rename_i h1
   split at h
   ·cases h
   ·exact (overE_ok (loosen_ok h1 h0 hn hd).1 h).1
theorem putR_wo {r:Except Int Fc} {d:List Int} {w:Wo} {tg:Bool} (hd:d.length = 7) (hr:∀ f,r = .ok f→FcOk f) (h:putR tg r d = .ok w):WoOk w:=by
 obtain ⟨_,h2,h3,h4,h5⟩:=putR_ok h
 exact ⟨hr _ h2,by rw [h3]; exact hd,by rw [h3]; exact h4,by omega,by omega⟩
theorem mulW_ok {a b w:Wo} (ha:WoOk a) (hb:WoOk b) (h:mulW a b = .ok w):WoOk w:=
 putR_wo (by unfold addD; rw [List.length_zipWith,ha.len,hb.len]; rfl) (fun f hf=>mulF_ok ha.f hb.f hf) h
theorem divW_ok {a b w:Wo} (ha:WoOk a) (hb:WoOk b) (h:divW a b = .ok w):WoOk w:=
 putR_wo (by unfold subD; rw [List.length_zipWith,ha.len,hb.len]; rfl) (fun f hf=>divF_ok ha.f hb.f hf) h
theorem powW_ok {a w:Wo} {n:Int} (ha:WoOk a) (h:powW a n = .ok w):WoOk w:=
 putR_wo (by unfold mulD; rw [List.length_map,ha.len]) (fun f hf=>powF_ok ha.f hf) h
theorem ofW_ok {n:Int} {w:Wo} (hn:n.natAbs ≤ 9223372036854775807) (h:ofW n = .ok w):WoOk w:=by
 rw [ofW_put] at h
 exact putR_wo rfl (fun f hf=>makeF_ok hn (by decide) hf) h
theorem oneW_ok:WoOk oneW:=woB_ok rfl
end Go.Pv
/- What the program says atoms are worth. Conditions: the functions' codes; theorems. -/
namespace Go.Pv
variable {E:Env}
theorem wo_len {ws:List Wo} (hw:∀ w ∈ ws,WoOk w):(ws.flatMap Wo.C).length = ws.length * 11:=by
 induction ws with
 | nil=>rfl
 | cons w ws ih=>
  rw [List.flatMap_cons,List.length_append,ih (fun x hx=>hw x (List.mem_cons_of_mem _ hx)),Wo.C_len (hw w List.mem_cons_self).len,List.length_cons]
  omega
theorem wo_drop {ws:List Wo} (hw:∀ w ∈ ws,WoOk w):∀ {i:Nat} (hi:i < ws.length),((ws.flatMap Wo.C).drop (i * 11)).take 11 = ws[i].C:=by
 induction ws with
 | nil=>intro i hi; simp at hi
 | cons w ws ih=>
  intro i hi
  have l:=Wo.C_len (hw w List.mem_cons_self).len
  cases i with
  | zero=>
   simp only [List.flatMap_cons,Nat.zero_mul,List.drop_zero,List.getElem_cons_zero]
   rw [List.take_append_of_le_length (by omega),List.take_of_length_le (by omega)]
  | succ i=>
   rw [List.flatMap_cons,Nat.add_mul,Nat.one_mul,Nat.add_comm,← List.drop_drop,List.drop_left' l]
   exact ih (fun x hx=>hw x (List.mem_cons_of_mem _ hx)) (by simpa using hi)
structure Keep1 (b:Nat) (h h':AHeap):Prop where
 old:∀ j,j < h.blks.length→j ≠ b→h'.bl j = h.bl j
 len:h.blks.length ≤ h'.blks.length
 toks:h'.toks = h.toks
 ro:h'.ro = h.ro
 rot:h'.rot = h.rot
theorem Keep1.refl (b:Nat) (h:AHeap):Keep1 b h h:=⟨fun _ _ _=>rfl,Nat.le_refl _,rfl,rfl,rfl⟩
theorem Keep1.trans {b:Nat} {x y z:AHeap} (p:Keep1 b x y) (q:Keep1 b y z):Keep1 b x z:=
 ⟨fun j hj hb=>(q.old j (Nat.lt_of_lt_of_le hj p.len) hb).trans (p.old j hj hb),Nat.le_trans p.len q.len,q.toks.trans p.toks,q.ro.trans p.ro,q.rot.trans p.rot⟩
theorem rsW_ok {w:Wo}:rsW (.ok w) = .tuple [.agg w.C,.int .i64 0]:=rfl
set_option maxRecDepth 20000 in
set_option maxHeartbeats 1000000 in
theorem inner304 (H:Has 304 E) {ws:List Wo} (hws:∀ w ∈ ws,WoOk w) {own owt:Own} {b8 b9:Nat} {t19 t20 t21:AV} {ts:List (Int × Int)} (hts:ts.length < 1000):∀ (r:List (Int × Int)) (i:Nat) (w w':Wo) (h:AHeap),ts.drop i = r→WoOk w→termsW ws r w = .ok w'→h.ro = 0→h.bl b9 = some (.cells w.C) →
  ∃ h',(∀ F,mask k304_0 F = s304_0 (.vs own ws.length (ws.flatMap Wo.C)) (.ref b8 0) (.ref b9 0) (.int .i64 0) t19 t20 t21 (.vs owt ts.length (ts.flatMap termCs)) (.int .i64 ts.length) (.int .i64 i) →
   EvCode E (.loop k304_0 l304_0) F h = some (.exit 2,x304_2 (.vs own ws.length (ws.flatMap Wo.C)) (.ref b8 0) (.ref b9 0) (.int .i64 0) t19 t20 t21,h'))∧h'.bl b9 = some (.cells w'.C)∧Keep1 b9 h h'∧WoOk w':=by
 intro r
 induction r with
 | nil=>
  intro i w w' h hr hw ht hro hb
  have hi:ts.length ≤ i:=by simpa using hr
  cases ht
  refine ⟨h,fun F hF=>?_,hb,Keep1.refl _ _,hw⟩
  rw [EvCode_loop,hF]
  have:¬ (i:Int) < ts.length:=by omega
  simp [l304_0,s304_0,x304_2,this]
 | cons p r ih=>
  intro i w w' h hr hw ht hro hb
  obtain ⟨a,n⟩:=p
  have hi:i < ts.length:=by
   rcases Nat.lt_or_ge i ts.length with h' | h'
   ·exact h'
   ·rw [List.drop_eq_nil_of_le h'] at hr; cases hr
  have hp:ts[i] = (a,n):=by
   rw [List.drop_eq_getElem_cons hi] at hr
   exact (List.cons.inj hr).1
  have hr':ts.drop (i + 1) = r:=by
   rw [List.drop_eq_getElem_cons hi] at hr
   exact (List.cons.inj hr).2
  simp only [termsW] at ht
  split at ht
  ·cases ht
  ·rename_i x hx
   split at hx
   ·rename_i hc
    obtain ⟨a0,n1,n2⟩:=hc
    split at ht
    ·cases ht
    ·rename_i pw hpw
     split at ht
     ·cases ht
     ·rename_i w1 hw1
      obtain ⟨hal,hax⟩:=List.getElem?_eq_some_iff.1 hx
      have hxo:WoOk x:=hws x (by rw [← hax]; exact List.getElem_mem hal)
      have hpo:=powW_ok hxo hpw
      have h1o:=mulW_ok hw hpo hw1
      have lt9:=blk_lt hb
      have q1:=powW_eq (H.to 303) hxo n1 n2
      have q2:=mulW_eq (H.to 295) hw hpo
      rw [hpw,rsW_ok] at q1
      rw [hw1,rsW_ok] at q2
      have hrow:=wo_drop hws hal
      rw [hax] at hrow
      have hterm:((ts.flatMap termCs).drop (i * 2)).take 2 = [.int .i64 a,.int .i64 n]:=by
       rw [fm_el (fun t=>by simp [termCs]) hi,hp]; rfl
      have lx:=Wo.C_len hxo.len
      have lp:=Wo.C_len hpo.len
      have lw:=Wo.C_len hw.len
      have l1:=Wo.C_len h1o.len
      have hwl:=wo_len hws
      have htl:(ts.flatMap termCs).length = ts.length * 2:=fm_len (fun t=>by simp [termCs]) ts
      have cw1:=Wo.C_all w1
      have cp:=Wo.C_all pw
      have tp:pw.C.take 11 = pw.C:=List.take_of_length_le (by omega)
      have tw:w.C.take 11 = w.C:=List.take_of_length_le (by omega)
      have sp:setCells 0 pw.C [.int .i64 0,.int .i64 0,.int .i64 0,.int .i64 0,.int .i64 0,.int .i64 0,.int .i64 0,.int .i64 0,.int .i64 0,.int .i64 0,.int .i64 0] = pw.C:=setCells_full (by rw [lp]; rfl)
      have sw:setCells 0 w1.C w.C = w1.C:=setCells_full (by rw [l1,lw])
      obtain ⟨h',g1,g2,g3,g4⟩:=ih (i + 1) w1 w' (((h.push (.cells [.int .i64 a,.int .i64 n])).push (.cells pw.C)).setBlk b9 (.cells w1.C)) hr' h1o ht (by simp [hro]) (by
       have k1:¬ b9 = h.blks.length:=by omega
       have k2:¬ b9 = h.blks.length + 1:=by omega
       simp [k1,k2,hb])
      have gk:Keep1 b9 h (((h.push (.cells [.int .i64 a,.int .i64 n])).push (.cells pw.C)).setBlk b9 (.cells w1.C)):=by
       refine ⟨fun j hj hb'=>?_,by rw [blks_set_length,blks_push_length,blks_push_length]; omega,rfl,rfl,rfl⟩
       have k1:¬ j = h.blks.length:=by omega
       have k2:¬ j = h.blks.length + 1:=by omega
       have k3:¬ b9 = j:=fun e=>hb' e.symm
       simp [k1,k2,k3]
      refine ⟨h',fun F hF=>?_,g2,gk.trans g3,g4⟩
      ·have k1:¬ b9 = h.blks.length:=by omega
       have k2:¬ b9 = h.blks.length + 1:=by omega
       have e1:(i:Int) < ts.length:=by omega
       have e2:IntKind.i64.wrap ((i:Int) + 1) = ((i + 1:Nat):Int):=w64
       have e3:a < (ws.length:Int):=by omega
       have e4:a.toNat * 11 < ws.length * 11:=by omega
       have e5:i * 2 < ts.length * 2:=by omega
       have e6:11 ≤ ws.length * 11 - a.toNat * 11:=by omega
       have e7:2 ≤ ts.length * 2 - i * 2:=by omega
       rw [EvCode_loop,hF]
       generalize EvCode E (.loop k304_0 l304_0) = lp at g1 ⊢
       simp only [Wo.A] at q1 q2
       generalize pw.C = PC at *
       generalize w1.C = W1 at *
       generalize w.C = WC at *
       generalize x.C = XC at *
       generalize ws.flatMap Wo.C = WS at *
       generalize ts.flatMap termCs = TS at *
       simp [l304_0,s304_0,e1,e2,e3,e4,e5,e6,e7,k1,k2,a0,hro,hb,hterm,hrow,htl,hwl,q1,q2,lp,lw,l1,tp,tw,sp,sw,cw1,cp,EvCall_closed H.c295 rfl,push_setk]
       exact g1 _ (by simp [s304_0])
   ·cases hx
end Go.Pv
/- What the functions of a book of symbols come to: its atom, what is behind a prefix, find. Conditions: the functions' codes; theorems. -/
namespace Go.Pv
variable {E:Env}
structure Tb where
 L:List AtomR
 Q:List PrefR
 o1:Own
 o2:Own
 ot:Own
def Tb.A (B:Tb):AV:=.vs B.o1 B.L.length (B.L.flatMap (acs B.ot))
def Tb.P (B:Tb):AV:=.vs B.o2 B.Q.length (B.Q.flatMap PrefR.cells)
def Tb.V (B:Tb):AV:=.agg [B.A,B.P]
def Tb.bookV (B:Tb) (n:Nat):AV:=.agg [B.A,B.P,.int .i64 ((n:Int) + 1)]
structure Tb.Ok (B:Tb):Prop where
 len:B.L.length < 1000
 plen:B.Q.length < 1000
 o1:OwnOk B.o1
 o2:OwnOk B.o2
 ot:OwnOk B.ot
variable {B:Tb} {n:Nat}
theorem Tb.A_shut (ok:B.Ok):shut 0 0 B.A = some B.A:=shut_vs ok.o1 (shutL_flat (acs_shut ok.ot) _)
theorem Tb.P_shut (ok:B.Ok):shut 0 0 B.P = some B.P:=shut_vs ok.o2 (shutL_flat PrefR.shut _)
theorem Tb.A_cell:B.A.isCell = true:=rfl
theorem Tb.P_cell:B.P.isCell = true:=rfl
def atomIdx (n:Nat) (L:List AtomR) (s:List UInt8):Int:=if s.isEmpty then -1 else idxV (fun a=>a.code n == s) L
theorem bookAtom_eq (H:Has 39 E) (ok:B.Ok) (hn:n < 5) (s:List UInt8):EvClosed E (.fn (.func 39) [] []) [B.bookV n,.str s] = some (.int .i64 (atomIdx n B.L s)):=by
 rw [EvClosed_eq H.c39 rfl (vs:=[B.bookV n,.str s]) (by simp [Tb.bookV,Tb.A_shut ok,Tb.P_shut ok]),EvFn_eq]
 have hidx:=indexFunc_eq (E:=E) (H.to 59) (cells:=acs B.ot) (p:=fun a=>a.code n == s) (f:=.fn (.func 60) [] [.ref 0 0,.ref 1 0])
  (h:=(heap0.push (.cells [B.A,B.P,.int .i64 ((n:Int) + 1)])).push (.cells [.str s])) (L:=B.L)
  (acs_len B.ot) (by have:=ok.len; omega) (own:=B.o1) (fun a _=>atom1_eq (H.to 60) B.ot a hn (A:=B.A) (P:=B.P) (by simp) (by simp))
 rw [show (AV.vs B.o1 B.L.length (B.L.flatMap (acs B.ot))) = B.A from rfl] at hidx
 cases hs:s.isEmpty
 ·simp [f39,start,Tb.bookV,hs,atomIdx,hidx]
 ·simp [f39,start,Tb.bookV,hs,atomIdx]
theorem atomIdx_range (L:List AtomR) (s:List UInt8):atomIdx n L s = -1∨∃ i:Nat,i < L.length∧atomIdx n L s = i:=by
 unfold atomIdx
 split
 ·exact .inl rfl
 ·exact idxV_range _ _
def restOf (n:Nat) (L:List AtomR) (s:List UInt8) (p:PrefR):Int × Bool:=
 let c:=cutP s (p.code n)
 if !c.2 || c.1 == s then (-1,false)
 else (atomIdx n L c.1,atomIdx n L c.1 != -1 && ((L[(atomIdx n L c.1).toNat]?).map (·.metric)).getD false)
theorem PrefR.at_ (p:PrefR) (hn:n < 5):(p.cells.drop n).take 1 = [.str (p.code n)]:=by
 have hn5:n = 0∨n = 1∨n = 2∨n = 3∨n = 4:=by omega
 rcases hn5 with rfl | rfl | rfl | rfl | rfl <;> rfl
theorem rest_ways (L:List AtomR) (s c:List UInt8):(cutP s c).2 = false∨((cutP s c).2 = true∧((cutP s c).1 == s) = true)∨((cutP s c).2 = true∧((cutP s c).1 == s) = false∧atomIdx n L (cutP s c).1 = -1) ∨
  ∃ (i:Nat),(cutP s c).2 = true∧((cutP s c).1 == s) = false∧atomIdx n L (cutP s c).1 = i∧i < L.length:=by
 cases h3:(cutP s c).2
 ·exact .inl rfl
 ·cases h4:((cutP s c).1 == s)
  ·rcases atomIdx_range (n:=n) L (cutP s c).1 with hr | ⟨i,hi,hr⟩
   ·exact .inr (.inr (.inl ⟨rfl,rfl,hr⟩))
   ·exact .inr (.inr (.inr ⟨i,rfl,rfl,hr,hi⟩))
  ·exact .inr (.inl ⟨rfl,rfl⟩)
theorem rest_eq (H:Has 40 E) (ok:B.Ok) (hn:n < 5) (s:List UInt8) (p:PrefR) {h:AHeap} {rs rb:Nat}
  (hs:h.bl rs = some (.cells [.str s])) (hb:h.bl rb = some (.cells [B.A,B.P,.int .i64 ((n:Int) + 1)])):
  EvCall E (.fn (.func 40) [] [.ref rs 0,.ref rb 0]) [.agg p.cells] h = some (.ret (.tuple [.int .i64 (restOf n B.L s p).1,.bool (restOf n B.L s p).2]),h):=by
 rw [EvCall_reader H.c40 rfl,EvFn_eq]
 have hcut:=cutPrefix_eq (E:=E) (H.to 41) s (p.code n)
 have hatom:=bookAtom_eq (E:=E) (H.to 39) ok hn (cutP s (p.code n)).1
 simp only [Tb.bookV] at hatom
 have hw:IntKind.i64.wrap (n:Int) = n:=w64
 have hn5:(n:Int) < 5:=by omega
 have hn6:n + 1 ≤ 6:=by omega
 have hn7:n < 6:=by omega
 rcases rest_ways (n:=n) B.L s (p.code n) with h3 | ⟨h3,h4⟩ | ⟨h3,h4,h5⟩ | ⟨i,h3,h4,h5,hi⟩
 ·simp [f40,start,hs,hb,blk_ne hs,blk_ne hb,hw,hn5,hn6,PrefR.at_ p hn,PrefR.len,hcut,h3,restOf]
 ·simp [f40,start,hs,hb,blk_ne hs,blk_ne hb,hw,hn5,hn6,PrefR.at_ p hn,PrefR.len,hcut,h3,h4,restOf]
 ·rw [h5] at hatom
  simp [f40,start,hs,hb,blk_ne hs,blk_ne hb,hw,hn5,hn6,PrefR.at_ p hn,PrefR.len,hcut,EvCall_closed H.c39 rfl,h3,h4,restOf,hatom,h5]
 ·rw [h5] at hatom
  have hne:((i:Int) != -1) = true:=by simp
  have hmet:=fm_at (acs_len B.ot) hi (show 5 + 1 ≤ 12 by omega)
  rw [show ((acs B.ot B.L[i]).drop 5).take 1 = [.bool B.L[i].metric] from rfl] at hmet
  simp only [Tb.A] at hatom
  simp [f40,start,hs,hb,blk_ne hs,blk_ne hb,hw,hn5,hn6,PrefR.at_ p hn,PrefR.len,hcut,EvCall_closed H.c39 rfl,h3,h4,restOf,hatom,h5,hne,hi,Tb.A,fm_len (acs_len B.ot),lt_at hi,le_off hi,lt_off hi,hmet]
def firstP (n:Nat) (L:List AtomR) (s:List UInt8):List PrefR→Nat→Int × Int × Bool
 | [],_=>(-1,-1,false)
 | p :: ps,i=>if (restOf n L s p).2 then (i,(restOf n L s p).1,true) else firstP n L s ps (i + 1)
def findB (n:Nat) (L:List AtomR) (Q:List PrefR) (s:List UInt8):Int × Int × Bool:=
 if atomIdx n L s != -1 then (-1,atomIdx n L s,true) else firstP n L s Q 0
theorem find_loop (H:Has 26 E) (ok:B.Ok) (hn:n < 5) (s:List UInt8):∀ (m i:Nat),i + m = B.Q.length→∀ (h:AHeap) F,h.bl 0 = some (.cells [B.A,B.P,.int .i64 ((n:Int) + 1)])→h.bl 1 = some (.cells [.str s])→h.ro = 0 →
  mask k26_0 F = s26_0 (.int .i64 (-1)) (.int .i64 (-1)) (.bool false) (.fn (.func 40) [] [.ref 1 0,.ref 0 0]) B.P (.int .i64 B.Q.length) (.int .i64 i) →
   ∃ h',EvCode E (.loop k26_0 l26_0) F h = some (.exit 0,x26_0 (.int .i64 (firstP n B.L s (B.Q.drop i) i).1) (.int .i64 (firstP n B.L s (B.Q.drop i) i).2.1) (.bool (firstP n B.L s (B.Q.drop i) i).2.2),h')
 | 0,i,hi,h,F,h0,h1,hro,hF=>by
  have hi':i = B.Q.length:=by omega
  subst hi'
  refine ⟨h,?_⟩
  rw [EvCode_loop,hF]
  simp [l26_0,s26_0,x26_0,firstP]
 | m + 1,i,hi,h,F,h0,h1,hro,hF=>by
  have hlt:i < B.Q.length:=by omega
  have hpl:=ok.plen
  have hne0:=blk_ne h0
  have hne1:=blk_ne h1
  have hr:=rest_eq (E:=E) (H.to 40) ok hn s B.Q[i] (h:=h.push (.cells B.Q[i].cells)) (rs:=1) (rb:=0) (by simp [hne1,h1]) (by simp [hne0,h0])
  have ih:=find_loop H ok hn s m (i + 1) (by omega) (h.push (.cells B.Q[i].cells))
  rw [EvCode_loop,hF,List.drop_eq_getElem_cons hlt]
  generalize EvCode E (.loop k26_0 l26_0) = lp at ih ⊢
  cases hp:(restOf n B.L s B.Q[i]).2
  ·rw [hp] at hr
   simp [l26_0,s26_0,hlt,Tb.P,fm_len PrefR.len,lt_at hlt,le_at hlt,fm_el PrefR.len hlt,PrefR.len,PrefR.take,setCells_full,push_set,hro,hr,PrefR.all,w64 (n:=(i:Int) + 1),firstP,hp]
   refine ih _ ?_ ?_ ?_ ?_ <;> simp [hne0,h0,hne1,h1,hro,s26_0,Tb.P]
  ·rw [hp] at hr
   simp [l26_0,s26_0,hlt,Tb.P,fm_len PrefR.len,lt_at hlt,le_at hlt,fm_el PrefR.len hlt,PrefR.len,PrefR.take,setCells_full,push_set,hro,hr,PrefR.all,firstP,hp,x26_0]
theorem find_eq (H:Has 26 E) (ok:B.Ok) (hn:n < 5) (s:List UInt8):EvClosed E (.fn (.func 26) [] []) [B.bookV n,.str s] =
  some (.tuple [.int .i64 (findB n B.L B.Q s).1,.int .i64 (findB n B.L B.Q s).2.1,.bool (findB n B.L B.Q s).2.2]):=by
 rw [EvClosed_eq H.c26 rfl (vs:=[B.bookV n,.str s]) (by simp [Tb.bookV,Tb.A_shut ok,Tb.P_shut ok]),EvFn_eq]
 have hatom:=bookAtom_eq (E:=E) (H.to 39) ok hn s
 simp only [Tb.bookV,Tb.P] at hatom
 cases ha:(atomIdx n B.L s != -1)
 ·have ha2:atomIdx n B.L s = -1:=by simpa using ha
  rw [ha2] at hatom
  have hl:=find_loop H ok hn s B.Q.length 0 (by omega)
  simp [f26,start,Tb.bookV,Tb.P,EvCall_closed H.c39 rfl,hatom]
  generalize hg:EvCode E (SCode.loop k26_0 l26_0) _ _ = r
  obtain ⟨h',rfl⟩:=via hg (hl _ _ (by simp [Tb.P]) (by simp) (by simp) (by simp [s26_0,Tb.P]))
  simp [x26_0,findB,ha]
 ·simp [f26,start,Tb.bookV,Tb.P,EvCall_closed H.c39 rfl,hatom,ha,findB]
end Go.Pv
/- The program's table, and the reference's, run. Conditions: the functions' codes; theorems. -/
namespace Go.Pv
variable {E:Env}
def progB:Tb:=⟨atomsT,prefsT,.shared,.shared,.shared⟩
def refB:Tb:=⟨atomsT,prefsT,.shared,.full,.full⟩
theorem progB_ok:progB.Ok:=⟨by decide,by decide,.inr rfl,.inr rfl,.inr rfl⟩
theorem table_run (E:Env):evClosed (extE E [(38,f38),(56,f56),(57,f57),(58,f58)] [(0,g0)] []) 200 (.fn (.func 38) [] []) [] = some progB.V:=by kernel_rfl
theorem refTable_run (E:Env):evClosed (extE E [(51,f51),(71,f71),(72,f72),(73,f73),(85,f85)] [] []) 200 (.fn (.func 51) [] []) [] = some refB.V:=by kernel_rfl
theorem table_eq (H:Has 38 E):EvClosed E (.fn (.func 38) [] []) [] = some progB.V:=by
 have he:extE E [(38,f38),(56,f56),(57,f57),(58,f58)] [(0,g0)] [] = E:=
  ext_eq (by simp [H.c38,H.c56,H.c57,H.c58]) (by simp [H.v0,globAll]) (by simp)
 have:=table_run E
 rw [he] at this
 exact EvClosed_some.2 ⟨_,this⟩
theorem refTable_eq (H:Has 51 E):EvClosed E (.fn (.func 51) [] []) [] = some refB.V:=by
 have he:extE E [(51,f51),(71,f71),(72,f72),(73,f73),(85,f85)] [] [] = E:=
  ext_eq (by simp [H.c51,H.c71,H.c72,H.c73,H.c85]) (by simp) (by simp)
 have:=refTable_run E
 rw [he] at this
 exact EvClosed_some.2 ⟨_,this⟩
end Go.Pv
