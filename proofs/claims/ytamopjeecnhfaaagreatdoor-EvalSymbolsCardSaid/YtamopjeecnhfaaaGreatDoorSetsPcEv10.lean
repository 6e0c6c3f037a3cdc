/- A part of the proof: functions of the program in the evaluator's code, and what they come to. Conditions: none; definitions and theorems that the statement's proof uses. -/
import Derived.Test.YtamopjeecnhfaaaGreatDoorSetsPcEv14
import Derived.Test.YtamopjeecnhfaaaGreatDoorSetsPcParse7
import Derived.Test.YtamopjeecnhfaaaGreatDoorSetsPcEv8
import Derived.Test.YtamopjeecnhfaaaGreatDoorSetsPcSym3
import Derived.Test.YtamopjeecnhfaaaGreatDoorSetsPcSym2
import Derived.Test.YtamopjeecnhfaaaGreatDoorSetsPcMay2
/- What the reference says a symbol is worth. Conditions: the functions' codes; theorems. -/
namespace Go.Pv
variable {E:Env}
theorem makeF_pref {p:Int} (h0:0 ≤ p) (h1:p < prefsT.length):makeF 1 1 (prefTen p) = .ok ⟨1,1,prefTen p⟩∧(prefTen p).natAbs ≤ 1000000:=by
 unfold prefTen
 have hp:p.toNat < prefsT.length:=by omega
 rw [List.getElem?_eq_getElem hp]
 have hd:(prefsT.all fun q=>(match makeF 1 1 q.ten with | .ok f=>decide (f = ⟨1,1,q.ten⟩) | .error _=>false) && decide (q.ten.natAbs ≤ 1000000)) = true:=by decide +kernel
 have:=List.all_eq_true.1 hd _ (List.getElem_mem hp)
 simp only [Bool.and_eq_true,decide_eq_true_eq] at this
 refine ⟨?_,this.2⟩
 have h:=this.1
 split at h
 ·rename_i f hf
  have he:=of_decide_eq_true h
  dsimp only
  rw [hf,he]
 ·cases h
set_option maxRecDepth 20000 in
theorem atom290 (H:Has 290 E) (i:Int):EvClosed E (.fn (.func 290) [] []) [.int .i64 i] = some (gtW (atomR i)):=by
 rw [EvClosed_eq H.c290 rfl (vs:=[.int .i64 i]) (by simp),EvFn_eq]
 have h48:atomsT.length = 48:=rfl
 have q1:=refTable_eq (H.to 51)
 rw [refB_V] at q1
 have hAc:refB.A.isCell = true:=rfl
 have hPc:refB.P.isCell = true:=rfl
 have hAV:refB.A = .vs .shared 48 (atomsT.flatMap (acs .full)):=rfl
 unfold atomR
 by_cases h0:0 ≤ i
 ·by_cases h1:i < atomsT.length
  ·rw [if_pos ⟨h0,h1⟩]
   obtain ⟨n,rfl⟩:∃ n:Nat,i = n:=⟨i.toNat,by omega⟩
   have hn:n < atomsT.length:=by omega
   have q2:=refAtom306 (H.to 306) n hn
   obtain ⟨_,hok,_⟩:=row_at hn
   rw [refB_V,gtW_ok] at q2
   rw [Int.toNat_natCast,gtW_ok]
   have lw:=C12_len hok
   have s12:=set_12 lw
   have t12:((worthT.getD n oneW).C++[AV.int .i64 0]).take 12 = (worthT.getD n oneW).C++[AV.int .i64 0]:=List.take_of_length_le (by omega)
   have c12:=C12_all (worthT.getD n oneW) 0
   have sh:=C12_shut (worthT.getD n oneW) 0
   have e1:¬ (48:Int) ≤ n:=by omega
   have e2:¬ (n:Int) < 0:=by omega
   generalize (worthT.getD n oneW).C++[AV.int .i64 0] = W at *
   simp only [hAV] at q1 q2 hAc
   generalize (atomsT.flatMap (acs .full)) = A0 at *
   generalize refB.P = P0 at *
   simp [f290,start,EvCall_closed H.c51 rfl,EvCall_closed H.c306 rfl,q1,q2,e1,e2,hPc,lw,s12,t12,c12,sh,push_setk,push_setl]
  ·rw [if_neg (fun h=>h1 h.2)]
   have e1:(48:Int) ≤ i:=by omega
   have e2:¬ i < 0:=by omega
   simp only [hAV] at q1 hAc
   generalize (atomsT.flatMap (acs .full)) = A0 at *
   generalize refB.P = P0 at *
   simp [f290,start,EvCall_closed H.c51 rfl,q1,e1,e2,hPc,push_setk,push_setl,gtW,wo0C]
 ·rw [if_neg (fun h=>h0 h.1)]
  have e2:i < 0:=by omega
  generalize refB.A = A0 at *
  generalize refB.P = P0 at *
  simp [f290,start,EvCall_closed H.c51 rfl,q1,e2,hAc,hPc,push_setk,push_setl,gtW,wo0C]
theorem frac_C12 (f:Fc) (w:Wo):(((w.C++[AV.int .i64 0]).set 0 (.int .i64 f.num)).set 1 (.int .i64 f.den)).set 2 (.int .i64 f.ten) = (⟨f,w.d,w.tag⟩:Wo).C++[.int .i64 0]:=by simp [fcC,Wo.C,dC]
theorem C12_f (w:Wo) (e:Int):(w.C++[AV.int .i64 e]).take 3 = fcC w.f:=by simp [Wo.C,fcC]
set_option maxRecDepth 20000 in
set_option maxHeartbeats 4000000 in
theorem symbol291_of (H:Has 291 E) (x:StepA) (hs:EvClosed E (.fn (.func 182) [] []) [.agg x.cs] = some (.bool (mayB x))):EvClosed E (.fn (.func 291) [] []) [.agg x.cs] = some (gtW (symR x)):=by
 rw [EvClosed_eq H.c291 rfl (vs:=[.agg x.cs]) (by simp [StepA.shut]),EvFn_eq]
 obtain ⟨op,p,a,n,num,text⟩:=x
 unfold symR
 dsimp only at *
 by_cases h2:op = 2
 ·subst h2
  cases hm:mayB ⟨2,p,a,n,num,text⟩ with
  | false=>
   rw [hm] at hs
   simp only [StepA.cs] at hs ⊢
   simp [f291,start,EvCall_closed H.c182 rfl,hs,push_setk,gtW,wo0C]
  | true=>
   rw [hm] at hs
   obtain ⟨hsy,hnum,htx⟩:=mayB_two (x:=⟨2,p,a,n,num,text⟩) rfl hm
   dsimp only at hsy hnum htx
   obtain ⟨⟨a0,a1⟩,⟨p0,p1⟩,⟨n0,n1⟩,_⟩:=symB_in hsy
   have q1:=atom290 (H.to 290) a
   rw [atomR_in a0 a1,gtW_ok] at q1
   obtain ⟨wok,_⟩:=worth_ok a0 a1
   rw [if_pos ⟨rfl,rfl⟩]
   unfold symW
   generalize hW:worthT.getD a.toNat oneW = W at *
   have lw:=C12_len wok
   have tw:(W.C++[AV.int .i64 0]).take 12 = W.C++[AV.int .i64 0]:=List.take_of_length_le (by omega)
   have sw:=set_12 lw
   have aw:=C12_all W 0
   have ss:=C12_shut W 0
   have ew:=C12_e wok 0
   have ww:=C12_w wok 0
   have l11:=Wo.C_len wok.len
   simp only [StepA.cs] at hs ⊢
   by_cases hp:0 ≤ p
   ·have hpo:=pref_ok hp p1
    obtain ⟨hmk,hten⟩:=makeF_pref hp p1
    have hq:=mul298 (H.to 298) wok.f hpo
    have hm1:=make301 (H.to 301) (num:=1) (den:=1) (ten:=prefTen p) (by decide) (by decide) hten
    rw [hmk] at hm1
    have q2:=refTable_eq (H.to 51)
    rw [refB_V] at q2
    have hfr:fracW p a = mulF W.f ⟨1,1,prefTen p⟩:=by unfold fracW; rw [if_pos hp,hW]
    rw [hfr]
    have hpc:=pref_cells hp p1
    have hpl:(prefsT.flatMap PrefR.cells).length = prefsT.length * 6:=fm_len PrefR.len prefsT
    have h20:prefsT.length = 20:=rfl
    rw [h20] at hpl p1
    have e1:p < 20:=p1
    have e2:p.toNat * 6 < 120:=by omega
    have e3:5 < 120 - p.toNat * 6:=by omega
    have e4:1 ≤ 115 - p.toNat * 6:=by omega
    have u1:=C12_f W 0
    have hA:refB.A.isCell = true:=rfl
    have hP:refB.P = .vs .full 20 (prefsT.flatMap PrefR.cells):=rfl
    rw [hP] at q2
    generalize (prefsT.flatMap PrefR.cells) = PC at *
    generalize refB.A = A0 at *
    simp only [fcA,fcC,gtF,show ((1:Nat):Int) = 1 from rfl] at hq u1
    simp only [gtF,gtC,fcC,List.cons_append,List.nil_append,show ((1:Nat):Int) = 1 from rfl] at hm1
    cases hmf:mulF W.f ⟨1,1,prefTen p⟩ with
    | error e=>
     have he:(e != 0) = true:=by simpa using mulF_ne hmf
     rw [hmf] at hq
     simp only [gtC] at hq
     generalize W.C++[AV.int .i64 0] = WC at *
     simp [f291,start,EvCall_closed H.c182 rfl,EvCall_closed H.c290 rfl,EvCall_closed H.c298 rfl,hs,q1,q2,lw,sw,aw,ew,hp,hpc,hpl,e1,e2,e3,e4,u1,hq,hm1,he,push_setk,push_setl,gtW,wo0C]
    | ok f=>
     have hfo:=fracW_ok (p:=p) a0 a1 p1 (hfr.trans hmf)
     have hw2:WoOk ⟨f,W.d,W.tag⟩:=⟨hfo,wok.len,wok.d,wok.t0,wok.t1⟩
     have hfC:=frac_C12 f W
     rw [hmf] at hq
     simp only [gtC,fcC,List.cons_append,List.nil_append] at hq
     unfold powN1
     have lw2:=C12_len hw2
     have tw2:((⟨f,W.d,W.tag⟩:Wo).C++[AV.int .i64 0]).take 12 = (⟨f,W.d,W.tag⟩:Wo).C++[AV.int .i64 0]:=List.take_of_length_le (by omega)
     have sw2:=set_12 lw2
     have aw2:=C12_all (⟨f,W.d,W.tag⟩:Wo) 0
     have ss2:=C12_shut (⟨f,W.d,W.tag⟩:Wo) 0
     have ww2:=C12_w hw2 0
     have q3:=pow307 (H.to 307) hw2 n0 n1
     by_cases hn:n = 1
     ·subst hn
      dsimp only
      rw [if_pos rfl,gtW_ok]
      generalize (⟨f,W.d,W.tag⟩:Wo).C++[AV.int .i64 0] = W2 at *
      generalize W.C++[AV.int .i64 0] = WC at *
      simp [f291,start,EvCall_closed H.c182 rfl,EvCall_closed H.c290 rfl,EvCall_closed H.c298 rfl,hs,q1,q2,lw,sw,aw,ew,hp,hpc,hpl,e1,e2,e3,e4,u1,hq,hm1,hfC,lw2,tw2,sw2,aw2,ss2,push_setk,push_setl]
     ·dsimp only
      rw [if_neg hn]
      have hn':(n != 1) = true:=by simpa using hn
      obtain ⟨cs,r1,r2,r3,r4⟩:=gtW_shape (tg:=decide (W.tag ≠ 0)) (r:=powF f n) (d:=mulD W.d n) (by unfold mulD; rw [List.length_map,wok.len])
      have hpw:powW ⟨f,W.d,W.tag⟩ n = putR (decide (W.tag ≠ 0)) (powF f n) (mulD W.d n):=rfl
      rw [hpw,r1] at q3 ⊢
      have tc:cs.take 12 = cs:=List.take_of_length_le (by omega)
      have sc:=set_12 r2
      simp only [Wo.A] at q3
      generalize (⟨f,W.d,W.tag⟩:Wo).C++[AV.int .i64 0] = W2 at *
      generalize (⟨f,W.d,W.tag⟩:Wo).C = W3 at *
      generalize W.C++[AV.int .i64 0] = WC at *
      simp [f291,start,EvCall_closed H.c182 rfl,EvCall_closed H.c290 rfl,EvCall_closed H.c298 rfl,EvCall_closed H.c307 rfl,hs,q1,q2,q3,lw,sw,aw,ew,hp,hpc,hpl,e1,e2,e3,e4,u1,hq,hm1,hfC,lw2,ww2,hn',r2,r3,r4,tc,sc,push_setk,push_setl]
   ·have hfr:fracW p a = .ok W.f:=by unfold fracW; rw [if_neg hp,hW]
    rw [hfr]
    have hp':p < 0:=by omega
    unfold powN1
    have q3:=pow307 (H.to 307) wok n0 n1
    by_cases hn:n = 1
    ·subst hn
     dsimp only
     rw [if_pos rfl,gtW_ok]
     generalize W.C++[AV.int .i64 0] = WC at *
     simp [f291,start,EvCall_closed H.c182 rfl,EvCall_closed H.c290 rfl,hs,q1,lw,tw,sw,aw,ss,ew,hp,push_setk,push_setl]
    ·dsimp only
     rw [if_neg hn]
     have hn':(n != 1) = true:=by simpa using hn
     obtain ⟨cs,r1,r2,r3,r4⟩:=gtW_shape (tg:=decide (W.tag ≠ 0)) (r:=powF W.f n) (d:=mulD W.d n) (by unfold mulD; rw [List.length_map,wok.len])
     have hpw:powW W n = putR (decide (W.tag ≠ 0)) (powF W.f n) (mulD W.d n):=rfl
     rw [hpw,r1] at q3 ⊢
     have tc:cs.take 12 = cs:=List.take_of_length_le (by omega)
     have sc:=set_12 r2
     simp only [Wo.A] at q3
     generalize W.C++[AV.int .i64 0] = WC at *
     generalize W.C = W3 at *
     simp [f291,start,EvCall_closed H.c182 rfl,EvCall_closed H.c290 rfl,EvCall_closed H.c307 rfl,hs,q1,q3,lw,sw,aw,ew,ww,hp,hn',r2,r3,r4,tc,sc,push_setk,push_setl]
 ·have h2':(op != 2) = true:=by simpa using h2
  simp only [StepA.cs] at hs ⊢
  cases hm:mayB ⟨op,p,a,n,num,text⟩ <;> rw [hm] at hs <;> simp [f291,start,EvCall_closed H.c182 rfl,hs,h2,h2',push_setk,gtW,wo0C]
end Go.Pv
/- The reference's functions on trees: how deep brackets stand; digits. Conditions: the functions' codes; theorems. -/
namespace Go.Pv
variable {E:Env}
end Go.Pv
/- What the reference says trees are worth. Conditions: the functions' codes; theorems. -/
namespace Go.Pv
variable {E:Env}
structure LastH (ca:List AV) (n:Nat) (x:StepA):Prop where
 ll:ca.length = (n + 1) * 6
 el:(ca.drop (n * 6)).take 6 = x.cs
theorem TreeV.cell {v:AV} {t:List StepA} (h:TreeV v t):v.isCell = true:=by
 rcases h with ⟨rfl,_⟩ | ⟨own,rfl⟩ <;> rfl
end Go.Pv
/- What the reference says trees are worth: by structure. Conditions: the functions' codes; theorems. -/
namespace Go.Pv
variable {E:Env}
structure SideOk (r:Except Int Wo):Prop where
 ok:∀ w,r = .ok w→WoOk w
 ne:∀ e,r = .error e→e ≠ 0
structure NodeH (E:Env) (t:List StepA) (n:Nat) (x:StepA) (v lv rv:AV) (rr:Except Int Wo) (own:Own):Prop where
 vv:v = .vs own (n + 1) (t.flatMap StepA.cs)
 ll:(t.flatMap StepA.cs).length = (n + 1) * 6
 el:((t.flatMap StepA.cs).drop (n * 6)).take 6 = x.cs
 few:n < 1000
 op:x.op = 3∨x.op = 4∨x.op = 5∨x.op = 6
 p:EvClosed E (.fn (.func 188) [] []) [v] = some (.agg [lv,rv])
 r:EvClosed E (.fn (.func 305) [] []) [rv] = some (gtW rr)
 s:SideOk rr
 sv:shut 0 0 v = some v
 lc:lv.isCell = true
 rc:rv.isCell = true
end Go.Pv
/- Trees that are made of numbers. Conditions: the functions' codes; theorems. -/
namespace Go.Pv
variable {E:Env} {h:AHeap} {p:Nat}
theorem RW.set {L l:List Int} (S:RW h p L l) {b:Nat} (hb:b ≠ p) (y:ABlk):RW (h.setBlk b y) p L l:=by
 obtain ⟨⟨i,v,h1,h2,h3,h4⟩,h5,h6,h7⟩:=S
 exact ⟨⟨i,v,h1,h2,h3,by rw [bl_set,if_neg hb]; exact h4⟩,h5,h6,h7⟩
end Go.Pv
/- The trees that are made of numbers. Conditions: the functions' codes; theorems. -/
namespace Go.Pv
variable {E:Env} {h:AHeap} {p:Nat}
end Go.Pv
/- What the reference's texts of symbols come to, all of them, their row, a rank. Conditions: the functions' codes; theorems. -/
namespace Go.Pv
variable {E:Env} {B:Tb} {n:Nat}
end Go.Pv
/- No code of the tables is long. Conditions: none; theorems. -/
namespace Go.Pv
end Go.Pv
/- The reference's text of a tree: symbols, powers. Conditions: the functions' codes; theorems. -/
namespace Go.Pv
variable {E:Env}
def symD (x p a:Int):List UInt8:=symText (x - 1).toNat refB.L refB.Q p a.toNat
end Go.Pv
/- The reference's text of a tree. Conditions: the functions' codes; theorems. -/
namespace Go.Pv
variable {E:Env}
def Tr.fits:Tr→Prop
 | .num n=>n ≤ 9223372036854775807
 | .sym _ _ _=>True
 | .alone _=>True
 | .note t _=>t.fits
 | .inv t=>t.fits
 | .bin _ l r=>l.fits∧r.fits
end Go.Pv
/- The reference's text of a tree, of parts. Conditions: the functions' codes; theorems. -/
namespace Go.Pv
variable {E:Env}
end Go.Pv
/- What the reference prints. Conditions: the functions' codes; theorems. -/
namespace Go.Pv
variable {E:Env}
def toldD (x p a:Int):Bool:=toldB (x - 1).toNat atomsT prefsT (symD x p a) p a
end Go.Pv
/- What the reference prints, and of trees that are made of numbers. Conditions: the functions' codes; theorems. -/
namespace Go.Pv
variable {E:Env}
end Go.Pv
/- What is printed, in tokens. Conditions: none; definitions and theorems. -/
namespace Go.Pv
variable {x:Int}
def NJ (x:Int) (r:List UInt8):Prop:=∀ c s,r = c :: s→kind x c ≠ 1∧kind x c ≠ 2
theorem NJ.nil:NJ x []:=fun _ _ h=>by cases h
theorem NJ.cons {c:UInt8} {s:List UInt8} (h1:kind x c ≠ 1) (h2:kind x c ≠ 2):NJ x (c :: s):=fun _ _ h=>by cases h; exact ⟨h1,h2⟩
end Go.Pv
/- The tokens of what is printed. Conditions: none; definitions and theorems. -/
namespace Go.Pv
variable {x:Int}
def Tr.told (x:Int):Tr→Prop
 | .num _=>True
 | .sym p a _=>toldD x p a = true
 | .alone s=>plain x s = true
 | .note t s=>t.told x∧plain x s = true
 | .inv t=>t.told x
 | .bin _ l r=>l.told x∧r.told x
end Go.Pv
/- What is printed is parsed to the same tree. Conditions: none; theorems. -/
namespace Go.Pv
variable {x sz:Int}
def Stop (rest:List Tok):Prop:=isT 2 rest = false∧isT 3 rest = false∧isT 6 rest = false
variable {inner:List Tok→Option Tok→Res (List StepA)}
end Go.Pv
/- What is printed is parsed to the same tree. Conditions: none; theorems. -/
namespace Go.Pv
variable {x sz:Int}
end Go.Pv
/- The eval laws: what is common. Conditions: the functions' codes; theorems. -/
namespace Go.Pv
variable {E:Env}
def wL (w:Wo):List Int:=[w.f.num,w.f.den,w.f.ten]++w.d++[w.tag]
def lW:Except Int Wo→List Int
 | .ok w=>wL w
 | .error _=>[0,0,0,0,0,0,0,0,0,0,0]
def eW:Except Int Wo→Int
 | .ok _=>0
 | .error e=>e
def iC (l:List Int):List AV:=l.map (.int .i64)
abbrev k11:List CellK:=[.int,.int,.int,.int,.int,.int,.int,.int,.int,.int,.int]
theorem wL_C (w:Wo):w.C = iC (wL w):=by simp [Wo.C,fcC,dC,iC,wL]
theorem rsW_l (r:Except Int Wo):rsW r = .tuple [.agg (iC (lW r)),.int .i64 (eW r)]:=by
 cases r with
 | ok w=>rw [rsW_ok,wL_C]; rfl
 | error e=>rfl
theorem gtW_l (r:Except Int Wo):gtW r = .agg (iC (lW r)++[.int .i64 (eW r)]):=by
 cases r with
 | ok w=>rw [gtW_ok,wL_C]; rfl
 | error e=>rfl
theorem lW_len {r:Except Int Wo} (h:∀ w,r = .ok w→WoOk w):(lW r).length = 11:=by
 cases r with
 | ok w=>simp [lW,wL,(h w rfl).len]
 | error e=>rfl
theorem iC_len (l:List Int):(iC l).length = l.length:=by simp [iC]
theorem iC_all (l:List Int):(iC l).all AV.isCell = true:=by simp [iC]
theorem iC_shut:∀ l,shutL 0 0 (iC l) = some (iC l)
 | []=>rfl
 | x :: l=>by
  have:=iC_shut l
  simp only [iC] at this ⊢
  simp [this]
theorem eqC:∀ (n:Nat) (a b:List Int),a.length = n→b.length = n→eqCells (List.replicate n .int) (iC a) (iC b) = some (decide (a = b))
 | 0,[],[],_,_=>rfl
 | n + 1,x :: a,y :: b,ha,hb=>by
  have:=eqC n a b (by simpa using ha) (by simpa using hb)
  simp only [iC] at this
  simp only [iC,List.map_cons,List.replicate_succ,eqCells,this,eqCellK,if_true]
  by_cases h:x = y
  ·subst h; simp
  ·simp [h]
theorem eq11 {a b:List Int} (ha:a.length = 11) (hb:b.length = 11):eqCells k11 (iC a) (iC b) = some (decide (a = b)):=eqC 11 a b ha hb
theorem eq11s {a:List Int} (ha:a.length = 11):eqCells k11 (iC a) (iC a) = some true:=by rw [eq11 ha ha]; simp
structure RsF (r:Except Int Wo) (cs:List AV) (e:Int):Prop where
 rs:rsW r = .tuple [.agg cs,.int .i64 e]
 gt:gtW r = .agg (cs++[.int .i64 e])
 len:cs.length = 11
 all:cs.all AV.isCell = true
 take:cs.take 11 = cs
 set:setCells 0 cs z11C = cs
 eq:eqCells k11 cs cs = some true
 shut:shutL 0 0 cs = some cs
theorem rs_f {r:Except Int Wo} (h:∀ w,r = .ok w→WoOk w):RsF r (iC (lW r)) (eW r):=by
 have hl:=lW_len h
 have hc:(iC (lW r)).length = 11:=by rw [iC_len,hl]
 exact ⟨rsW_l r,gtW_l r,hc,iC_all _,List.take_of_length_le (by omega),set_11 hc,eq11s hl,iC_shut _⟩
theorem rest279_eq (H:Has 279 E) {x m:Int} (hm:0 < m) (hm2:m < 1000000):EvClosed E (.fn (.func 279) [] []) [.int .i64 x,.int .i64 m] = some (.int .i64 (x % m)):=by
 rw [EvClosed_eq H.c279 rfl (vs:=[.int .i64 x,.int .i64 m]) (by simp),EvFn_eq]
 have h0:m ≠ 0:=by omega
 have hb:-m < x.tmod m∧x.tmod m < m:=⟨Int.lt_tmod_of_pos x hm,Int.tmod_lt_of_pos x hm⟩
 have hw:IntKind.i64.wrap (x.tmod m + m) = x.tmod m + m:=w64
 have he:(x.tmod m + m).tmod m = x % m:=by
  have h1:(x.tmod m + m).tmod m = (x.tmod m + m) % m:=Int.tmod_eq_emod_of_nonneg (by omega)
  rw [h1,Int.add_emod_right]
  have h3:x.tmod m = x - m * x.tdiv m:=by have:=Int.mul_tdiv_add_tmod x m; omega
  rw [h3,Int.sub_mul_emod_self_left]
 simp [f279,start,h0,hw,he]
def aw1:Tr:=.bin 4 (.sym 12 8 1) (.sym (-1) 29 1)
def aw2:Tr:=.bin 3 (.sym (-1) 21 1) (.sym (-1) 0 1)
theorem aw1p:parseP 1 [109,109,111,108,47,108] = ⟨aw1.steps,0,6,0⟩:=by decide +kernel
theorem aw2p:parseP 1 [67,101,108,46,109] = ⟨aw2.steps,0,5,0⟩:=by decide +kernel
def isOk (r:Except Int Wo) (v:Wo):Bool:=match r with | .ok w=>decide (w = v) | .error _=>false
theorem isOk_eq {r:Except Int Wo} {v:Wo} (h:isOk r v = true):r = .ok v:=by
 cases r with
 | ok w=>rw [of_decide_eq_true h]
 | error e=>cases h
def isErr (r:Except Int Wo) (e:Int):Bool:=match r with | .ok _=>false | .error e'=>decide (e' = e)
theorem isErr_eq {r:Except Int Wo} {e:Int} (h:isErr r e = true):r = .error e:=by
 cases r with
 | ok w=>cases h
 | error e'=>rw [of_decide_eq_true h]
theorem aw1e:evalR aw1.steps = .ok ⟨⟨602214076,1,15⟩,[-3,0,0,0,0,0,0],0⟩:=isOk_eq (by decide +kernel)
theorem aw2e:evalR aw2.steps = .error 18:=isErr_eq (by decide +kernel)
theorem numOk_few {t:List StepA} (h:t.all (fun s=>decide (s.num.natAbs ≤ 9223372036854775807) && decide (s.text.length < 1000000)) = true):NumOk t:=by
 intro s hs
 have:=List.all_eq_true.1 h s hs
 simpa using this
set_option maxRecDepth 20000 in
theorem awake278_eq (H:Has 278 E):EvClosed E (.fn (.func 278) [] []) [] = some (.bool true):=by
 rw [EvClosed_eq H.c278 rfl (vs:=[]) (by simp),EvFn_eq]
 have h1:=parse_eq (H.to 20) 1 [109,109,111,108,47,108] (by simp)
 have h2:=parse_eq (H.to 20) 1 [67,101,108,46,109] (by simp)
 rw [aw1p] at h1
 rw [aw2p] at h2
 simp only [Psd.cs] at h1 h2
 have e1:=eval283 (H.to 283) (stepsV_tree aw1.steps) (by decide) (numOk_few (by decide))
 have e2:=eval283 (H.to 283) (stepsV_tree aw2.steps) (by decide) (numOk_few (by decide))
 rw [aw1e,rsW_l] at e1
 rw [aw2e,rsW_l] at e2
 simp only [lW,wL,eW,iC,List.cons_append,List.nil_append,List.map_cons,List.map_nil,show ((1:Nat):Int) = 1 from rfl] at e1 e2
 have c1:=stepsV_cell aw1.steps
 have c2:=stepsV_cell aw2.steps
 generalize stepsV aw1.steps = v1 at *
 generalize stepsV aw2.steps = v2 at *
 simp [f278,start,EvCall_closed H.c20 rfl,EvCall_closed H.c283 rfl,h1,h2,e1,e2,push_setk]
end Go.Pv
/- Which steps may be, whatever their texts. Conditions: the functions' codes; theorems. -/
namespace Go.Pv
variable {E:Env} {h:AHeap}
set_option maxRecDepth 20000 in
theorem may182_loopL (s:List UInt8) (hs:s.length ≤ 9223372036854775807) {c0 c1 c2 c3 c4:AV} (hb:h.bl 0 = some (.cells [c0,c1,c2,c3,c4,.str s])):∀ (r pre:List UInt8),pre++r = s→∀ F,mask k182_0 F = s182_0 (.ref 0 0) (.int .i64 pre.length) →
  EvCode E (.loop k182_0 l182_0) F h = some (if printB r then (.exit 1,x182_1,h) else (.ret,r182 (.bool false),h))
 | [],pre,hp,F,hF=>by
  rw [List.append_nil] at hp
  subst hp
  rw [EvCode_loop,hF]
  simp [l182_0,s182_0,hb,x182_1,printB]
 | c :: r,pre,hp,F,hF=>by
  have ih:=may182_loopL s hs hb r (pre++[c]) (by rw [← hp]; simp)
  have hl:s.length = pre.length + (r.length + 1):=by rw [← hp]; simp
  have hlt:decide ((pre.length:Int) < (s.length:Int)) = true:=decide_eq_true (by omega)
  have hget:s[pre.length]? = some c:=by rw [← hp]; simp
  have w:IntKind.i64.wrap ((pre.length:Int) + 1) = (pre.length:Int) + 1:=w64
  have hlt2:pre.length < s.length:=by omega
  have hget2:s[pre.length] = c:=by simpa [hlt2] using hget
  have cn:(((pre++[c]).length:Nat):Int) = (pre.length:Int) + 1:=by simp
  rw [cn] at ih
  rw [EvCode_loop,hF]
  generalize EvCode E (.loop k182_0 l182_0) = lp at ih ⊢
  by_cases h1:(c.toNat:Int) < 32
  ·have e:printB (c :: r) = false:=by
    simp only [printB,List.all_cons]
    rw [show decide (32 ≤ c.toNat) = false from decide_eq_false (by omega)]
    rfl
   have d1:decide ((c.toNat:Int) < 32) = true:=decide_eq_true h1
   rw [e]
   simp [l182_0,s182_0,hb,hlt2,hget2,d1,r182]
  ·have d1:decide ((c.toNat:Int) < 32) = false:=decide_eq_false h1
   by_cases h2:126 < (c.toNat:Int)
   ·have e:printB (c :: r) = false:=by
     simp only [printB,List.all_cons]
     rw [show decide (c.toNat ≤ 126) = false from decide_eq_false (by omega),Bool.and_false]
     rfl
    have d2:decide (126 < (c.toNat:Int)) = true:=decide_eq_true h2
    rw [e]
    simp [l182_0,s182_0,hb,hlt2,hget2,d1,d2,r182]
   ·have e:printB (c :: r) = printB r:=by
     simp only [printB,List.all_cons]
     rw [show decide (32 ≤ c.toNat) = true from decide_eq_true (by omega),show decide (c.toNat ≤ 126) = true from decide_eq_true (by omega)]
     rfl
    have d2:decide (126 < (c.toNat:Int)) = false:=decide_eq_false h2
    rw [e]
    simp [l182_0,s182_0,hb,hlt2,hget2,d1,d2,w]
    have:=ih
    refine this _ ?_
    simp [s182_0]
set_option maxRecDepth 20000 in
set_option maxHeartbeats 8000000 in
theorem may182_textL (H:Has 182 E) (o m:Int) (t:List UInt8) (hs:t.length ≤ 9223372036854775807) (h2:¬ o = 2) (h1:¬ o = 1) (h67:o = 6∨o = 7):EvClosed E (.fn (.func 182) [] []) [.agg (StepA.cs ⟨o,-1,0,0,m,t⟩)] = some (.bool (mayB ⟨o,-1,0,0,m,t⟩)):=by
 rw [EvClosed_eq H.c182 rfl (vs:=[.agg (StepA.cs ⟨o,-1,0,0,m,t⟩)]) (by simp [StepA.cs]),EvFn_eq]
 have g2:(o == 2) = false:=by simpa using h2
 have n2:(o != 2) = true:=by simpa using h2
 have g1:(o == 1) = false:=by simpa using h1
 have n1:(o != 1) = true:=by simpa using h1
 have e:mayB ⟨o,-1,0,0,m,t⟩ = (printB t && m == 0):=by rcases h67 with rfl | rfl <;> simp [mayB]
 rw [e]
 cases hm:m == 0
 ·have hm':¬ m = 0:=by simpa using hm
  have nm:(m != 0) = true:=by simpa using hm'
  simp [f182,start,StepA.cs,n1,n2,nm]
 ·have hm':m = 0:=by simpa using hm
  subst hm'
  have lp:=may182_loopL (E:=E) (h:=heap0.push (.cells [.int .i64 o,.int .i64 (-1),.int .i64 0,.int .i64 0,.int .i64 0,.str t])) t hs (c0:=.int .i64 o) (c1:=.int .i64 (-1)) (c2:=.int .i64 0) (c3:=.int .i64 0) (c4:=.int .i64 0) (by simp) t [] rfl
  rcases h67 with rfl | rfl
  ·simp [f182,start,StepA.cs]
   rw [lp _ (by simp [s182_0])]
   cases hpr:printB t <;> simp [x182_1,r182]
  ·simp [f182,start,StepA.cs]
   rw [lp _ (by simp [s182_0])]
   cases hpr:printB t <;> simp [x182_1,r182]
theorem may182_genL (H:Has 182 E) (s:StepA) (hs:s.text.length ≤ 9223372036854775807):EvClosed E (.fn (.func 182) [] []) [.agg s.cs] = some (.bool (mayB s)):=by
 obtain ⟨o,p,a,n,m,t⟩:=s
 by_cases h2:o = 2
 ·subst h2
  exact may182_two H p a n m t
 by_cases hb:p = -1∧a = 0∧n = 0
 ·obtain ⟨rfl,rfl,rfl⟩:=hb
  by_cases h1:o = 1
  ·subst h1
   exact may182_one H m t
  by_cases h67:o = 6∨o = 7
  ·exact may182_textL H o m t hs h2 h1 h67
  by_cases h345:o = 3∨o = 4∨o = 5
  ·exact may182_ops H o m t h2 h1 h67 h345
  exact may182_none H o m t h2 h1 h67 h345
 exact may182_bad H o p a n m t h2 hb
end Go.Pv
