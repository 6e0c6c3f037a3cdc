/- A part of the proof: functions of the program in the evaluator's code, and what they come to. Conditions: none; definitions and theorems that the statement's proof uses. -/
import Derived.Test.YtamopjeecnhfaaaGreatDoorSetsPcTab
import Derived.KernelRfl
/- What the functions of a book of symbols come to: its atom, what is behind a prefix, find. Conditions: the functions' codes; theorems. -/
namespace Go.Pv
variable {E:Env}
structure Tb where
 L:List AtomR
 Q:List PrefR
 o1:Own
 o2:Own
 ot:Own
def Tb.A (B:Tb):AV:=.vs B.o1 B.L.length (B.L.flatMap (acs B.ot))
def Tb.P (B:Tb):AV:=.vs B.o2 B.Q.length (B.Q.flatMap PrefR.cells)
def Tb.V (B:Tb):AV:=.agg [B.A,B.P]
def Tb.bookV (B:Tb) (n:Nat):AV:=.agg [B.A,B.P,.int .i64 ((n:Int) + 1)]
structure Tb.Ok (B:Tb):Prop where
 len:B.L.length < 1000
 plen:B.Q.length < 1000
 o1:OwnOk B.o1
 o2:OwnOk B.o2
 ot:OwnOk B.ot
variable {B:Tb} {n:Nat}
theorem Tb.A_shut (ok:B.Ok):shut 0 0 B.A = some B.A:=shut_vs ok.o1 (shutL_flat (acs_shut ok.ot) _)
theorem Tb.P_shut (ok:B.Ok):shut 0 0 B.P = some B.P:=shut_vs ok.o2 (shutL_flat PrefR.shut _)
theorem Tb.A_cell:B.A.isCell = true:=rfl
theorem Tb.P_cell:B.P.isCell = true:=rfl
def atomIdx (n:Nat) (L:List AtomR) (s:List UInt8):Int:=if s.isEmpty then -1 else idxV (fun a=>a.code n == s) L
theorem bookAtom_eq (H:Has 39 E) (ok:B.Ok) (hn:n < 5) (s:List UInt8):EvClosed E (.fn (.func 39) [] []) [B.bookV n,.str s] = some (.int .i64 (atomIdx n B.L s)):=by
 rw [EvClosed_eq H.c39 rfl (vs:=[B.bookV n,.str s]) (by simp [Tb.bookV,Tb.A_shut ok,Tb.P_shut ok]),EvFn_eq]
 have hidx:=indexFunc_eq (E:=E) (H.to 59) (cells:=acs B.ot) (p:=fun a=>a.code n == s) (f:=.fn (.func 60) [] [.ref 0 0,.ref 1 0])
  (h:=(heap0.push (.cells [B.A,B.P,.int .i64 ((n:Int) + 1)])).push (.cells [.str s])) (L:=B.L)
  (acs_len B.ot) (by have:=ok.len; omega) (own:=B.o1) (fun a _=>atom1_eq (H.to 60) B.ot a hn (A:=B.A) (P:=B.P) (by simp) (by simp))
 rw [show (AV.vs B.o1 B.L.length (B.L.flatMap (acs B.ot))) = B.A from rfl] at hidx
 cases hs:s.isEmpty
 ·simp [f39,start,Tb.bookV,hs,atomIdx,hidx]
 ·simp [f39,start,Tb.bookV,hs,atomIdx]
theorem atomIdx_range (L:List AtomR) (s:List UInt8):atomIdx n L s = -1∨∃ i:Nat,i < L.length∧atomIdx n L s = i:=by
 unfold atomIdx
 split
 ·exact .inl rfl
 ·exact idxV_range _ _
def restOf (n:Nat) (L:List AtomR) (s:List UInt8) (p:PrefR):Int × Bool:=
 let c:=cutP s (p.code n)
 if !c.2 || c.1 == s then (-1,false)
 else (atomIdx n L c.1,atomIdx n L c.1 != -1 && ((L[(atomIdx n L c.1).toNat]?).map (·.metric)).getD false)
theorem PrefR.at_ (p:PrefR) (hn:n < 5):(p.cells.drop n).take 1 = [.str (p.code n)]:=by
 have hn5:n = 0∨n = 1∨n = 2∨n = 3∨n = 4:=by omega
 rcases hn5 with rfl | rfl | rfl | rfl | rfl <;> rfl
theorem rest_ways (L:List AtomR) (s c:List UInt8):(cutP s c).2 = false∨((cutP s c).2 = true∧((cutP s c).1 == s) = true)∨((cutP s c).2 = true∧((cutP s c).1 == s) = false∧atomIdx n L (cutP s c).1 = -1) ∨
  ∃ (i:Nat),(cutP s c).2 = true∧((cutP s c).1 == s) = false∧atomIdx n L (cutP s c).1 = i∧i < L.length:=by
 cases h3:(cutP s c).2
 ·exact .inl rfl
 ·cases h4:((cutP s c).1 == s)
  ·rcases atomIdx_range (n:=n) L (cutP s c).1 with hr | ⟨i,hi,hr⟩
   ·exact .inr (.inr (.inl ⟨rfl,rfl,hr⟩))
   ·exact .inr (.inr (.inr ⟨i,rfl,rfl,hr,hi⟩))
  ·exact .inr (.inl ⟨rfl,rfl⟩)
theorem rest_eq (H:Has 40 E) (ok:B.Ok) (hn:n < 5) (s:List UInt8) (p:PrefR) {h:AHeap} {rs rb:Nat}
  (hs:h.bl rs = some (.cells [.str s])) (hb:h.bl rb = some (.cells [B.A,B.P,.int .i64 ((n:Int) + 1)])):
  EvCall E (.fn (.func 40) [] [.ref rs 0,.ref rb 0]) [.agg p.cells] h = some (.ret (.tuple [.int .i64 (restOf n B.L s p).1,.bool (restOf n B.L s p).2]),h):=by
 rw [EvCall_reader H.c40 rfl,EvFn_eq]
 have hcut:=cutPrefix_eq (E:=E) (H.to 41) s (p.code n)
 have hatom:=bookAtom_eq (E:=E) (H.to 39) ok hn (cutP s (p.code n)).1
 simp only [Tb.bookV] at hatom
 have hw:IntKind.i64.wrap (n:Int) = n:=w64
 have hn5:(n:Int) < 5:=by omega
 have hn6:n + 1 ≤ 6:=by omega
 have hn7:n < 6:=by omega
 rcases rest_ways (n:=n) B.L s (p.code n) with h3 | ⟨h3,h4⟩ | ⟨h3,h4,h5⟩ | ⟨i,h3,h4,h5,hi⟩
 ·simp [f40,start,hs,hb,blk_ne hs,blk_ne hb,hw,hn5,hn6,PrefR.at_ p hn,PrefR.len,hcut,h3,restOf]
 ·simp [f40,start,hs,hb,blk_ne hs,blk_ne hb,hw,hn5,hn6,PrefR.at_ p hn,PrefR.len,hcut,h3,h4,restOf]
 ·rw [h5] at hatom
  simp [f40,start,hs,hb,blk_ne hs,blk_ne hb,hw,hn5,hn6,PrefR.at_ p hn,PrefR.len,hcut,EvCall_closed H.c39 rfl,h3,h4,restOf,hatom,h5]
 ·rw [h5] at hatom
  have hne:((i:Int) != -1) = true:=by simp
  have hmet:=fm_at (acs_len B.ot) hi (show 5 + 1 ≤ 12 by omega)
  rw [show ((acs B.ot B.L[i]).drop 5).take 1 = [.bool B.L[i].metric] from rfl] at hmet
  simp only [Tb.A] at hatom
  simp [f40,start,hs,hb,blk_ne hs,blk_ne hb,hw,hn5,hn6,PrefR.at_ p hn,PrefR.len,hcut,EvCall_closed H.c39 rfl,h3,h4,restOf,hatom,h5,hne,hi,Tb.A,fm_len (acs_len B.ot),lt_at hi,le_off hi,lt_off hi,hmet]
def firstP (n:Nat) (L:List AtomR) (s:List UInt8):List PrefR→Nat→Int × Int × Bool
 | [],_=>(-1,-1,false)
 | p :: ps,i=>if (restOf n L s p).2 then (i,(restOf n L s p).1,true) else firstP n L s ps (i + 1)
def findB (n:Nat) (L:List AtomR) (Q:List PrefR) (s:List UInt8):Int × Int × Bool:=
 if atomIdx n L s != -1 then (-1,atomIdx n L s,true) else firstP n L s Q 0
theorem find_loop (H:Has 26 E) (ok:B.Ok) (hn:n < 5) (s:List UInt8):∀ (m i:Nat),i + m = B.Q.length→∀ (h:AHeap) F,h.bl 0 = some (.cells [B.A,B.P,.int .i64 ((n:Int) + 1)])→h.bl 1 = some (.cells [.str s])→h.ro = 0 →
  mask k26_0 F = s26_0 (.int .i64 (-1)) (.int .i64 (-1)) (.bool false) (.fn (.func 40) [] [.ref 1 0,.ref 0 0]) B.P (.int .i64 B.Q.length) (.int .i64 i) →
   ∃ h',EvCode E (.loop k26_0 l26_0) F h = some (.exit 0,x26_0 (.int .i64 (firstP n B.L s (B.Q.drop i) i).1) (.int .i64 (firstP n B.L s (B.Q.drop i) i).2.1) (.bool (firstP n B.L s (B.Q.drop i) i).2.2),h')
 | 0,i,hi,h,F,h0,h1,hro,hF=>by
  have hi':i = B.Q.length:=by omega
  subst hi'
  refine ⟨h,?_⟩
  rw [EvCode_loop,hF]
  simp [l26_0,s26_0,x26_0,firstP]
 | m + 1,i,hi,h,F,h0,h1,hro,hF=>by
  have hlt:i < B.Q.length:=by omega
  have hpl:=ok.plen
  have hne0:=blk_ne h0
  have hne1:=blk_ne h1
  have hr:=rest_eq (E:=E) (H.to 40) ok hn s B.Q[i] (h:=h.push (.cells B.Q[i].cells)) (rs:=1) (rb:=0) (by simp [hne1,h1]) (by simp [hne0,h0])
  have ih:=find_loop H ok hn s m (i + 1) (by omega) (h.push (.cells B.Q[i].cells))
  rw [EvCode_loop,hF,List.drop_eq_getElem_cons hlt]
  generalize EvCode E (.loop k26_0 l26_0) = lp at ih ⊢
  cases hp:(restOf n B.L s B.Q[i]).2
  ·rw [hp] at hr
   simp [l26_0,s26_0,hlt,Tb.P,fm_len PrefR.len,lt_at hlt,le_at hlt,fm_el PrefR.len hlt,PrefR.len,PrefR.take,setCells_full,push_set,hro,hr,PrefR.all,w64 (n:=(i:Int) + 1),firstP,hp]
   refine ih _ ?_ ?_ ?_ ?_ <;> simp [hne0,h0,hne1,h1,hro,s26_0,Tb.P]
  ·rw [hp] at hr
   simp [l26_0,s26_0,hlt,Tb.P,fm_len PrefR.len,lt_at hlt,le_at hlt,fm_el PrefR.len hlt,PrefR.len,PrefR.take,setCells_full,push_set,hro,hr,PrefR.all,firstP,hp,x26_0]
theorem find_eq (H:Has 26 E) (ok:B.Ok) (hn:n < 5) (s:List UInt8):EvClosed E (.fn (.func 26) [] []) [B.bookV n,.str s] =
  some (.tuple [.int .i64 (findB n B.L B.Q s).1,.int .i64 (findB n B.L B.Q s).2.1,.bool (findB n B.L B.Q s).2.2]):=by
 rw [EvClosed_eq H.c26 rfl (vs:=[B.bookV n,.str s]) (by simp [Tb.bookV,Tb.A_shut ok,Tb.P_shut ok]),EvFn_eq]
 have hatom:=bookAtom_eq (E:=E) (H.to 39) ok hn s
 simp only [Tb.bookV,Tb.P] at hatom
 cases ha:(atomIdx n B.L s != -1)
 ·have ha2:atomIdx n B.L s = -1:=by simpa using ha
  rw [ha2] at hatom
  have hl:=find_loop H ok hn s B.Q.length 0 (by omega)
  simp [f26,start,Tb.bookV,Tb.P,EvCall_closed H.c39 rfl,hatom]
  generalize hg:EvCode E (SCode.loop k26_0 l26_0) _ _ = r
  obtain ⟨h',rfl⟩:=via hg (hl _ _ (by simp [Tb.P]) (by simp) (by simp) (by simp [s26_0,Tb.P]))
  simp [x26_0,findB,ha]
 ·simp [f26,start,Tb.bookV,Tb.P,EvCall_closed H.c39 rfl,hatom,ha,findB]
end Go.Pv
/- The program's table, and the reference's, run. Conditions: the functions' codes; theorems. -/
namespace Go.Pv
variable {E:Env}
def progB:Tb:=⟨atomsT,prefsT,.shared,.shared,.shared⟩
def refB:Tb:=⟨atomsT,prefsT,.shared,.full,.full⟩
theorem progB_ok:progB.Ok:=⟨by decide,by decide,.inr rfl,.inr rfl,.inr rfl⟩
theorem refB_ok:refB.Ok:=⟨by decide,by decide,.inr rfl,.inl rfl,.inl rfl⟩
theorem table_run (E:Env):evClosed (extE E [(38,f38),(56,f56),(57,f57),(58,f58)] [(0,g0)] []) 200 (.fn (.func 38) [] []) [] = some progB.V:=by kernel_rfl
theorem refTable_run (E:Env):evClosed (extE E [(51,f51),(71,f71),(72,f72),(73,f73),(85,f85)] [] []) 200 (.fn (.func 51) [] []) [] = some refB.V:=by kernel_rfl
theorem table_eq (H:Has 38 E):EvClosed E (.fn (.func 38) [] []) [] = some progB.V:=by
 have he:extE E [(38,f38),(56,f56),(57,f57),(58,f58)] [(0,g0)] [] = E:=
  ext_eq (by simp [H.c38,H.c56,H.c57,H.c58]) (by simp [H.v0,globAll]) (by simp)
 have:=table_run E
 rw [he] at this
 exact EvClosed_some.2 ⟨_,this⟩
theorem refTable_eq (H:Has 51 E):EvClosed E (.fn (.func 51) [] []) [] = some refB.V:=by
 have he:extE E [(51,f51),(71,f71),(72,f72),(73,f73),(85,f85)] [] [] = E:=
  ext_eq (by simp [H.c51,H.c71,H.c72,H.c73,H.c85]) (by simp) (by simp)
 have:=refTable_run E
 rw [he] at this
 exact EvClosed_some.2 ⟨_,this⟩
end Go.Pv
/- What the program says atoms are worth, one behind the other. Conditions: the functions' codes; theorems. -/
namespace Go.Pv
variable {E:Env}
theorem termsV_cons {o:Own} {ts:List (Int × Int)} (h:ts ≠ []):termsV o ts = .vs o ts.length (ts.flatMap termCs):=by
 unfold termsV
 cases ts with
 | nil=>exact absurd rfl h
 | cons a l=>rfl
theorem terms304 (H:Has 304 E) {ws:List Wo} (hws:∀ w ∈ ws,WoOk w) {V:AV} (hV:(V = .nils∧ws = [])∨∃ own,V = .vs own ws.length (ws.flatMap Wo.C)) {o:Own} {b8 b9:Nat} {t19 t20 t21:AV} {ts:List (Int × Int)} (hts:ts.length < 1000) (w w':Wo) (h:AHeap) (hw:WoOk w) (ht:termsW ws ts w = .ok w') (hro:h.ro = 0) (hb:h.bl b9 = some (.cells w.C)):
  ∃ h',(∀ F,mask k304_0 F = s304_0 V (.ref b8 0) (.ref b9 0) (.int .i64 0) t19 t20 t21 (termsV o ts) (.int .i64 ts.length) (.int .i64 0) →
   EvCode E (.loop k304_0 l304_0) F h = some (.exit 2,x304_2 V (.ref b8 0) (.ref b9 0) (.int .i64 0) t19 t20 t21,h'))∧h'.bl b9 = some (.cells w'.C)∧Keep1 b9 h h'∧WoOk w':=by
 by_cases hn:ts = []
 ·subst hn
  cases ht
  refine ⟨h,fun F hF=>?_,hb,Keep1.refl _ _,hw⟩
  rw [EvCode_loop,hF]
  simp [l304_0,s304_0,x304_2]
 ·rcases hV with ⟨rfl,rfl⟩ | ⟨own,rfl⟩
  ·exfalso
   cases ts with
   | nil=>exact hn rfl
   | cons p r=>
    obtain ⟨a,n⟩:=p
    simp [termsW] at ht
  ·rw [termsV_cons hn]
   exact inner304 H hws hts ts 0 w w' h rfl hw ht hro hb
theorem grow_vs {h:AHeap} {ws:List Wo} {n:Nat} {V:AV} (g:Grow h 11 (ws.flatMap Wo.C) n V) (hn:ws.length = n):(V = .nils∧ws = [])∨∃ own,V = .vs own ws.length (ws.flatMap Wo.C):=by
 rcases g with ⟨h1,_,h3⟩ | ⟨k,h1,_⟩
 ·exact .inl ⟨h1,List.eq_nil_of_length_eq_zero (by omega)⟩
 ·exact .inr ⟨_,by rw [hn]; exact h1⟩
abbrev z11C:List AV:=[.int .i64 0,.int .i64 0,.int .i64 0,.int .i64 0,.int .i64 0,.int .i64 0,.int .i64 0,.int .i64 0,.int .i64 0,.int .i64 0,.int .i64 0]
theorem base_C {k:Int} (h0:0 ≤ k) (h7:k < 7):g8.set (3 + k.toNat) (.int .i64 1) = (baseW k.toNat).C:=by
 have:k = 0∨k = 1∨k = 2∨k = 3∨k = 4∨k = 5∨k = 6:=by omega
 rcases this with h | h | h | h | h | h | h <;> subst h <;> rfl
theorem take_snoc {α:Type} {l:List α} {i:Nat} (h:i < l.length):l.take (i + 1) = l.take i++[l[i]]:=by
 rw [List.take_add_one,List.getElem?_eq_getElem h]; rfl
theorem worthT_wo {i:Nat}:∀ w ∈ worthT.take i,WoOk w:=by
 intro w hw
 obtain ⟨j,hj,hjw⟩:=List.mem_iff_getElem.1 (List.mem_of_mem_take hw)
 have hj2:j < atomsT.length:=by rw [atomsT_len]; rw [worthT_len] at hj; exact hj
 obtain ⟨_,h2,_⟩:=row_at hj2
 rw [List.getD_eq_getElem?_getD,List.getElem?_eq_getElem hj] at h2
 rw [← hjw]; exact h2
theorem worthT_at {i:Nat} (h:i < atomsT.length):∃ hw:i < worthT.length,worthT.getD i oneW = worthT[i]:=by
 refine ⟨by rw [worthT_len]; rw [atomsT_len] at h; exact h,?_⟩
 rw [List.getD_eq_getElem?_getD,List.getElem?_eq_getElem (by rw [worthT_len]; rw [atomsT_len] at h; exact h)]; rfl
structure OutH (n:Nat) (V:AV) (h:AHeap):Prop where
 g:Grow h 11 ((worthT.take n).flatMap Wo.C) n V
 ro:h.ro = 0
 rot:h.rot = 0
theorem OutH.push {n:Nat} {V:AV} {h:AHeap} (o:OutH n V h) (b:ABlk):OutH n V (h.push b):=⟨o.g.of_heap rfl rfl,o.ro,o.rot⟩
theorem OutH.keep {n b:Nat} {V:AV} {h h':AHeap} (o:OutH n V h) (k:Keep1 b h h'):OutH n V h':=⟨o.g.of_heap k.toks k.rot,by rw [k.ro]; exact o.ro,by rw [k.rot]; exact o.rot⟩
theorem OutH.set {n b:Nat} {V:AV} {h:AHeap} {y:ABlk} (o:OutH n V h):OutH n V (h.setBlk b y):=⟨o.g.of_heap rfl rfl,o.ro,o.rot⟩
theorem OutH.app {n:Nat} {V:AV} {h:AHeap} (o:OutH n V h) {w:Wo} (hw:WoOk w) (hn:n < worthT.length) (he:worthT[n] = w):∃ ts V',appendA 11 88 h (den V) (.vs .full 1 w.C) = some (V',h.toks_ ts)∧OutH (n + 1) V' (h.toks_ ts):=by
 have hl:n < 48:=hn
 obtain ⟨ts,V',a1,a2,a3⟩:=grow_app (bytes:=88) (m:=1) (xs:=w.C) o.g (by rw [o.rot]; omega) (by omega) (by omega) (by omega) (by rw [Wo.C_len hw.len]) (Wo.C_all w)
 refine ⟨ts,V',a1,⟨?_,o.ro,o.rot⟩⟩
 rw [take_snoc hn,he,List.flatMap_append]
 simpa using a2
theorem OutH.cell {n:Nat} {V:AV} {h:AHeap} (o:OutH n V h):V.isCell = true:=o.g.cell
end Go.Pv
/- What the program says atoms are worth: a row. Conditions: the functions' codes; theorems. -/
namespace Go.Pv
variable {E:Env}
theorem set_11 {l:List AV} (h:l.length = 11):setCells 0 l z11C = l:=setCells_full (by rw [h]; rfl)
theorem rowW_base {ws:List Wo} {a:AtomR} {w:Wo} (h:rowW ws a = .ok w) (hb:0 ≤ a.base):a.base < 7∧w = baseW a.base.toNat:=by
 unfold rowW at h
 rw [if_pos hb] at h
 split at h
 ·rename_i h7; cases h; exact ⟨h7,rfl⟩
 ·cases h
theorem rowW_not {ws:List Wo} {a:AtomR} {w:Wo} (h:rowW ws a = .ok w) (hb:¬ 0 ≤ a.base):a.num.natAbs ≤ 9223372036854775807∧a.den.natAbs ≤ 9223372036854775807∧∃ f w0,makeF a.num a.den a.ten = .ok f∧FcOk f∧termsW ws a.terms ⟨f,d0,0⟩ = .ok w0∧w = ⟨w0.f,w0.d,a.tag⟩:=by
 unfold rowW at h
 rw [if_neg hb] at h
 split at h
 ·cases h
 ·rename_i f hf
  split at hf
  ·rename_i hc
   split at h
   ·cases h
   ·rename_i w0 hw0
    cases h
    exact ⟨hc.1,hc.2,f,w0,hf,makeF_ok hc.1 hc.2 hf,hw0,rfl⟩
  ·cases hf
set_option maxRecDepth 20000 in
set_option maxHeartbeats 2000000 in
theorem base304 (H:Has 304 E) {n i:Nat} {a:AtomR} (hn:n ≤ atomsT.length) (hi:i < n) (hai:atomsT[i]? = some a) (hb:0 ≤ a.base) {V:AV} {h:AHeap} (o:OutH i V h):
  ∃ h' V',OutH (i + 1) V' h'∧(∀ F,mask k304_1 F = s304_1 V (.vs .shared n ((atomsT.take n).flatMap (acs .shared))) (.int .i64 n) (.int .i64 i) →
   ∀ X,(∀ F',mask k304_1 F' = s304_1 V' (.vs .shared n ((atomsT.take n).flatMap (acs .shared))) (.int .i64 n) (.int .i64 (i + 1:Nat))→EvCode E (.loop k304_1 l304_1) F' h' = X)→EvCode E (.loop k304_1 l304_1) F h = X):=by
 have ha:i < atomsT.length:=by omega
 obtain ⟨r1,r2,r3⟩:=row_at ha
 rw [(List.getElem?_eq_some_iff.1 hai).2] at r1
 obtain ⟨h7,hw⟩:=rowW_base r1 hb
 obtain ⟨hwl,hwe⟩:=worthT_at ha
 rw [hw] at r2
 rw [hwe] at hw
 have hbc:=base_C hb h7
 have hlen:(atomsT.take n).length = n:=by rw [List.length_take]; omega
 have hil:i < (atomsT.take n).length:=by omega
 have hat:(atomsT.take n)[i] = a:=by
  rw [List.getElem_take]
  exact (List.getElem?_eq_some_iff.1 hai).2
 have h48:atomsT.length = 48:=rfl
 have hel:(((atomsT.take n).flatMap (acs .shared)).drop (i * 12)).take 12 = acs .shared a:=by rw [fm_el (acs_len .shared) hil,hat]
 have hfl:((atomsT.take n).flatMap (acs .shared)).length = n * 12:=by rw [fm_len (acs_len .shared),hlen]
 have hac:=acs_all .shared a
 have o2:OutH i V ((h.push (.cells (acs .shared a))).push (.cells (baseW a.base.toNat).C)):=(o.push _).push _
 obtain ⟨ts,V',a1,a2⟩:=o2.app r2 hwl hw
 refine ⟨_,V',a2,fun F hF X hX=>?_⟩
 have hv:=H.v8
 simp only [globAll] at hv
 have hg8:g8.length = 11:=rfl
 have hg8a:g8.all AV.isCell = true:=rfl
 have hg8t:g8.take 11 = g8:=rfl
 have hg8s:setCells 0 g8 z11C = g8:=rfl
 have hro:=o.ro
 have e1:(i:Int) < n:=by omega
 have e2:IntKind.i64.wrap ((i:Int) + 1) = ((i + 1:Nat):Int):=w64
 have e3:i * 12 < n * 12:=by omega
 have e4:12 ≤ n * 12 - i * 12:=by omega
 have lb:=Wo.C_len r2.len
 have sb:setCells 0 (baseW a.base.toNat).C z11C = (baseW a.base.toNat).C:=set_11 lb
 have tb:(baseW a.base.toNat).C.take 11 = (baseW a.base.toNat).C:=List.take_of_length_le (by omega)
 rw [EvCode_loop,hF]
 generalize EvCode E (.loop k304_1 l304_1) = lp at hX ⊢
 clear a2 o2 o hwe r1 r3 hw r2 hat
 generalize (atomsT.take n).flatMap (acs .shared) = A at *
 generalize hB:(baseW a.base.toNat).C = B at *
 have hk:3 + a.base.toNat ≤ 10:=by omega
 simp only [acs] at hel a1
 simp [-den,l304_1,s304_1,e1,e2,e3,e4,hel,hfl,hv,hg8,hg8a,hg8t,hg8s,hb,h7,hro,hbc,lb,sb,tb,hk,a1,push_setk,termsV_cell]
 exact hX _ (by simp [s304_1])
theorem tag_C {w:Wo} (h:w.d.length = 7) (g:Int):w.C.set 10 (.int .i64 g) = (⟨w.f,w.d,g⟩:Wo).C:=by
 obtain ⟨a0,a1,a2,a3,a4,a5,a6,hd⟩:=seven h
 simp [Wo.C,fcC,dC,hd]
set_option maxRecDepth 20000 in
set_option maxHeartbeats 2000000 in
theorem row304 (H:Has 304 E) {n i:Nat} {a:AtomR} (hn:n ≤ atomsT.length) (hi:i < n) (hai:atomsT[i]? = some a) (hb:¬ 0 ≤ a.base) {V:AV} {h:AHeap} (o:OutH i V h):
  ∃ h' V',OutH (i + 1) V' h'∧(∀ F,mask k304_1 F = s304_1 V (.vs .shared n ((atomsT.take n).flatMap (acs .shared))) (.int .i64 n) (.int .i64 i) →
   ∀ X,(∀ F',mask k304_1 F' = s304_1 V' (.vs .shared n ((atomsT.take n).flatMap (acs .shared))) (.int .i64 n) (.int .i64 (i + 1:Nat))→EvCode E (.loop k304_1 l304_1) F' h' = X)→EvCode E (.loop k304_1 l304_1) F h = X):=by
 have h48:atomsT.length = 48:=rfl
 have ha:i < atomsT.length:=by omega
 obtain ⟨r1,r2,r3⟩:=row_at ha
 rw [(List.getElem?_eq_some_iff.1 hai).2] at r1
 obtain ⟨c1,c2,f,w0,hf,hfo,ht,hw⟩:=rowW_not r1 hb
 obtain ⟨hwl,hwe⟩:=worthT_at ha
 rw [hw] at r2
 rw [hwe] at hw
 have hlen:(atomsT.take n).length = n:=by rw [List.length_take]; omega
 have hil:i < (atomsT.take n).length:=by omega
 have hat:(atomsT.take n)[i] = a:=by
  rw [List.getElem_take]
  exact (List.getElem?_eq_some_iff.1 hai).2
 have hel:(((atomsT.take n).flatMap (acs .shared)).drop (i * 12)).take 12 = acs .shared a:=by rw [fm_el (acs_len .shared) hil,hat]
 have hfl:((atomsT.take n).flatMap (acs .shared)).length = n * 12:=by rw [fm_len (acs_len .shared),hlen]
 have hac:=acs_all .shared a
 have o3:OutH i V (((h.push (.cells (acs .shared a))).push (.cells (⟨f,d0,0⟩:Wo).C)).push (.cells (fcC f))):=((o.push _).push _).push _
 have hwl2:(worthT.take i).length = i:=by rw [List.length_take]; omega
 have w0ok:WoOk ⟨f,d0,0⟩:=⟨hfo,rfl,rfl,Int.le_refl 0,by show (0:Int) ≤ 99; decide⟩
 have hmk:EvClosed E (.fn (.func 308) [] []) [.int .i64 a.num,.int .i64 a.den,.int .i64 a.ten] = some (rsF (.ok f)):=by rw [← hf]; exact make308 (H.to 308) c1 c2
 simp only [rsF,fcA,fcC] at hmk
 have hro:=o.ro
 have htl:a.terms.length < 1000:=by
  have:∀ a ∈ atomsT,a.terms.length < 1000:=by decide
  exact this _ (List.mem_of_getElem? hai)
 obtain ⟨h1,g1,g2,g3,g4⟩:=terms304 H (worthT_wo (i:=i)) (grow_vs o3.g hwl2) (o:=.shared) (b8:=h.blks.length) (b9:=h.blks.length + 1) (t19:=.vs .shared n ((atomsT.take n).flatMap (acs .shared))) (t20:=.int .i64 n) (t21:=.int .i64 i) htl ⟨f,d0,0⟩ w0 (((h.push (.cells (acs .shared a))).push (.cells (⟨f,d0,0⟩:Wo).C)).push (.cells (fcC f))) w0ok ht (by simp [hro]) (by simp)
 have g5:h1.bl h.blks.length = some (.cells (acs .shared a)):=by
  rw [g3.old _ (by rw [blks_push_length,blks_push_length,blks_push_length]; omega) (by omega)]
  have n1:¬ h.blks.length = h.blks.length + 1:=by omega
  have n2:¬ h.blks.length = h.blks.length + 1 + 1:=by omega
  simp [n2]
 have o4:OutH i V (h1.setBlk (h.blks.length + 1) (.cells (⟨w0.f,w0.d,a.tag⟩:Wo).C)):=(o3.keep g3).set
 obtain ⟨ts,V',a1,a2⟩:=o4.app r2 hwl hw
 refine ⟨_,V',a2,fun F hF X hX=>?_⟩
 have hv:=H.v8
 simp only [globAll] at hv
 have hg8:g8.length = 11:=rfl
 have hg8a:g8.all AV.isCell = true:=rfl
 have hg8t:g8.take 11 = g8:=rfl
 have hg8s:setCells 0 g8 z11C = g8:=rfl
 have hg8f:((g8.set 0 (.int .i64 f.num)).set 1 (.int .i64 f.den)).set 2 (.int .i64 f.ten) = (⟨f,d0,0⟩:Wo).C:=by simp [fcC,g8,Wo.C,dC,d0]
 simp only [fcC] at g1 g3
 have hro1:h1.ro = 0:=by rw [g3.ro]; simp [hro]
 have e1:(i:Int) < n:=by omega
 have e2:IntKind.i64.wrap ((i:Int) + 1) = ((i + 1:Nat):Int):=w64
 have e3:i * 12 < n * 12:=by omega
 have e4:12 ≤ n * 12 - i * 12:=by omega
 have lt9:=blk_lt g2
 have n9:¬ h1.blks = []:=by intro h'; rw [h'] at lt9; simp at lt9
 have lw:=Wo.C_len g4.len
 have ltg:=tag_C g4.len a.tag
 have lb:=Wo.C_len r2.len
 have sb:setCells 0 (⟨w0.f,w0.d,a.tag⟩:Wo).C z11C = (⟨w0.f,w0.d,a.tag⟩:Wo).C:=set_11 lb
 have tb:(⟨w0.f,w0.d,a.tag⟩:Wo).C.take 11 = (⟨w0.f,w0.d,a.tag⟩:Wo).C:=List.take_of_length_le (by omega)
 rw [EvCode_loop,hF]
 generalize EvCode E (.loop k304_1 l304_1) = lp at hX ⊢
 clear a2 o4 o3 o hwe r1 r3 hw r2 hat g3 ht w0ok hf c1 c2 htl
 generalize (⟨w0.f,w0.d,a.tag⟩:Wo).C = B at *
 generalize w0.C = W0 at *
 generalize (⟨f,d0,0⟩:Wo).C = FC at *
 generalize (atomsT.take n).flatMap (acs .shared) = A at *
 have hb':a.base < 0:=by omega
 have m1:¬ h.blks.length = h.blks.length + 1 + 1:=by omega
 have m2:¬ h.blks.length + 1 = h.blks.length + 1 + 1:=by omega
 have m3:¬ h.blks.length = h.blks.length + 1:=by omega
 simp only [acs] at hel a1 g5 g1
 have hTV:(termsV .shared a.terms = .nils∧a.terms.length = 0)∨∃ own cells,termsV .shared a.terms = .vs own a.terms.length cells:=by
  by_cases h0:a.terms = []
  ·rw [h0]; exact .inl ⟨rfl,rfl⟩
  ·exact .inr ⟨_,_,termsV_cons h0⟩
 generalize a.terms.length = tl at *
 generalize termsV .shared a.terms = TV at *
 rcases hTV with ⟨rfl,rfl⟩ | ⟨own,cells,rfl⟩
 ·simp only [Int.natCast_zero] at g1
  simp [-den,l304_1,s304_1,e1,e3,e4,hel,hfl,hv,hg8,hg8a,hg8t,hg8s,hb,m1,hro,hmk,hg8f,EvCall_closed H.c308 rfl,push_setk,push_setl]
  rw [g1 _ (by simp [s304_0])]
  simp [-den,x304_2,g2,g5,hro1,lw,ltg,lb,sb,tb,a1,e2]
  exact hX _ (by simp [s304_1])
 ·simp [-den,l304_1,s304_1,e1,e3,e4,hel,hfl,hv,hg8,hg8a,hg8t,hg8s,hb,m1,hro,hmk,hg8f,EvCall_closed H.c308 rfl,push_setk,push_setl]
  rw [g1 _ (by simp [s304_0])]
  simp [-den,x304_2,g2,g5,hro1,lw,ltg,lb,sb,tb,a1,e2]
  exact hX _ (by simp [s304_1])
end Go.Pv
