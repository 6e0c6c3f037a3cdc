/- A part of the proof: functions of the program in the evaluator's code, and what they come to. Conditions: none; definitions and theorems that the statement's proof uses. -/
import Derived.Test.YteiaohbhlapklaaGreatDoorSettPcTab
import Derived.Test.YteiaohbhlapklaaGreatDoorSettPcNum1
/- What the reference's find comes to. Conditions: the functions' codes; theorems. -/
namespace Go.Pv
variable {E:Env} {B:Tb} {n:Nat}
theorem rest_begins {L:List AtomR} {s:List UInt8} {p:PrefR} (hb:beginsB s (p.code n) = true):restOf n L s p = (atomIdx n L (s.drop (p.code n).length),atomIdx n L (s.drop (p.code n).length) != -1 && ((L[(atomIdx n L (s.drop (p.code n).length)).toNat]?).map (·.metric)).getD false):=by
 simp only [beginsB,Bool.and_eq_true,Bool.not_eq_true',decide_eq_true_eq] at hb
 obtain ⟨h1,h2,h3⟩:=hb
 have hP:hasP s (p.code n) = true:=by
  simp only [hasP,Bool.and_eq_true,decide_eq_true_eq]
  exact ⟨by omega,h3⟩
 have hne:(s.drop (p.code n).length == s) = false:=by
  have hl:(s.drop (p.code n).length).length ≠ s.length:=by
   have:0 < (p.code n).length:=by
    cases hc:p.code n with
    | nil=>rw [hc] at h1; simp at h1
    | cons x l=>simp
   simp
   omega
  have:s.drop (p.code n).length ≠ s:=fun h=>hl (by rw [h])
  simpa using this
 simp only [restOf,cutP,hP,if_true,hne,Bool.not_true,Bool.or_self,Bool.false_eq_true,if_false]
theorem rest_not {L:List AtomR} {s:List UInt8} {p:PrefR} (hb:beginsB s (p.code n) = false):(restOf n L s p).2 = false:=by
 unfold restOf
 cases hP:hasP s (p.code n)
 ·simp [cutP,hP]
 ·simp only [cutP,hP,if_true,Bool.not_true,Bool.false_or]
  split
  ·rfl
  ·rename_i hne
   have hle:=hasP_le hP
   have hemp:s.drop (p.code n).length = []:=by
    simp only [hasP,Bool.and_eq_true,decide_eq_true_eq] at hP
    simp only [beginsB,hP.2,Bool.and_true,Bool.and_eq_false_iff,Bool.not_eq_false',decide_eq_false_iff_not] at hb
    rcases hb with h | h
    ·have:p.code n = []:=by simpa using h
     rw [this] at hne
     simp at hne
    ·exact List.drop_eq_nil_of_le (by omega)
   simp [hemp,atomIdx]
theorem begins_le {s p:List UInt8} (hb:beginsB s p = true):p.length ≤ s.length:=by
 simp only [beginsB,Bool.and_eq_true,decide_eq_true_eq] at hb
 omega
theorem refFind_loop (H:Has 74 E) (ok:B.Ok) (hn:n < 5) (s:List UInt8) {h:AHeap} {x y z:AV} (hb:h.bl 0 = some (.cells [B.A,B.P])) (h1:h.bl 1 = some (.cells [x,y,z])) (hro:h.ro = 0):
  ∀ (m i:Nat),i + m = B.Q.length→∀ F,mask k74_0 F = s74_0 (.int .i64 ((n:Int) + 1)) (.str s) (.ref 0 0) (.ref 1 0) (.int .i64 i) →
  EvCode E (.loop k74_0 l74_0) F h = some (if (firstP n B.L s (B.Q.drop i) i).2.2 then (.ret,r74 (.ref 1 0),h.setBlk 1 (.cells [.int .i64 (firstP n B.L s (B.Q.drop i) i).1,.int .i64 (firstP n B.L s (B.Q.drop i) i).2.1,.bool true])) else (.exit 0,x74_0 (.ref 1 0),h))
 | 0,i,hi,F,hF=>by
  have hi':i = B.Q.length:=by omega
  subst hi'
  rw [EvCode_loop,hF]
  simp only [Tb.A,Tb.P] at hb
  simp [l74_0,s74_0,x74_0,firstP,hb]
 | m + 1,i,hi,F,hF=>by
  have hlt:i < B.Q.length:=by omega
  have hpl:=ok.plen
  have ih:=refFind_loop H ok hn s hb h1 hro m (i + 1) (by omega)
  have hbg:=begins_eq (H.to 87) s (B.Q[i].code n)
  have hat:=refAtom_eq (H.to 86) ok hn (s.drop (B.Q[i].code n).length)
  rw [EvCode_loop,hF,List.drop_eq_getElem_cons hlt]
  generalize EvCode E (.loop k74_0 l74_0) = lp at ih ⊢
  simp only [Tb.V,Tb.A,Tb.P] at hb hat
  have hw:IntKind.i64.wrap (n:Int) = n:=w64
  have hn5:(n:Int) < 5:=by omega
  simp only [firstP]
  cases hbs:beginsB s (B.Q[i].code n)
  ·have hr:=rest_not (L:=B.L) hbs
   simp [l74_0,s74_0,hlt,hb,fm_len PrefR.len,lt_at hlt,le_off hlt,lt_off hlt,hw,hn5,(by omega:n < 6),(by omega:n + 1 ≤ 6),pref_at hn hlt,EvCall_closed H.c87 rfl,hbg,hbs,hr,w64 (n:=(i:Int) + 1)]
   rw [ih _ (by simp [s74_0])]
  ·have hle:=begins_le hbs
   have hr:=rest_begins (L:=B.L) hbs
   rcases atomIdx_range (n:=n) B.L (s.drop (B.Q[i].code n).length) with ha | ⟨a,hal,ha⟩
   ·rw [ha] at hat
    simp [l74_0,s74_0,hlt,hb,fm_len PrefR.len,lt_at hlt,le_off hlt,lt_off hlt,hw,hn5,(by omega:n < 6),(by omega:n + 1 ≤ 6),pref_at hn hlt,EvCall_closed H.c87 rfl,hbg,hbs,hle,hat,hr,ha,w64 (n:=(i:Int) + 1)]
    rw [ih _ (by simp [s74_0])]
   ·rw [ha] at hat
    have hne:((a:Int) != -1) = true:=by simp
    cases hm:B.L[a].metric
    ·simp [l74_0,s74_0,hlt,hb,fm_len PrefR.len,fm_len (acs_len B.ot),lt_at hlt,le_off hlt,lt_off hlt,hw,hn5,(by omega:n < 6),(by omega:n + 1 ≤ 6),pref_at hn hlt,EvCall_closed H.c87 rfl,hbg,hbs,hle,hat,hr,ha,hal,lt_at hal,le_off hal,lt_off hal,metric_at B.ot hal,hm,w64 (n:=(i:Int) + 1)]
     rw [ih _ (by simp [s74_0])]
    ·simp [l74_0,s74_0,hlt,hb,h1,hro,fm_len PrefR.len,fm_len (acs_len B.ot),lt_at hlt,le_off hlt,lt_off hlt,hw,hn5,(by omega:n < 6),(by omega:n + 1 ≤ 6),pref_at hn hlt,EvCall_closed H.c87 rfl,hbg,hbs,hle,hat,hr,ha,hal,lt_at hal,le_off hal,lt_off hal,metric_at B.ot hal,hm,hne,r74]
theorem refFind_eq (H:Has 74 E) (ok:B.Ok) (hn:n < 5) (s:List UInt8):EvClosed E (.fn (.func 74) [] []) [B.V,.int .i64 ((n:Int) + 1),.str s] =
  some (.agg [.int .i64 (findB n B.L B.Q s).1,.int .i64 (findB n B.L B.Q s).2.1,.bool (findB n B.L B.Q s).2.2]):=by
 rw [EvClosed_eq H.c74 rfl (vs:=[B.V,.int .i64 ((n:Int) + 1),.str s]) (by simp [Tb.V,Tb.A_shut ok,Tb.P_shut ok]),EvFn_eq]
 have hat:=refAtom_eq (H.to 86) ok hn s
 simp only [Tb.V] at hat
 rcases atomIdx_range (n:=n) B.L s with ha | ⟨a,hal,ha⟩
 ·rw [ha] at hat
  have hl:=fun h x y z hb h1 hro=>refFind_loop (E:=E) H ok hn s (h:=h) (x:=x) (y:=y) (z:=z) hb h1 hro B.Q.length 0 (by omega)
  have hne:(atomIdx n B.L s != -1) = false:=by rw [ha]; rfl
  simp [f74,start,Tb.V,EvCall_closed H.c86 rfl,hat]
  rw [hl _ (.int .i64 0) (.int .i64 0) (.bool false) (by simp) (by simp) (by simp) _ (by simp [s74_0])]
  simp only [findB,hne,Bool.false_eq_true,if_false,List.drop_zero]
  cases hf:(firstP n B.L s B.Q 0).2.2
  ·have:firstP n B.L s B.Q 0 = (-1,-1,false):=by
    have key:∀ (Q:List PrefR) (i:Nat),(firstP n B.L s Q i).2.2 = false→firstP n B.L s Q i = (-1,-1,false):=by
     intro Q
     induction Q with
     | nil=>intro i _; rfl
     | cons p Q ih=>
      intro i h
      simp only [firstP] at h ⊢
      split at h
      ·simp at h
      ·rename_i hp; rw [if_neg hp]; exact ih _ h
    exact key _ _ hf
   simp [this,x74_0]
  ·simp [r74]
 ·rw [ha] at hat
  have hne:(atomIdx n B.L s != -1) = true:=by rw [ha]; simp
  simp [f74,start,Tb.V,EvCall_closed H.c86 rfl,hat,findB,ha]
theorem refFind217_eq (H:Has 217 E) (ok:B.Ok) (h51:EvClosed E (.fn (.func 51) [] []) [] = some B.V) (x:Int) (s:List UInt8):
  EvClosed E (.fn (.func 217) [] []) [.int .i64 x,.str s] = some (.agg [.int .i64 (if 1 ≤ x∧x ≤ 5 then (findB (x - 1).toNat B.L B.Q s).1 else -1),.int .i64 (if 1 ≤ x∧x ≤ 5 then (findB (x - 1).toNat B.L B.Q s).2.1 else -1),.bool (decide (1 ≤ x∧x ≤ 5) && (findB (x - 1).toNat B.L B.Q s).2.2)]):=by
 rw [EvClosed_eq H.c217 rfl (vs:=[.int .i64 x,.str s]) (by simp),EvFn_eq]
 by_cases hx:1 ≤ x∧x ≤ 5
 ·obtain ⟨n,hn,rfl⟩:∃ n:Nat,n < 5∧x = (n:Int) + 1:=⟨(x - 1).toNat,by omega,by omega⟩
  have hf:=refFind_eq (E:=E) (H.to 74) ok hn s
  have h2:¬ ((n:Int) + 1 < 1):=by omega
  have h3:¬ (5 < (n:Int) + 1):=by omega
  have h5:(n:Int) + 1 - 1 = n:=by omega
  simp [f217,start,EvCall_closed H.c51 rfl,EvCall_closed H.c74 rfl,h51,hf,hx,h2,h3,h5]
 ·by_cases h1:x < 1
  ·simp [f217,start,h1,hx]
  ·have h2:5 < x:=by omega
   simp [f217,start,h1,h2,hx]
end Go.Pv
/- What the text of a symbol comes to, and whether it is told. Conditions: the functions' codes; theorems. -/
namespace Go.Pv
variable {E:Env} {B:Tb} {n:Nat}
def textA (n:Nat) (L:List AtomR) (i:Nat):List UInt8:=((L[i]?).map (·.code n)).getD []
def textP (n:Nat) (L:List AtomR) (Q:List PrefR) (j i:Nat):List UInt8:=
 match L[i]?,Q[j]? with
 | some a,some p=>if (a.code n).isEmpty then [] else if (p.code n).isEmpty || !a.metric then [] else p.code n++a.code n
 | _,_=>[]
structure Tb.Short (B:Tb):Prop where
 a:∀ a ∈ B.L,∀ n,(a.code n).length ≤ 1000
 p:∀ a ∈ B.Q,∀ n,(a.code n).length ≤ 1000
theorem textA_eq (H:Has 55 E) (ok:B.Ok) (hn:n < 5) {i:Nat} (hi:i < B.L.length):EvClosed E (.fn (.func 55) [] []) [B.bookV n,.int .i64 (-1),.int .i64 i] = some (.str (textA n B.L i)):=by
 rw [EvClosed_eq H.c55 rfl (vs:=[B.bookV n,.int .i64 (-1),.int .i64 i]) (by simp [Tb.bookV,Tb.A_shut ok,Tb.P_shut ok]),EvFn_eq]
 have hw:IntKind.i64.wrap (n:Int) = n:=w64
 have hn5:(n:Int) < 5:=by omega
 have hi1:¬ ((i:Int) < 0):=by omega
 have hi2:¬ ((B.L.length:Int) ≤ i):=by omega
 have hi3:¬ (B.L.length ≤ i):=by omega
 have hq:¬ ((B.Q.length:Int) ≤ -1):=by omega
 simp [f55,start,Tb.bookV,Tb.A,Tb.P,hi,hi1,hi2,hq,fm_len (acs_len B.ot),lt_at hi,le_at hi,fm_el (acs_len B.ot) hi,acs_len,acs_all,hw,hn5,(by omega:n + 1 ≤ 12),acs_at B.ot _ hn,setCells_full,textA]
set_option maxHeartbeats 2000000 in
theorem textP_eq (H:Has 55 E) (ok:B.Ok) (sh:B.Short) (hn:n < 5) {i j:Nat} (hi:i < B.L.length) (hj:j < B.Q.length):EvClosed E (.fn (.func 55) [] []) [B.bookV n,.int .i64 j,.int .i64 i] = some (.str (textP n B.L B.Q j i)):=by
 rw [EvClosed_eq H.c55 rfl (vs:=[B.bookV n,.int .i64 j,.int .i64 i]) (by simp [Tb.bookV,Tb.A_shut ok,Tb.P_shut ok]),EvFn_eq]
 have hw:IntKind.i64.wrap (n:Int) = n:=w64
 have hn5:(n:Int) < 5:=by omega
 have hi1:¬ ((i:Int) < 0):=by omega
 have hi2:¬ ((B.L.length:Int) ≤ i):=by omega
 have hi3:¬ (B.L.length ≤ i):=by omega
 have hj1:¬ ((j:Int) < -1):=by omega
 have hj2:¬ ((B.Q.length:Int) ≤ j):=by omega
 have hj3:¬ (B.Q.length ≤ j):=by omega
 have hj4:((j:Int) == -1) = false:=by simp
 have hmet:=metric_at B.ot hi
 have hs1:=sh.a B.L[i] (List.getElem_mem hi) n
 have hs2:=sh.p B.Q[j] (List.getElem_mem hj) n
 have hs3:(B.Q[j].code n).length + (B.L[i].code n).length ≤ 9223372036854775807:=by omega
 have hm5:((acs B.ot B.L[i]).drop 5).take 1 = [.bool B.L[i].metric]:=rfl
 cases h1:(B.L[i].code n).isEmpty
 ·cases h2:(B.Q[j].code n).isEmpty
  ·cases h3:B.L[i].metric <;> simp [f55,start,Tb.bookV,Tb.A,Tb.P,hi,hj,hi1,hi2,hj1,hj2,hj4,hs3,hm5,fm_len (acs_len B.ot),lt_at hi,le_at hi,fm_el (acs_len B.ot) hi,acs_len,acs_all,fm_len PrefR.len,lt_at hj,le_off hj,lt_off hj,pref_at hn hj,(by omega:n < 6),(by omega:n + 1 ≤ 6),hw,hn5,(by omega:n + 1 ≤ 12),acs_at B.ot _ hn,setCells_full,textP,h1,h2,h3]
  ·simp [f55,start,Tb.bookV,Tb.A,Tb.P,hi,hj,hi1,hi2,hj1,hj2,hj4,fm_len (acs_len B.ot),lt_at hi,le_at hi,fm_el (acs_len B.ot) hi,acs_len,acs_all,fm_len PrefR.len,lt_at hj,le_off hj,lt_off hj,pref_at hn hj,(by omega:n < 6),(by omega:n + 1 ≤ 6),hw,hn5,(by omega:n + 1 ≤ 12),acs_at B.ot _ hn,setCells_full,textP,h1,h2]
 ·have h1':B.L[i].code n = []:=by simpa using h1
  simp [f55,start,Tb.bookV,Tb.A,Tb.P,hi,hj,hi1,hi2,hj1,hj2,hj4,fm_len (acs_len B.ot),lt_at hi,le_at hi,fm_el (acs_len B.ot) hi,acs_len,acs_all,hw,hn5,(by omega:n + 1 ≤ 12),acs_at B.ot _ hn,setCells_full,textP,h1']
def symText (n:Nat) (L:List AtomR) (Q:List PrefR) (p:Int) (a:Nat):List UInt8:=if p = -1 then textA n L a else textP n L Q p.toNat a
theorem symText_eq (H:Has 55 E) (ok:B.Ok) (sh:B.Short) (hn:n < 5) {p:Int} (hp:-1 ≤ p) (hp2:p < B.Q.length) {a:Nat} (ha:a < B.L.length):EvClosed E (.fn (.func 55) [] []) [B.bookV n,.int .i64 p,.int .i64 a] = some (.str (symText n B.L B.Q p a)):=by
 unfold symText
 split
 ·rename_i h
  subst h
  exact textA_eq H ok hn ha
 ·rename_i h
  obtain ⟨j,rfl⟩:∃ j:Nat,p = j:=⟨p.toNat,by omega⟩
  exact textP_eq H ok sh hn ha (by omega)
def toldB (n:Nat) (L:List AtomR) (Q:List PrefR) (s:List UInt8) (p a:Int):Bool:=!s.isEmpty && ((findB n L Q s).2.2 && ((findB n L Q s).1 == p && (findB n L Q s).2.1 == a))
theorem told_eq (H:Has 37 E) (ok:B.Ok) (hn:n < 5) {p a:Int} {s:List UInt8} (ht:EvClosed E (.fn (.func 55) [] []) [B.bookV n,.int .i64 p,.int .i64 a] = some (.str s)):
  EvClosed E (.fn (.func 37) [] []) [B.bookV n,.int .i64 p,.int .i64 a] = some (.tuple [.str s,.bool (toldB n B.L B.Q s p a)]):=by
 rw [EvClosed_eq H.c37 rfl (vs:=[B.bookV n,.int .i64 p,.int .i64 a]) (by simp [Tb.bookV,Tb.A_shut ok,Tb.P_shut ok]),EvFn_eq]
 have hf:=find_eq (H.to 26) ok hn s
 simp only [Tb.bookV] at ht hf
 have ca:=@Tb.A_cell B
 have cp:=@Tb.P_cell B
 cases h1:s.isEmpty
 ·cases h2:(findB n B.L B.Q s).2.2
  ·simp [f37,start,Tb.bookV,EvCall_closed H.c55 rfl,EvCall_closed H.c26 rfl,ht,hf,toldB,h1,h2]
  ·cases h3:((findB n B.L B.Q s).1 == p) <;> simp [f37,start,Tb.bookV,EvCall_closed H.c55 rfl,EvCall_closed H.c26 rfl,ht,hf,toldB,h1,h2,h3]
 ·simp [f37,start,Tb.bookV,EvCall_closed H.c55 rfl,EvCall_closed H.c26 rfl,ht,hf,toldB,h1]
end Go.Pv
/- What a function that ranges asks of the one that it calls; ranging over atoms. Conditions: the functions' codes; theorems. -/
namespace Go.Pv
variable {E:Env} {B:Tb} {n:Nat}
structure OwnH (n0:Nat) (h h':AHeap):Prop where
 old:∀ j,j < n0→h'.bl j = h.bl j
 len:h.blks.length ≤ h'.blks.length
 toks:h'.toks = h.toks
 ro:h'.ro = h.ro
 rot:h'.rot = h.rot
structure KeptH (n0:Nat) (h h':AHeap):Prop where
 mid:∀ j,n0 ≤ j→j < h.blks.length→h'.bl j = h.bl j
 len:h.blks.length ≤ h'.blks.length
 ro:h'.ro = h.ro
 rot:h'.rot = h.rot
theorem KeptH.refl (n0:Nat) (h:AHeap):KeptH n0 h h:=⟨fun _ _ _=>rfl,Nat.le_refl _,rfl,rfl⟩
theorem KeptH.trans {n0:Nat} {a b c:AHeap} (h:KeptH n0 a b) (k:KeptH n0 b c):KeptH n0 a c:=
 ⟨fun j h1 h2=>(k.mid j h1 (Nat.lt_of_lt_of_le h2 h.len)).trans (h.mid j h1 h2),Nat.le_trans h.len k.len,k.ro.trans h.ro,k.rot.trans h.rot⟩
theorem KeptH.push (n0:Nat) (h:AHeap) (b:ABlk):KeptH n0 h (h.push b):=by
 refine ⟨fun j _ hj=>?_,by simp,rfl,rfl⟩
 rw [bl_push,if_neg (by omega)]
theorem OwnH.refl (n0:Nat) (h:AHeap):OwnH n0 h h:=⟨fun _ _=>rfl,Nat.le_refl _,rfl,rfl,rfl⟩
theorem OwnH.trans {n0:Nat} {a b c:AHeap} (h:OwnH n0 a b) (k:OwnH n0 b c):OwnH n0 a c:=
 ⟨fun j h1=>(k.old j h1).trans (h.old j h1),Nat.le_trans h.len k.len,k.toks.trans h.toks,k.ro.trans h.ro,k.rot.trans h.rot⟩
theorem OwnH.push {n0:Nat} {h:AHeap} (hn:n0 ≤ h.blks.length) (b:ABlk):OwnH n0 h (h.push b):=by
 refine ⟨fun j hj=>?_,by simp,rfl,rfl,rfl⟩
 rw [bl_push,if_neg (by omega)]
theorem OwnH.set {n0:Nat} {h:AHeap} {l:Nat} (hn:n0 ≤ l) (b:ABlk):OwnH n0 h (h.setBlk l b):=by
 refine ⟨fun j hj=>?_,by simp,rfl,rfl,rfl⟩
 rw [bl_set,if_neg (by omega)]
structure YieldsL (E:Env) (Y:AV) (n0:Nat) {β:Type} (args:β→List AV) (Good:List β→AHeap→Prop):Prop where
 len:∀ l h,Good l h→n0 ≤ h.blks.length
 ro:∀ l h,Good l h→h.ro ≤ n0
 call:∀ x l h,Good (x :: l) h→∃ h',EvCall E Y (args x) h = some (.ret (.bool true),h')∧Good l h'∧KeptH n0 h h'
 keep:∀ l h h',Good l h→OwnH n0 h h'→Good l h'
end Go.Pv
/- Tokens: what the program's Lex comes to. Conditions: the functions' codes; theorems. -/
namespace Go.Pv
variable {E:Env}
theorem size_eq (H:Has 45 E) (t:Tok) (ht:t.text.length < 1000000):EvClosed E (.fn (.func 45) [] []) [.agg t.cs] = some (.int .i64 (if t.kind == 9 then (t.text.length:Int) + 2 else t.text.length)):=by
 rw [EvClosed_eq H.c45 rfl (vs:=[.agg t.cs]) (by simp [Tok.cs]),EvFn_eq]
 cases hk:(t.kind == 9)
 ·simp [f45,start,Tok.cs,hk]
 ·simp [f45,start,Tok.cs,hk,w64 (n:=(t.text.length:Int) + 2)]
theorem each32_eq (H:Has 32 E) {x:Int} {s:List UInt8} {h:AHeap}:EvCall E (.fn (.func 32) [] []) [.int .i64 x,.str s] h = some (.ret (.fn (.func 46) [] [.ref (h.blks.length + 1) 0,.ref h.blks.length 0]),(h.push (.cells [.int .i64 x])).push (.cells [.str s])):=by
 rw [EvCall_open H.c32 rfl,EvFn_eq]
 simp [f32,start]
def tokArgs (t:Tok):List AV:=[.agg t.cs]
theorem each46_loop (H:Has 46 E) (x:Int) {yl n0:Nat} {Good:List Tok→AHeap→Prop} (hy:YieldsL E (.fn (.yield yl) [] []) n0 tokArgs Good) {b1 b2:Nat} {S:List UInt8} (hG1:∀ l h,Good l h→h.bl b1 = some (.cells [.str S])) (hG2:∀ l h,Good l h→h.bl b2 = some (.cells [.int .i64 x])):∀ (f:Nat) (s ahead:List UInt8),S = ahead++s→s.length ≤ f→ahead.length + s.length < 900000→∀ (h:AHeap),Good (lexF x f s ahead.length).1 h →
    ∃ h',(Good [] h'∧KeptH n0 h h') ∧
      ((∀ F,mask k46_0 F = s46_0 (.fn (.yield yl) [] []) (.ref b1 0) (.ref b2 0) (.int .i64 ahead.length)→EvCode E (.loop k46_0 l46_0) F h = some (.exit 0,x46_0,h')) ∨
       (∀ F,mask k46_0 F = s46_0 (.fn (.yield yl) [] []) (.ref b1 0) (.ref b2 0) (.int .i64 ahead.length)→EvCode E (.loop k46_0 l46_0) F h = some (.ret,r46,h')))
  | f,[],ahead,hS,hf,hs,h,hg=>by
    have e1:=hG1 _ _ hg
    rw [hS] at e1
    have e:lexF x f [] ahead.length = ([],ahead.length):=by cases f <;> rfl
    rw [e] at hg
    refine ⟨h,⟨hg,KeptH.refl _ _⟩,.inl fun F hF=>?_⟩
    rw [EvCode_loop,hF]
    simp [l46_0,s46_0,x46_0,e1]
  | 0,c :: r,ahead,hS,hf,hs,h,hg=>by simp at hf
  | f + 1,c :: r,ahead,hS,hf,hs,h,hg=>by
    have e1:=hG1 _ _ hg
    have e2:=hG2 _ _ hg
    rw [hS] at e1
    simp only [List.length_cons] at hf hs
    have hn0:=hy.len _ _ hg
    have hro:=hy.ro _ _ hg
    have hnx:=next47_eq (H.to 47) x c r (by omega)
    have hlt:(ahead.length:Int) < (ahead.length:Int) + ((r.length:Int) + 1):=by omega
    have n1:=blk_ne e1
    have n2:=blk_ne e2
    have hle:(ahead.length:Int) ≤ (ahead.length:Int) + ((r.length:Int) + 1):=by omega
    have hsl:((ahead++c :: r).take (ahead.length + (r.length + 1))).drop ahead.length = c :: r:=by rw [cut_at]; simp
    cases hn:nextS x (c :: r) with
    | none=>
      rw [hn] at hnx
      simp only [lexF,hn] at hg
      simp only [got47] at hnx
      refine ⟨h.push (.cells [.int .i64 0,.int .i64 ahead.length,.str [],.int .i64 0]),⟨hy.keep _ _ _ hg (OwnH.push hn0 _),KeptH.push _ _ _⟩,.inr fun F hF=>?_⟩
      rw [EvCode_loop,hF]
      simp [l46_0,s46_0,e1,e2,hlt,hle,hsl,hnx,push_set,(by omega:h.ro ≤ h.blks.length),r46]
    | some g=>
      obtain ⟨k,t,n,l⟩:=g
      obtain ⟨l1,l2⟩:=next_len hn
      rw [hn] at hnx
      simp only [lexF,hn] at hg
      simp only [got47] at hnx
      simp only [List.length_cons] at l2
      have hap:ahead++c :: r = (ahead++(c :: r).take l)++(c :: r).drop l:=by rw [List.append_assoc,List.take_append_drop]
      have hal:(ahead++(c :: r).take l).length = ahead.length + l:=by simp; omega
      obtain ⟨h1,q1,q2,q3⟩:=hy.call _ _ _ (hy.keep _ _ _ hg (OwnH.push hn0 (.cells [.int .i64 k,.int .i64 ahead.length,.str t,.int .i64 n])))
      have hl1:h.blks.length + 1 ≤ h1.blks.length:=by have:=q3.len; simpa using this
      obtain ⟨h2,⟨p1,p2⟩,p3⟩:=each46_loop H x hy hG1 hG2 f ((c :: r).drop l) (ahead++(c :: r).take l) (hS.trans hap) (by simp; omega) (by rw [hal]; simp; omega) h1 (by rw [hal]; exact q2)
      rw [hal] at p3
      have hl0:((l:Int) == 0) = false:=by simp; omega
      have w1:IntKind.i64.wrap ((ahead.length:Int) + l) = (ahead.length:Int) + l:=w64
      simp only [tokArgs,Tok.cs] at q1
      refine ⟨h2,⟨p1,(KeptH.push n0 h _).trans (q3.trans p2)⟩,?_⟩
      rcases p3 with p3 | p3
      · refine .inl fun F hF=>?_
        rw [EvCode_loop,hF]
        generalize EvCode E (.loop k46_0 l46_0) = lp at p3 ⊢
        simp [l46_0,s46_0,e1,e2,hlt,hle,hsl,hnx,push_set,(by omega:h.ro ≤ h.blks.length),hl0,q1,w1]
        exact p3 _ (by simp [s46_0])
      · refine .inr fun F hF=>?_
        rw [EvCode_loop,hF]
        generalize EvCode E (.loop k46_0 l46_0) = lp at p3 ⊢
        simp [l46_0,s46_0,e1,e2,hlt,hle,hsl,hnx,push_set,(by omega:h.ro ≤ h.blks.length),hl0,q1,w1]
        exact p3 _ (by simp [s46_0])
theorem each46_range (H:Has 46 E) (x:Int) {yl n0:Nat} {Good:List Tok→AHeap→Prop} (hy:YieldsL E (.fn (.yield yl) [] []) n0 tokArgs Good) {b1 b2:Nat} {s:List UInt8} (hG1:∀ l h,Good l h→h.bl b1 = some (.cells [.str s])) (hG2:∀ l h,Good l h→h.bl b2 = some (.cells [.int .i64 x])) (hs:s.length < 900000) (h:AHeap) (hg:Good (lexS x s).1 h):
  ∃ h',EvCall E (.fn (.func 46) [] [.ref b1 0,.ref b2 0]) [.fn (.yield yl) [] []] h = some (.ret (.tuple []),h')∧(Good [] h'∧KeptH n0 h h'):=by
 obtain ⟨h',q1,q2⟩:=each46_loop H x hy hG1 hG2 s.length s [] rfl (Nat.le_refl _) (by simpa using hs) h hg
 refine ⟨h',?_,q1⟩
 rw [EvCall_open H.c46 rfl,EvFn_eq]
 simp only [List.length_nil] at q2
 simp [f46,start]
 rcases q2 with q2 | q2
 ·rw [q2 _ (by simp [s46_0])]
  simp [x46_0]
 ·rw [q2 _ (by simp [s46_0])]
  simp [r46]
end Go.Pv
