/- A part of the proof: functions of the program in the evaluator's code, and what they come to. Conditions: none; definitions and theorems that the statement's proof uses. -/
import Derived.Test.YtamopjeecnhfaaaGreatDoorSetwPv20
import Derived.Test.YtamopjeecnhfaaaGreatDoorSetwPv11
import Derived.Test.YtamopjeecnhfaaaGreatDoorSetwPvFns2
import Derived.Shelf.Strconv.Itoa3
import Derived.Shelf.Strings.FuncGrows
/- A listed variable that holds an error. Conditions: what the program's types are; a lemma. -/
namespace Go.Pv
open Go.RowKit
variable {T:Tie} {W:World}
theorem laid_plain {name:String} {d:DataW Unit} {r:List (String × DataW Unit)} {ps:List MemPlace} (h:DataW.LaidVars T.P W ((name,d) :: r) ps) {g:Nat} (hg:T.P.globalNamed name = some g) {t:TypeId} (ht:(T.P.globals[g]?).map (·.type) = some t) {n:Nat} {l:List AV} (hd:dCells T.P n t d = some l):
  (∃ c e fz ls,W.heap[g]? = some (.cells c e fz)∧RepL T (Ghost.met W) W l ls∧(∀ (i:Nat) (v:Value),ls[i]? = some v→c[i]? = some v)∧c.size = ls.length)∧∃ q,DataW.LaidVars T.P W r q∧∀ x ∈ q,x ∈ ps:=by
 refine ⟨(laid_cells h hg ht hd (Ghost.met W)).1,?_⟩
 simp only [DataW.LaidVars] at h
 obtain ⟨g',t',cs,fuel,p,q,h1,h2,h3,h4,h5,hps⟩:=h
 exact ⟨q,h5,fun x hx=>by rw [hps]; exact List.mem_append_right _ hx⟩
theorem laid_err {name tn:String} {d:DataW Unit} {r:List (String × DataW Unit)} {ps:List MemPlace} (h:DataW.LaidVars T.P W ((name,.iface tn (.ptr d)) :: r) ps) {g:Nat} (hg:T.P.globalNamed name = some g) {t:TypeId} (ht:(T.P.globals[g]?).map (·.type) = some t)
  {ms:Array (String × TypeId)} (hi:T.P.underlying t = some (.interface ms)) {j:Nat} (hu:∀ u,T.P.typeName? 3 u = some tn→u = T.tnum j) {e:TypeId} (hp:T.P.underlying (T.tnum j) = some (.pointer e)) (hok:∀ b off,MemPlace.cell b off ∈ ps→∀ u v,W.cell? ⟨b,off,none⟩ = some (.iface u v)→Value.okWide T.P W .any 0 u v) {n:Nat} {l:List AV} (hd:dCells T.P n e d = some l) (hl:0 < l.length):
  (∃ c e fz ls,W.heap[g]? = some (.cells c e fz)∧RepL T (Ghost.met W) W [.iface j (.pin l)] ls∧(∀ (i:Nat) (v:Value),ls[i]? = some v→c[i]? = some v)∧c.size = ls.length)∧∃ q,DataW.LaidVars T.P W r q∧∀ x ∈ q,x ∈ ps:=by
 simp only [DataW.LaidVars] at h
 obtain ⟨g',t',cs,fuel,p,q,h1,h2,h3,h4,h5,hps⟩:=h
 rw [hg] at h1
 cases h1
 rw [ht] at h2
 cases h2
 refine ⟨?_,q,h5,fun x hx=>by rw [hps]; exact List.mem_append_right _ hx⟩
 simp only [World.var?,hg,Option.bind_some] at h3
 split at h3
 ·rename_i c el fz hb
  cases h3
  refine ⟨_,el,fz,cs.toList,hb,?_,fun i v hv=>by simpa using hv,by simp⟩
  cases fuel with
  | zero=>simp [DataW.trod] at h4
  | succ fuel=>
   unfold DataW.trod at h4
   rw [hi] at h4
   simp only at h4
   generalize hcl:cs.toList = cl at h4 ⊢
   rcases cl with _ | ⟨v0,_ | ⟨v1,vs⟩⟩
   ·simp at h4
   ·cases v0 <;> first | (simp at h4; done) | skip
    rename_i u v
    simp only at h4
    split at h4
    ·rename_i hc
     cases hc
    ·rename_i nm hnm
     simp only [Option.map_eq_some_iff,Prod.mk.injEq,DataW.iface.injEq] at h4
     obtain ⟨⟨d1,p1⟩,h6,⟨h7,h8⟩,h9⟩:=h4
     simp only at h8
     subst h7
     obtain rfl:=hu u hnm
     subst h8
     cases fuel with
     | zero=>simp [DataW.trod] at h6
     | succ fuel=>
      unfold DataW.trod at h6
      rw [hp] at h6
      generalize hvl:v.cells.toList = vl at h6
      rcases vl with _ | ⟨w0,_ | ⟨w1,ws⟩⟩
      ·simp at h6
      ·cases w0 <;> first | (simp at h6; done) | skip
       rename_i ad
       cases ad with
       | none=>simp at h6
       | some a=>
        simp only [Option.map_eq_some_iff,Option.bind_eq_some_iff,Prod.mk.injEq,DataW.ptr.injEq] at h6
        obtain ⟨⟨d2,p2⟩,⟨cs2,hc2,ht2⟩,⟨h10,_⟩⟩:=h6
        simp only at h10
        subst h10
        have hr:=dCells_rep (T:=T) (W:=W) (G:=Ghost.met W) n fuel _ _ _ _ l ht2 hd
        obtain ⟨hb2,hn2,hall⟩:=World.cells?_some hc2
        have hlen:=hr.length
        obtain ⟨ab,ao,asp⟩:=a
        have hadd:∀ j,W.cell? (Addr.add ⟨ab,ao,asp⟩ j) = W.cell? ⟨ab,ao + j,if j = 0 then asp else none⟩:=by
         intro j
         unfold Addr.add
         by_cases hj:j = 0
         ·subst hj; simp
         ·simp [hj]
        have hall':∀ (j:Nat) (x:Value),cs2[j]? = some x→W.cell? ⟨ab,ao + j,if j = 0 then asp else none⟩ = some x:=by
         intro j x hj
         have hjl:j < cs2.length:=(List.getElem?_eq_some_iff.1 hj).1
         have:=hall j (by omega)
         rw [hj,hadd] at this
         exact this
        have h0:0 < cs2.length:=by omega
        have hc0:=hall' 0 cs2[0] (List.getElem?_eq_getElem h0)
        have hcell:∃ c e fz,W.heap[ab]? = some (.cells c e fz)∧asp = none:=by
         cases hq:W.heap[ab]? with
         | none=>simp [World.cell?,hq] at hc0
         | some ob=>
          cases ob <;> first | (simp [World.cell?,hq] at hc0; done) | skip
          rename_i c e fz
          cases asp with
          | none=>exact ⟨c,e,fz,rfl,rfl⟩
          | some z=>simp [World.cell?,hq] at hc0
        obtain ⟨c2,e2,fz2,hq,rfl⟩:=hcell
        simp only [RepL,RepV]
        have hv:v = .pointer (some ⟨ab,ao,none⟩):=by
         have hw:=hok g 0 (by rw [hps]; simp [MemPlace.row]; left; have:=congrArg List.length hcl; simp at this; rw [this]; exact Nat.one_pos) (T.tnum j) v (by
          have:=congrArg (·[0]?) hcl
          simp only [World.cell?,hb]
          simpa using this)
         unfold Value.okWide at hw
         rw [hp] at hw
         simp only [Cell.okWide,hp] at hw
         cases v <;> first | (simp [Cell.ok,hp] at hw; done) | skip
         all_goals first | (simpa [Value.cells] using hvl) | skip
        have hall'':∀ (j:Nat) (x:Value),cs2[j]? = some x→W.cell? ⟨ab,ao + j,none⟩ = some x:=by
         intro j x hj
         have:=hall' j x hj
         simpa using this
        refine ⟨_,_,rfl,⟨v,rfl,ab,ao,c2.size,hv,by simp [Ghost.met,hq],?_,RepM.of_list hr hall''⟩,rfl⟩
        rcases Nat.lt_or_ge c2.size (ao + l.length) with hlt | hge
        ·exfalso
         have:=hall'' (l.length - 1) cs2[l.length - 1] (List.getElem?_eq_getElem (by omega))
         simp only [World.cell?,hq] at this
         have hsz:=(Array.getElem?_eq_some_iff.1 (by simpa using this)).1
         omega
        ·exact hge
      ·simp at h6
    ·cases h4
   ·simp at h4
 ·cases h3
end Go.Pv
/- A number's text, by Go's library; a table's variable. Conditions: what the program's types are; lemmas. -/
namespace Go.Pv
variable {T:Tie}
theorem digG_lib:∀ (f u:Nat),u < 10 ^ (f + 1)→digG f u = Lib.decDigits u
 | 0,u,h=>by
  have h':u < 10:=by simpa using h
  rw [Lib.decDigits,dif_pos h']
  rfl
 | f + 1,u,h=>by
  have hp:(10:Nat) ^ (f + 1 + 1) = 10 ^ (f + 1) * 10:=Nat.pow_succ ..
  rw [Lib.decDigits]
  simp only [digG]
  split
  ·rfl
  ·rw [digG_lib f (u / 10) (by omega)]
theorem itoa_lib {n:Int} (h0:-9223372036854775808 ≤ n) (h1:n ≤ 9223372036854775807):Lib.itoa n = itoaS n:=by
 have e:(10:Nat) ^ (18 + 1) = 10000000000000000000:=by decide
 unfold Lib.itoa itoaS
 split
 ·rw [digG_lib 18 (-n).toNat (by omega),show n.natAbs = (-n).toNat by omega]
 ·rw [digG_lib 18 n.toNat (by omega)]
theorem tab_of {G:Ghost} {w:World} {g:Nat} {name:String} {k:IntKind} {zs:List Int} (hn:T.P.globalNamed name = some (T.gnum g)) (h:GlobOk T G w g (zs.map fun z=>AV.int k z)):Lib.TabIs T.P w name k zs:=by
 obtain ⟨h1,c,e,fz,hb,hs⟩:=h
 simp only [RepV] at h1
 obtain ⟨r,off,m,h2,h3,h4,h5⟩:=h1
 cases h2
 unfold Lib.TabIs World.var?
 rw [hn]
 simp only [Option.bind_some,hb]
 congr 1
 apply Array.ext
 ·simp [hs]
 ·intro i hi1 hi2
  have hi:i < zs.length:=by simpa using hi2
  obtain ⟨v,q1,q2⟩:=h5.get (i:=i) (a:=.int k zs[i]) (by simp [hi])
  simp only [RepV] at q2
  rw [Nat.zero_add] at q1
  have q3:c[i]? = some v:=by simpa [World.cell?,hb] using q1
  rw [Array.getElem?_eq_getElem hi1] at q3
  rw [Option.some.inj q3]
  simpa using q2
end Go.Pv
/- Where a text's first byte stands that is no sign from ' ' to '~': Go's library tells that. Conditions: none; theorems. -/
namespace Go.Pv
open Go
def oddR (r:Nat):Bool:=decide (r < 32) || decide (126 < r)
theorem dec_ascii (s:ByteArray) (i:Nat) (h:(s.get! i).toNat < 128):Utf8.decode s i = ((s.get! i).toNat,1):=by
 simp only [Utf8.decode,Nat.add_zero]
 rw [if_pos h]
theorem dec_high (s:ByteArray) (i:Nat) (h:¬ (s.get! i).toNat < 128):128 ≤ (Utf8.decode s i).1:=by
 simp only [Utf8.decode,Nat.add_zero,Utf8.runeError]
 rw [if_neg h]
 split
 ·split <;> (simp only; omega)
 ·split
  ·rename_i h1 h2
   split
   ·rename_i h3
    simp only [Bool.and_eq_true,decide_eq_true_eq] at h3
    simp only
    omega
   ·simp only; omega
  ·split
   ·split
    ·rename_i h3
     simp only [Bool.and_eq_true,decide_eq_true_eq] at h3
     simp only
     omega
    ·simp only; omega
   ·simp only; omega
theorem odd_range:∀ s:List UInt8,oddAt s = -1∨0 ≤ oddAt s
 | []=>.inl rfl
 | x :: s=>by
  simp only [oddAt]
  have:=odd_range s
  split
  ·exact .inr (by decide)
  ·split
   ·exact .inl rfl
   ·exact .inr (by omega)
theorem idx_odd (s:List UInt8):∀ (f pos:Nat),s.length ≤ pos + f→Lib.idxFuncFrom oddR true ⟨⟨s⟩⟩ f pos = if oddAt (s.drop pos) = -1 then -1 else (pos:Int) + oddAt (s.drop pos)
 | 0,pos,h=>by
  rw [List.drop_eq_nil_of_le (by omega)]
  rfl
 | f + 1,pos,h=>by
  have hsz:(⟨⟨s⟩⟩:ByteArray).size = s.length:=rfl
  unfold Lib.idxFuncFrom
  rw [hsz]
  by_cases hp:pos < s.length
  ·rw [if_pos hp,List.drop_eq_getElem_cons hp]
   have hg:(⟨⟨s⟩⟩:ByteArray).get! pos = s[pos]:=by
    show (Array.mk s)[pos]! = s[pos]
    simp [hp]
   have key:(oddR (Utf8.decode ⟨⟨s⟩⟩ pos).1 = true) ↔ ((s[pos]).toNat < 32∨126 < (s[pos]).toNat):=by
    by_cases hb:(s[pos]).toNat < 128
    ·have hd:=dec_ascii ⟨⟨s⟩⟩ pos (by rw [hg]; exact hb)
     rw [hg] at hd
     rw [hd]
     simp [oddR]
    ·have hd:=dec_high ⟨⟨s⟩⟩ pos (by rw [hg]; exact hb)
     simp only [oddR,Bool.or_eq_true,decide_eq_true_eq]
     omega
   by_cases h1:(s[pos]).toNat < 32∨126 < (s[pos]).toNat
   ·have e0:oddAt (s[pos] :: s.drop (pos + 1)) = 0:=by simp only [oddAt,if_pos h1]
    rw [if_pos (key.2 h1),e0,if_neg (by decide)]
    simp
   ·have hd:=dec_ascii ⟨⟨s⟩⟩ pos (by rw [hg]; omega)
    have ih:=idx_odd s f (pos + 1) (by omega)
    have e0:oddAt (s[pos] :: s.drop (pos + 1)) = if oddAt (s.drop (pos + 1)) = -1 then -1 else oddAt (s.drop (pos + 1)) + 1:=by simp only [oddAt,if_neg h1]
    rw [if_neg (fun h=>h1 (key.1 h)),e0,hd,ih]
    have:=odd_range (s.drop (pos + 1))
    generalize oddAt (s.drop (pos + 1)) = o at *
    split
    ·rfl
    ·rw [if_neg (by omega)]
     push_cast
     omega
  ·rw [if_neg hp,List.drop_eq_nil_of_le (by omega)]
   rfl
theorem idx_odd0 (s:List UInt8):Lib.idxFunc oddR true ⟨⟨s⟩⟩ = oddAt s:=by
 unfold Lib.idxFunc
 rw [idx_odd s _ 0 (by show s.length ≤ 0 + s.length; omega)]
 have:=odd_range s
 simp only [List.drop_zero]
 split
 ·omega
 ·simp
end Go.Pv
