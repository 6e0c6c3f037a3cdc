/- A part of the proof: an evaluator of the program's code, and that it is sound. Conditions: none; definitions and theorems that the statement's proof uses. -/
import Derived.Test.YtamopjeecnhfaaaGreatDoorSetwPv1
import Derived.OrdersIn
/- The model's operations do what the evaluator's do: maps, append, bytes. Conditions: none; lemmas. -/
namespace Go.Pv
open Go.RowKit
variable {T:Tie} {E:Env} {G:Ghost} {h:AHeap} {w:World} {F:Fr} {a:Act}
def keyKind:KeyK→TypeDesc→Prop
 | .str,d=>d = .string
 | .int,d=>∃ k,d = .int k
theorem sameNow_of {x y:AV} {u v:Value} {b:Bool} {kd:TypeDesc} {kk:KeyK} (hkk:keyKind kk kd) (hxy:eqCell x y = some b) (hx:RepV T G w x u) (hy:RepV T G w y v) (hf:fitsKey kk x = true):Instr.sameNow kd u v = some b:=by
 unfold eqCell at hxy
 split at hxy
 ·rename_i k m k' n
  split at hxy
  ·rename_i hke
   cases hxy
   simp only [RepV] at hx hy
   subst hx hy
   cases kk <;> simp [fitsKey] at hf
   obtain ⟨k0,rfl⟩:=hkk
   simp [Instr.sameNow,hke]
  ·cases hxy
 ·rename_i s s'
  cases hxy
  simp only [RepV] at hx hy
  subst hx hy
  cases kk <;> simp [fitsKey] at hf
  obtain rfl:kd = .string:=hkk
  simp only [Instr.sameNow,beq_toListBytes,byte_toList]
 ·rename_i p q
  cases hxy
  cases kk <;> simp [fitsKey] at hf
 ·cases hxy
theorem findNow_of {kd:TypeDesc} {kk:KeyK} (hkk:keyKind kk kd) {x:AV} {u:Value} (hx:RepV T G w x u) (hf:fitsKey kk x = true):∀ {es:List (AV × AV)} {l:List MapEntry} {r:Option AV} (i:Nat),findKeyA x es = some r→RepE T G w es l →
  (r = none∧Instr.findNow kd u l i = some none∧setKeyA x = setKeyA x)∨(∃ v j e,r = some v∧i ≤ j∧Instr.findNow kd u l i = some (some (j,e.val))∧l[j - i]? = some e∧RepV T G w v e.val)
 | [],l,r,i,hk,hl=>by
  simp only [findKeyA] at hk
  cases hk
  simp only [RepE] at hl
  subst hl
  exact .inl ⟨rfl,by simp [Instr.findNow],rfl⟩
 | e :: es,l,r,i,hk,hl=>by
  simp only [RepE] at hl
  obtain ⟨y,ys,rfl,h1,h2,h3⟩:=hl
  simp only [findKeyA] at hk
  split at hk
  ·rename_i he
   cases hk
   exact .inr ⟨e.2,i,y,rfl,Nat.le_refl _,by simp [Instr.findNow,sameNow_of hkk he hx h1 hf],by simp,h2⟩
  ·rename_i he
   rcases findNow_of hkk hx hf (i + 1) hk h3 with ⟨q1,q2,_⟩ | ⟨v,j,e',q1,q2,q3,q4,q5⟩
   ·exact .inl ⟨q1,by simp [Instr.findNow,sameNow_of hkk he hx h1 hf,q2],rfl⟩
   ·refine .inr ⟨v,j,e',q1,by omega,by simp [Instr.findNow,sameNow_of hkk he hx h1 hf,q3],?_,q5⟩
    rw [show j - i = (j - (i + 1)) + 1 by omega]
    simpa using q4
  ·cases hk
theorem run_checkKey {kd:TypeDesc} {kt:TypeId} {kk:KeyK} (hu:T.P.underlying kt = some kd) (hk:keyKind kk kd) (b:Bool) (u:Value) (d:Nat) (w:World):(Instr.checkKey b (d + 1) kt u).run T.P w = .ok () w:=by
 cases kk with
 | str=>obtain rfl:kd = .string:=hk; simp [Instr.checkKey,run_underlying hu,Result.andThen]
 | int=>obtain ⟨k,rfl⟩:=hk; simp [Instr.checkKey,run_underlying hu,Result.andThen]
theorem sim_lookup (I:Inv T E G h w) (hF:RepL T G w F.t a.tmps.toList) {o:Oper} {t kt e:TypeId} {kd:TypeDesc} {kk:KeyK} {m k:Operand} {sm sk:SOpd} {z:AV} {ok:Bool} (ho:o.op = .lookup t m k ok) (hu:T.P.underlying t = some (.map kt e)) (hkt:T.P.underlying kt = some kd) (hkd:keyKind kk kd) (hz:zeroT T e = some z)
  (hm:cOpd T m = some sm) (hk:cOpd T k = some sk) {v:AV} {h':AHeap} (he:ev1 E F h (.lookup kk z ok sm sk) = some (v,h')):Done T E G w v h' (execOp a.eval o):=by
 have hmr:=opd_rep I hF hm
 have hkr:=opd_rep I hF hk
 obtain ⟨zv,hz1,hz2⟩:=run_zeroT hz
 simp only [ev1] at he
 ·have hch:∀ b,(Instr.checkKey b 10000 kt (a.eval k)).run T.P w = .ok () w:=fun b=>run_checkKey hkt hkd b _ 9999 w
  split at he
  ·cases he
  ·rename_i es hes
   split at he
   ·cases he
   ·rename_i r hr
    split at hr
    case isFalse=>cases hr
    rename_i hfit
    cases he
    have hmap:(∃ l:Array MapEntry,RepE T G w es l.toList∧((a.eval m = .map none∧l = #[])∨∃ rr ck,a.eval m = .map (some rr)∧w.heap[rr]? = some (.map l ck))):=by
     split at hes
     ·rename_i e1
      cases hes
      rw [e1] at hmr
      simp only [RepV] at hmr
      exact ⟨#[],by simp only [RepE],.inl ⟨hmr,rfl⟩⟩
     ·rename_i b e1
      split at hes
      ·rename_i es' hb
       cases hes
       rw [e1] at hmr
       simp only [RepV] at hmr
       obtain ⟨rr,hrr,hme⟩:=hmr
       obtain ⟨l,ck,h1,h2⟩:=I.blk b _ rr hb hrr
       exact ⟨l,h2,.inr ⟨rr,ck,hme,h1⟩⟩
      ·cases hes
     ·cases hes
    obtain ⟨l,hl,hcase⟩:=hmap
    have hfind:=findNow_of hkd hkr hfit 0 hr hl
    have hrunfind:(Instr.findKey kt (a.eval k) l.toList).run T.P w = .ok ((Instr.findNow kd (a.eval k) l.toList 0).getD none) w:=by
     rcases hfind with ⟨_,q2,_⟩ | ⟨v',j,e',_,_,q3,_,_⟩
     ·simp [Instr.findKey,run_underlying hkt,q2,Result.andThen]
     ·simp [Instr.findKey,run_underlying hkt,q3,Result.andThen]
    rcases hfind with ⟨q1,q2,_⟩ | ⟨v',j,e',q1,_,q3,_,q5⟩
    ·subst q1
     have hrl:(Instr.lookup t (a.eval m) (a.eval k) ok).run T.P w = .ok (if ok then .tuple #[zv,.bool false] else zv) w:=by
      rcases hcase with ⟨p1,p2⟩ | ⟨rr,ck,p1,p2⟩
      ·subst p2
       have hrf:=hrunfind
       rw [q2] at hrf
       have hrf':(Instr.findKey kt (a.eval k) []).run T.P w = .ok none w:=hrf
       simp [Instr.lookup,run_underlying hu,p1,hch,hrf',hz1,Result.andThen]
      ·simp [Instr.lookup,run_underlying hu,p1,run_getObj_of p2 (by simp),hch,hrunfind,q2,hz1,Result.andThen]
     refine Done.same I (if ok then .tuple #[zv,.bool false] else zv) ?_ ?_
     ·simp only [execOp,ho,Sem.run_bind,hrl,Result.andThen,Sem.run_pure]
     ·cases ok with
      | true=>simp only [RepV,if_true,RepL]; exact ⟨_,rfl,_,_,rfl,hz2 G w,_,_,rfl,rfl,rfl⟩
      | false=>simp only [Bool.false_eq_true,if_false]; exact hz2 G w
    ·subst q1
     have hrl:(Instr.lookup t (a.eval m) (a.eval k) ok).run T.P w = .ok (if ok then .tuple #[e'.val,.bool true] else e'.val) w:=by
      rcases hcase with ⟨p1,p2⟩ | ⟨rr,ck,p1,p2⟩
      ·subst p2
       simp [Instr.findNow] at q3
      ·simp [Instr.lookup,run_underlying hu,p1,run_getObj_of p2 (by simp),hch,hrunfind,q3,Result.andThen]
     refine Done.same I (if ok then .tuple #[e'.val,.bool true] else e'.val) ?_ ?_
     ·simp only [execOp,ho,Sem.run_bind,hrl,Result.andThen,Sem.run_pure]
     ·cases ok with
      | true=>simp only [RepV,if_true,RepL]; exact ⟨_,rfl,_,_,rfl,q5,_,_,rfl,rfl,rfl⟩
      | false=>simp only [Bool.false_eq_true,if_false]; exact q5
theorem setKey_old {kd:TypeDesc} {kk:KeyK} (hkk:keyKind kk kd) {x v:AV} {u uv:Value} (hx:RepV T G w x u) (hv:RepV T G w v uv) (hf:fitsKey kk x = true):∀ {es:List (AV × AV)} {l:List MapEntry} {r:Option AV} (i j:Nat) (val:Value),findKeyA x es = some r→RepE T G w es l →
  Instr.findNow kd u l i = some (some (j,val))→i ≤ j∧RepE T G w (setKeyA x v es) (l.modify (j - i) fun e=>{ e with key:=u,val:=uv })
 | [],l,r,i,j,val,hk,hl,hn=>by
  simp only [RepE] at hl
  subst hl
  simp [Instr.findNow] at hn
 | e :: es,l,r,i,j,val,hk,hl,hn=>by
  simp only [RepE] at hl
  obtain ⟨y,ys,rfl,h1,h2,h3⟩:=hl
  simp only [findKeyA] at hk
  split at hk
  ·rename_i he
   simp only [Instr.findNow,sameNow_of hkk he hx h1 hf,Option.some.injEq,Prod.mk.injEq] at hn
   obtain ⟨rfl,_⟩:=hn
   refine ⟨Nat.le_refl _,?_⟩
   simp only [setKeyA,he,if_true,Nat.sub_self,List.modify_zero_cons,RepE]
   exact ⟨_,_,rfl,hx,hv,h3⟩
  ·rename_i he
   simp only [Instr.findNow,sameNow_of hkk he hx h1 hf] at hn
   obtain ⟨q1,q2⟩:=setKey_old hkk hx hv hf (i + 1) j val hk h3 hn
   refine ⟨by omega,?_⟩
   rw [show j - i = (j - (i + 1)) + 1 by omega]
   have hne:¬ (eqCell x e.1 = some true):=by rw [he]; simp
   simp only [setKeyA,if_neg hne,List.modify_succ_cons,RepE]
   exact ⟨_,_,rfl,h1,h2,q2⟩
  ·cases hk
theorem setKey_new {x v:AV} {u uv:Value} {ck:Nat} (hx:RepV T G w x u) (hv:RepV T G w v uv):∀ {es:List (AV × AV)} {l:List MapEntry},findKeyA x es = some none→RepE T G w es l →
  RepE T G w (setKeyA x v es) (l++[{ key:=u,val:=uv,born:=ck }])
 | [],l,hk,hl=>by
  simp only [RepE] at hl
  subst hl
  simp only [setKeyA,RepE,List.nil_append]
  exact ⟨_,_,rfl,hx,hv,rfl⟩
 | e :: es,l,hk,hl=>by
  simp only [RepE] at hl
  obtain ⟨y,ys,rfl,h1,h2,h3⟩:=hl
  simp only [findKeyA] at hk
  split at hk
  ·cases hk
  ·rename_i he
   have hne:¬ (eqCell x e.1 = some true):=by rw [he]; simp
   simp only [setKeyA,if_neg hne,List.cons_append,RepE]
   exact ⟨_,_,rfl,h1,h2,setKey_new hx hv hk h3⟩
  ·cases hk
theorem same_of_now {kd:TypeDesc} {kk:KeyK} (hkk:keyKind kk kd) {u:Value}:∀ {l:List MapEntry} (i j:Nat) (val:Value),Instr.findNow kd u l i = some (some (j,val))→∃ e,l[j - i]? = some e∧i ≤ j∧Instr.sameNow kd u e.key = some true
 | [],i,j,val,hn=>by simp [Instr.findNow] at hn
 | e :: l,i,j,val,hn=>by
  simp only [Instr.findNow] at hn
  split at hn
  ·rename_i hs
   simp only [Option.some.injEq,Prod.mk.injEq] at hn
   obtain ⟨rfl,_⟩:=hn
   exact ⟨e,by simp,Nat.le_refl _,hs⟩
  ·obtain ⟨e',q1,q2,q3⟩:=same_of_now hkk (i + 1) j val hn
   refine ⟨e',?_,by omega,q3⟩
   rw [show j - i = (j - (i + 1)) + 1 by omega]
   simpa using q1
  ·cases hn
theorem bits_of_same {kd:TypeDesc} {u v:Value} (hs:Instr.sameNow kd u v = some true) (n:Nat):Instr.sameBits n v u = true:=by
 unfold Instr.sameNow at hs
 split at hs
 ·rename_i k a k' b
  split at hs
  ·rename_i hk
   simp only [Option.some.injEq,beq_iff_eq] at hs
   subst hk hs
   simp [Instr.sameBits]
  ·cases hs
 ·rename_i a b
  simp only [Option.some.injEq] at hs
  rw [beq_toListBytes] at hs
  simp only [beq_iff_eq] at hs
  have:(b == a) = true:=by rw [beq_toListBytes,hs]; simp
  simpa [Instr.sameBits] using this
 ·simp only [Option.some.injEq,beq_iff_eq] at hs
  subst hs
  simp [Instr.sameBits]
 ·cases hs
theorem sim_mapUpdate (I:Inv T E G h w) (hF:RepL T G w F.t a.tmps.toList) {o:Oper} {t kt e:TypeId} {kd:TypeDesc} {kk:KeyK} {m k x:Operand} {sm sk sx:SOpd} (ho:o.op = .mapUpdate t m k x) (hu:T.P.underlying t = some (.map kt e)) (hkt:T.P.underlying kt = some kd) (hkd:keyKind kk kd)
  (hm:cOpd T m = some sm) (hk:cOpd T k = some sk) (hx:cOpd T x = some sx) {v:AV} {h':AHeap} (he:ev1 E F h (.mapUpdate kk sm sk sx) = some (v,h')):Done T E G w v h' (execOp a.eval o):=by
 have hmr:=opd_rep I hF hm
 have hkr:=opd_rep I hF hk
 have hxr:=opd_rep I hF hx
 have hch:∀ b,(Instr.checkKey b 10000 kt (a.eval k)).run T.P w = .ok () w:=fun b=>run_checkKey hkt hkd b _ 9999 w
 simp only [ev1] at he
 split at he
 ·rename_i b e1
  rw [e1] at hmr
  simp only [RepV] at hmr
  obtain ⟨r,hr,hme⟩:=hmr
  split at he
  ·rename_i es hb
   split at he
   ·cases he
   ·rename_i y hy
    split at hy
    case isFalse=>cases hy
    rename_i hfit
    split at he
    ·rename_i hro
     cases he
     obtain ⟨l,ck,h1,h2⟩:=I.blk b _ r hb hr
     have hlt:=heap_lt h1
     have hfind:=findNow_of hkd hkr hfit 0 hy h2
     have put:∀ (o':Obj),(∀ c e fz,o' ≠ .cells c e fz)→(setObj r o').run T.P w = .ok () (w.putObj r o'):=by
      intro o' _
      simp [setObj,Sem.run,h1,World.putObj]
     rcases hfind with ⟨q1,q2,_⟩ | ⟨v',j,e',q1,_,q3,q4,q5⟩
     ·subst q1
      have hrf:(Instr.findKey kt (a.eval k) l.toList).run T.P w = .ok none w:=by simp [Instr.findKey,run_underlying hkt,q2,Result.andThen]
      obtain ⟨hX,hI⟩:=I.put (i:=b) (b:=.map (setKeyA (opd E F sk) (opd E F sx) es)) (r:=r) (.map (l.push { key:=a.eval k,val:=a.eval x,born:=ck }) (ck + 1)) (List.getElem?_eq_some_iff.1 hb).1 (fun q=>by rw [hb] at q; cases q) hro hr
       (fun c e' fz hc=>by rw [h1] at hc; cases hc)
       (fun L hc=>by rw [h1] at hc; cases hc)
       (fun K=>⟨_,_,World.putObj_heap_same hlt,by
        have:=setKey_new (ck:=ck) hkr hxr hy h2
        simpa using RepE.mono K _ _ this⟩)
      refine ⟨undef,_,_,.inr ⟨?_,rfl⟩,hX,hI,by simp only [RepV]⟩
      simp [execOp,ho,Instr.mapUpdate,run_underlying hu,hme,run_getObj_of h1 (by simp),hch,hrf,put,Result.andThen]
     ·have hrf:(Instr.findKey kt (a.eval k) l.toList).run T.P w = .ok (some (j,e'.val)) w:=by simp [Instr.findKey,run_underlying hkt,q3,Result.andThen]
      obtain ⟨_,hset⟩:=setKey_old hkd hkr hxr hfit 0 j e'.val hy h2 q3
      obtain ⟨e2,s1,_,s3⟩:=same_of_now hkd 0 j e'.val q3
      have hkey:(l[j]?.map (·.key)).getD (a.eval k) = e2.key:=by
       have:l[j]? = some e2:=by simpa using s1
       rw [this]; rfl
      have hkst:(Instr.keyThatStays e2.key (a.eval k)).run T.P w = .ok (a.eval k) w:=by
       unfold Instr.keyThatStays
       rw [if_pos (bits_of_same s3 10000)]
       rfl
      obtain ⟨hX,hI⟩:=I.put (i:=b) (b:=.map (setKeyA (opd E F sk) (opd E F sx) es)) (r:=r) (.map (l.modify j fun e=>{ e with key:=a.eval k,val:=a.eval x }) ck) (List.getElem?_eq_some_iff.1 hb).1 (fun q=>by rw [hb] at q; cases q) hro hr
       (fun c e' fz hc=>by rw [h1] at hc; cases hc)
       (fun L hc=>by rw [h1] at hc; cases hc)
       (fun K=>⟨_,_,World.putObj_heap_same hlt,by
        have:=RepE.mono K _ _ hset
        simpa using this⟩)
      refine ⟨undef,_,_,.inr ⟨?_,rfl⟩,hX,hI,by simp only [RepV]⟩
      simp [execOp,ho,Instr.mapUpdate,run_underlying hu,hme,run_getObj_of h1 (by simp),hch,hrf,hkey,hkst,put,Result.andThen]
    ·cases he
  ·cases he
 ·cases he
theorem sim_typeAssert (I:Inv T E G h w) (hF:RepL T G w F.t a.tmps.toList) {o:Oper} {xt t:TypeId} {u:Nat} {ok:Bool} {z:AV} {x:Operand} {sx:SOpd} (ho:o.op = .typeAssert x xt t ok) {d:TypeDesc} (hd:T.P.underlying t = some d) (hni:∀ ms,d ≠ .interface ms) (hu:tOf T t = some u) (hz:zeroT T t = some z)
  (hx:cOpd T x = some sx) {v:AV} {h':AHeap} (he:ev1 E F h (.typeAssert u z ok sx) = some (v,h')):Done T E G w v h' (execOp a.eval o):=by
 have hxr:=opd_rep I hF hx
 obtain ⟨zv,hz1,hz2⟩:=run_zeroT hz
 simp only [ev1] at he
 split at he
 ·rename_i e1
  split at he
  ·rename_i hok
   subst hok
   cases he
   rw [e1] at hxr
   simp only [RepV] at hxr
   refine Done.same I (.tuple #[zv,.bool false]) ?_ (by simp only [RepV,RepL]; exact ⟨_,rfl,_,_,rfl,hz2 G w,_,_,rfl,rfl,rfl⟩)
   cases d <;> first
    | exact absurd rfl (hni _)
    | simp [execOp,ho,Instr.typeAssert,run_underlying hd,hxr,hz1,Result.andThen]
  ·cases he
 ·rename_i t' x' e1
  split at he
  ·rename_i htt
   subst htt
   cases he
   rw [e1] at hxr
   simp only [RepV] at hxr
   obtain ⟨y,hxe,hy⟩:=hxr
   rw [tOf_eq hu] at hxe
   refine Done.same I (if ok then .tuple #[y,.bool true] else y) ?_ ?_
   ·cases d <;> first
     | exact absurd rfl (hni _)
     | simp [execOp,ho,Instr.typeAssert,run_underlying hd,hxe,Result.andThen]
   ·cases ok with
    | true=>simp only [RepV,if_true,RepL]; exact ⟨_,rfl,_,_,rfl,hy,_,_,rfl,rfl,rfl⟩
    | false=>simp only [Bool.false_eq_true,if_false]; exact hy
  ·cases he
 ·cases he
end Go.Pv
/- The model's append does what the evaluator's does. Conditions: none; lemmas. -/
namespace Go.Pv
open Go.RowKit
variable {T:Tie} {E:Env} {G:Ghost} {h:AHeap} {w:World} {F:Fr} {a:Act}
theorem Inv.moveTok {k N:Nat} (I:Inv T E G h w) (c:Array Value) (e:TypeId) (n:Nat) (hn:n ≤ c.size) (hk:h.toks[k]? = some N) (hN:N < n) (hrk:h.rot ≤ k):
  Ext G w { G with vals:=fun b=>if b = w.heap.size then some n else G.vals b,tau:=fun k' i=>if k' = k∧i = n then some w.heap.size else G.tau k' i } (w.alloc (.cells c e)) ∧
  Inv T E { G with vals:=fun b=>if b = w.heap.size then some n else G.vals b,tau:=fun k' i=>if k' = k∧i = n then some w.heap.size else G.tau k' i } { h with toks:=h.toks.set k n } (w.alloc (.cells c e)):=by
 have hkl:k < h.toks.length:=(List.getElem?_eq_some_iff.1 hk).1
 have hold:∀ i b,G.tau k i = some b→i ≠ n:=fun i b hb=>by have:=I.tmax k i b N hb hk; omega
 have hX:Ext G w { G with vals:=fun b=>if b = w.heap.size then some n else G.vals b,tau:=fun k' i=>if k' = k∧i = n then some w.heap.size else G.tau k' i } (w.alloc (.cells c e)):={
  mu:=⟨[],by simp⟩
  mulate:=by simp
  ro:=rfl
  rot:=rfl
  size:=by simp
  vlt:=I.vlt
  vals:=fun b m hb=>⟨m,by have:=I.vlt b m hb; simp only []; rw [if_neg (by omega)]; exact hb,Nat.le_refl _⟩
  valsfix:=fun b m hb _=>by have:=I.vlt b m hb; simp only []; rw [if_neg (by omega)]; exact hb
  valsfresh:=fun b m hb=>by
   try simp only [] at hb
   by_cases hbe:b = w.heap.size
   ·exact .inr (by omega)
   ·rw [if_neg hbe] at hb; exact .inl ⟨m,hb⟩
  cells:=fun b m hb i _=>cell_of_heap (alloc_lt (I.vlt b m hb)) i
  tau:=fun k' i b hb=>by
   simp only []
   rw [if_neg (fun hh:k' = k∧i = n=>hold i b (hh.1 ▸ hb) hh.2)]
   exact hb
  taufresh:=fun k' i b hb=>by
   try simp only [] at hb
   split at hb
   ·cases hb; exact .inr (Nat.le_refl _)
   ·exact .inl ⟨i,hb⟩
  taufix:=fun k' i b hk' hb=>by
   try simp only [] at hb
   rw [if_neg (fun hh=>by have:=I.rot; have:=hh.1; omega)] at hb
   exact hb
  frame:=fun b hb _ _=>alloc_lt hb
  shape:=fun b c e fz hb=>⟨c,fz,by rw [alloc_lt (heap_lt hb)]; exact hb,rfl⟩
  loops:=fun b L hb=>⟨L,by rw [alloc_lt (heap_lt hb)]; exact hb⟩
  os:=rfl
  tape:=rfl
  output:=rfl }
 have hK:=hX.keep
 refine ⟨hX,?_⟩
 exact {
  len:=I.len
  inj:=I.inj
  lt:=fun r hr=>by have:=I.lt r hr; simp; omega
  blk:=fun j b' r' hj hr'=>RepB.mono hK (alloc_lt (I.lt r' (List.mem_of_getElem? hr'))) (I.blk j b' r' hj hr')
  vlt:=fun b m hb=>by
   try simp only [] at hb
   simp only [World.size_alloc]
   by_cases hbe:b = w.heap.size
   ·omega
   ·rw [if_neg hbe] at hb; have:=I.vlt b m hb; omega
  vmu:=fun b m hb hm=>by
   try simp only [] at hb
   by_cases hbe:b = w.heap.size
   ·have:=I.lt b hm; omega
   ·rw [if_neg hbe] at hb; exact I.vmu b m hb hm
  vcell:=fun b m hb=>by
   try simp only [] at hb
   by_cases hbe:b = w.heap.size
   ·subst hbe
    simp only [if_true] at hb
    cases hb
    exact ⟨c,e,(0,0),alloc_at _ _,hn⟩
   ·rw [if_neg hbe] at hb
    obtain ⟨c',e',fz,h1,h2⟩:=I.vcell b m hb
    exact ⟨c',e',fz,by rw [alloc_lt (I.vlt b m hb)]; exact h1,h2⟩
  tlt:=fun k' i b hb=>by
   try simp only [] at hb
   split at hb
   ·rename_i hh
    cases hb
    exact ⟨by simp,fun hm=>by have:=I.lt _ hm; omega,by simp [hh.1,hkl]⟩
   ·obtain ⟨h1,h2,h3⟩:=I.tlt k' i b hb
    exact ⟨by simp; omega,h2,by simpa using h3⟩
  tok:=fun k' i hk0=>by
   have hk':(h.toks.set k n)[k']? = some i:=hk0
   clear hk0
   rw [List.getElem?_set] at hk'
   split at hk'
   ·rename_i hkk
    subst hkk
    cases hk'
    exact ⟨w.heap.size,c,e,(0,0),by simp,alloc_at _ _,hn,by simp,fun i _ _=>frozen_new w c e i⟩
   ·rename_i hkk
    obtain ⟨b,c',e',fz,h1,h2,h3,h4,h5⟩:=I.tok k' i hk'
    have hlt:=heap_lt h2
    have hl:=alloc_lt (o:=.cells c e) hlt
    exact ⟨b,c',e',fz,by simp only []; rw [if_neg (fun hh=>hkk hh.1.symm)]; exact h1,by rw [hl]; exact h2,h3,by simp only []; rw [if_neg (by omega)]; exact h4,fun i a b'=>(frozen_of_heap hl i).trans (h5 i a b')⟩
  tmax:=fun k' i b N' hb hN0=>by
   try simp only [] at hb
   have hN':(h.toks.set k n)[k']? = some N':=hN0
   clear hN0
   rw [List.getElem?_set] at hN'
   split at hN'
   ·rename_i hkk
    subst hkk
    cases hN'
    split at hb
    ·rename_i hh; omega
    ·have:=I.tmax k i b N hb hk; omega
   ·rename_i hkk
    rw [if_neg (fun hh=>hkk hh.1.symm)] at hb
    exact I.tmax k' i b N' hb hN'
  tdisj:=fun k1 i b k2 i' hb hb'=>by
   try simp only [] at hb hb'
   split at hb <;> split at hb'
   ·rename_i q1 q2; rw [q1.1,q2.1]
   ·cases hb; have:=(I.tlt k2 i' _ hb').1; omega
   ·cases hb'; have:=(I.tlt k1 i _ hb).1; omega
   ·exact I.tdisj k1 i b k2 i' hb hb'
  glob:=fun g cs hg=>GlobOk.mono hK (I.glob g cs hg)
  ro:=I.ro
  rot:=I.rot
  rle:=I.rle
  rtle:=by simpa using I.rtle }
theorem Inv.growTok {k N r:Nat} {c c':Array Value} {e:TypeId} {fz:Nat × Nat} (I:Inv T E G h w) (n:Nat) (hk:h.toks[k]? = some N) (hN:N < n) (hr:G.tau k N = some r) (hc:w.heap[r]? = some (.cells c e fz)) (hcs:c'.size = c.size) (hn:n ≤ c.size)
  (hsame:∀ i,i < N→c'[i]? = c[i]?) (hrk:h.rot ≤ k):
  Ext G w { G with vals:=fun b=>if b = r then some n else G.vals b,tau:=fun k' i=>if k' = k∧i = n then some r else G.tau k' i } (w.putObj r (.cells c' e fz)) ∧
  Inv T E { G with vals:=fun b=>if b = r then some n else G.vals b,tau:=fun k' i=>if k' = k∧i = n then some r else G.tau k' i } { h with toks:=h.toks.set k n } (w.putObj r (.cells c' e fz)):=by
 have hkl:k < h.toks.length:=(List.getElem?_eq_some_iff.1 hk).1
 have hold:∀ i b,G.tau k i = some b→i ≠ n:=fun i b hb=>by have:=I.tmax k i b N hb hk; omega
 obtain ⟨hrlt,hrmu,_⟩:=I.tlt k N r hr
 have hsameO:(w.putObj r (.cells c' e fz)).heap[r]? = some (.cells c' e fz):=World.putObj_heap_same hrlt
 have hoth:∀ j,j ≠ r→(w.putObj r (.cells c' e fz)).heap[j]? = w.heap[j]?:=fun j hj=>World.putObj_heap_other hj
 have hsize:(w.putObj r (.cells c' e fz)).heap.size = w.heap.size:=by simp [World.putObj]
 have hval:G.vals r = some N:=by
  obtain ⟨b,c0,e0,fz0,h1,h2,h3,h4,h5⟩:=I.tok k N hk
  rw [hr] at h1
  cases h1
  exact h4
 have hX:Ext G w { G with vals:=fun b=>if b = r then some n else G.vals b,tau:=fun k' i=>if k' = k∧i = n then some r else G.tau k' i } (w.putObj r (.cells c' e fz)):={
  mu:=⟨[],by simp⟩
  mulate:=by simp
  ro:=rfl
  rot:=rfl
  size:=by rw [hsize]; exact Nat.le_refl _
  vlt:=I.vlt
  vals:=fun b m hb=>by
   simp only []
   by_cases hbr:b = r
   ·subst hbr
    rw [hval] at hb
    cases hb
    exact ⟨n,by simp,by omega⟩
   ·exact ⟨m,by rw [if_neg hbr]; exact hb,Nat.le_refl _⟩
  valsfix:=fun b m hb ht=>by
   simp only []
   rw [if_neg (fun hh=>ht k N (by rw [I.rot]; exact hrk) (by rw [hr,hh]))]
   exact hb
  valsfresh:=fun b m hb=>by
   try simp only [] at hb
   by_cases hbr:b = r
   ·exact .inl ⟨N,by rw [hbr]; exact hval⟩
   ·rw [if_neg hbr] at hb; exact .inl ⟨m,hb⟩
  cells:=fun b m hb i hi=>by
   by_cases hbr:b = r
   ·subst hbr
    rw [hval] at hb
    cases hb
    simp only [World.cell?,hsameO,hc]
    simpa using hsame i hi
   ·exact cell_of_heap (hoth b hbr) i
  tau:=fun k' i b hb=>by
   simp only []
   rw [if_neg (fun hh:k' = k∧i = n=>hold i b (hh.1 ▸ hb) hh.2)]
   exact hb
  taufresh:=fun k' i b hb=>by
   try simp only [] at hb
   split at hb
   ·rename_i hh
    cases hb; exact .inl ⟨N,by rw [hh.1]; exact hr⟩
   ·exact .inl ⟨i,hb⟩
  taufix:=fun k' i b hk' hb=>by
   try simp only [] at hb
   rw [if_neg (fun hh=>by have:=I.rot; have:=hh.1; omega)] at hb
   exact hb
  frame:=fun b _ _ ht=>hoth b (fun hh=>ht k N (by rw [I.rot]; exact hrk) (by rw [hr,hh]))
  shape:=fun b c1 e1 fz1 hb=>by
   by_cases hbr:b = r
   ·subst hbr
    rw [hc] at hb
    cases hb
    exact ⟨c',fz,hsameO,hcs⟩
   ·exact ⟨c1,fz1,by rw [hoth b hbr]; exact hb,rfl⟩
  loops:=fun b L hb=>by
   by_cases hbr:b = r
   ·subst hbr
    rw [hc] at hb
    cases hb
   ·exact ⟨L,by rw [hoth b hbr]; exact hb⟩
  os:=rfl
  tape:=rfl
  output:=rfl }
 have hK:=hX.keep
 refine ⟨hX,?_⟩
 exact {
  len:=I.len
  inj:=I.inj
  lt:=fun r hr=>by rw [hsize]; exact I.lt r hr
  blk:=fun j b' r' hj hr'=>RepB.mono hK (hoth r' (fun hh=>hrmu (hh ▸ List.mem_of_getElem? hr'))) (I.blk j b' r' hj hr')
  vlt:=fun b m hb=>by
   try simp only [] at hb
   rw [hsize]
   by_cases hbr:b = r
   ·rw [hbr]; exact hrlt
   ·rw [if_neg hbr] at hb; exact I.vlt b m hb
  vmu:=fun b m hb hm=>by
   try simp only [] at hb
   by_cases hbr:b = r
   ·exact hrmu (hbr ▸ hm)
   ·rw [if_neg hbr] at hb; exact I.vmu b m hb hm
  vcell:=fun b m hb=>by
   try simp only [] at hb
   by_cases hbr:b = r
   ·subst hbr
    simp only [if_true] at hb
    cases hb
    exact ⟨c',e,fz,hsameO,by omega⟩
   ·rw [if_neg hbr] at hb
    obtain ⟨c1,e1,fz1,h1,h2⟩:=I.vcell b m hb
    exact ⟨c1,e1,fz1,by rw [hoth b hbr]; exact h1,h2⟩
  tlt:=fun k' i b hb=>by
   try simp only [] at hb
   split at hb
   ·rename_i hh
    cases hb
    exact ⟨by rw [hsize]; exact hrlt,hrmu,by simp [hh.1,hkl]⟩
   ·obtain ⟨h1,h2,h3⟩:=I.tlt k' i b hb
    exact ⟨by rw [hsize]; exact h1,h2,by simpa using h3⟩
  tok:=fun k' i hk0=>by
   have hk':(h.toks.set k n)[k']? = some i:=hk0
   clear hk0
   rw [List.getElem?_set] at hk'
   split at hk'
   ·rename_i hkk
    subst hkk
    cases hk'
    obtain ⟨b,c0,e0,fz0,h1,h2,h3,h4,h5⟩:=I.tok k N hk
    rw [hr] at h1
    cases h1
    rw [hc] at h2
    cases h2
    refine ⟨r,c',e,fz,by simp,hsameO,by omega,by simp,fun i hi1 hi2=>?_⟩
    have:=h5 i (by omega) (by omega)
    simp only [World.frozen?,hc] at this
    simp only [World.frozen?,hsameO]
    exact this
   ·rename_i hkk
    obtain ⟨b,c1,e1,fz1,h1,h2,h3,h4,h5⟩:=I.tok k' i hk'
    have hbr:b ≠ r:=fun hh=>hkk (I.tdisj k N r k' i hr (hh ▸ h1))
    exact ⟨b,c1,e1,fz1,by simp only []; rw [if_neg (fun hh=>hkk hh.1.symm)]; exact h1,by rw [hoth b hbr]; exact h2,h3,by simp only []; rw [if_neg hbr]; exact h4,fun i a b'=>(frozen_of_heap (hoth b hbr) i).trans (h5 i a b')⟩
  tmax:=fun k' i b N' hb hN0=>by
   try simp only [] at hb
   have hN':(h.toks.set k n)[k']? = some N':=hN0
   clear hN0
   rw [List.getElem?_set] at hN'
   split at hN'
   ·rename_i hkk
    subst hkk
    cases hN'
    split at hb
    ·rename_i hh; omega
    ·have:=I.tmax k i b N hb hk; omega
   ·rename_i hkk
    rw [if_neg (fun hh=>hkk hh.1.symm)] at hb
    exact I.tmax k' i b N' hb hN'
  tdisj:=fun k1 i b k2 i' hb hb'=>by
   try simp only [] at hb hb'
   split at hb <;> split at hb'
   ·rename_i q1 q2; rw [q1.1,q2.1]
   ·rename_i q1 _; cases hb; rw [q1.1]; exact I.tdisj k N _ k2 i' hr hb'
   ·rename_i _ q2; cases hb'; rw [q2.1]; exact I.tdisj k1 i _ k N hb hr
   ·exact I.tdisj k1 i b k2 i' hb hb'
  glob:=fun g cs hg=>GlobOk.mono hK (I.glob g cs hg)
  ro:=I.ro
  rot:=I.rot
  rle:=I.rle
  rtle:=by simpa using I.rtle }
theorem Inv.kill (I:Inv T E G h w) (b:Nat):Inv T E G (h.setBlk b .dead) w where
 len:=by simpa [AHeap.setBlk] using I.len
 inj:=fun i j r h1 h2 h3 h4=>by
  simp only [AHeap.setBlk,List.getElem?_set] at h3 h4
  have q:∀ k,((if b = k then if b < h.blks.length then some ABlk.dead else none else h.blks[k]?) ≠ some .dead)→k < G.mu.length→h.blks[k]? ≠ some .dead:=by
   intro k hk hl
   by_cases e:b = k
   ·rw [if_pos e,if_pos (by rw [← I.len]; omega)] at hk
    exact absurd rfl hk
   ·rw [if_neg e] at hk
    exact hk
  exact I.inj i j r h1 h2 (q i h3 (List.getElem?_eq_some_iff.1 h1).1) (q j h4 (List.getElem?_eq_some_iff.1 h2).1)
 lt:=I.lt
 blk:=fun i x r hx hr=>by
  simp only [AHeap.setBlk,List.getElem?_set] at hx
  split at hx
  ·split at hx
   ·cases hx; trivial
   ·cases hx
  ·exact I.blk i x r hx hr
 vlt:=I.vlt
 vmu:=I.vmu
 vcell:=I.vcell
 tlt:=I.tlt
 tok:=I.tok
 tmax:=I.tmax
 tdisj:=I.tdisj
 glob:=I.glob
 ro:=I.ro
 rot:=I.rot
 rle:=by simpa [AHeap.setBlk] using I.rle
 rtle:=I.rtle
theorem Inv.alias (I:Inv T E G h w) {b r:Nat} {cs:List AV} (hr:G.mu[b]? = some r) (hro:h.ro ≤ b) (hd:∀ j:Nat,G.mu[j]? = some r→h.blks[j]? = some ABlk.dead) (hb:RepB T G w (.cells cs) r):
  Ext G w { G with mu:=G.mu++[r] } w∧Inv T E { G with mu:=G.mu++[r] } (h.push (.cells cs)) w:=by
 have hmem:r ∈ G.mu:=List.mem_of_getElem? hr
 have hX:Ext G w { G with mu:=G.mu++[r] } w:={
  mu:=⟨_,rfl⟩
  mulate:=fun q hq=>by
   simp only [List.drop_left,List.mem_singleton] at hq
   subst hq
   refine .inr ?_
   rw [I.ro]
   exact List.mem_of_getElem? (i:=b - h.ro) (by rw [List.getElem?_drop,show h.ro + (b - h.ro) = b by omega]; exact hr)
  ro:=rfl
  rot:=rfl
  size:=Nat.le_refl _
  vlt:=I.vlt
  vals:=fun b m h=>⟨m,h,Nat.le_refl _⟩
  valsfix:=fun b m h _=>h
  valsfresh:=fun b m h=>.inl ⟨m,h⟩
  cells:=fun _ _ _ _ _=>rfl
  tau:=fun _ _ _ h=>h
  taufresh:=fun k n b h=>.inl ⟨n,h⟩
  taufix:=fun k n b _ h=>h
  frame:=fun _ _ _ _=>rfl
  shape:=fun b c e fz hb=>⟨c,fz,hb,rfl⟩
  loops:=fun b L hb=>⟨L,hb⟩
  os:=rfl
  tape:=rfl
  output:=rfl }
 have hK:=hX.keep
 have hnm:∀ q,q ∉ G.mu→q ∉ G.mu++[r]:=fun q hq hc=>by
  rcases List.mem_append.1 hc with hc | hc
  ·exact hq hc
  ·simp only [List.mem_singleton] at hc
   subst hc
   exact hq hmem
 refine ⟨hX,?_⟩
 exact {
  len:=by simp [AHeap.push,I.len]
  inj:=fun i j q h1 h2 h3 h4=>by
   have cut:∀ k,(G.mu++[r])[k]? = some q→(k < G.mu.length∧G.mu[k]? = some q)∨(k = G.mu.length∧q = r):=by
    intro k hk
    by_cases hkl:k < G.mu.length
    ·rw [List.getElem?_append_left hkl] at hk
     exact .inl ⟨hkl,hk⟩
    ·rw [List.getElem?_append_right (by omega)] at hk
     have:=(List.getElem?_eq_some_iff.1 hk).1
     simp at this
     have e:k = G.mu.length:=by omega
     subst e
     simp at hk
     exact .inr ⟨rfl,hk.symm⟩
   simp only [AHeap.push] at h3 h4
   rcases cut i h1 with ⟨hi,q1⟩ | ⟨hi,q1⟩ <;> rcases cut j h2 with ⟨hj,q2⟩ | ⟨hj,q2⟩
   ·rw [List.getElem?_append_left (by rw [← I.len]; exact hi)] at h3
    rw [List.getElem?_append_left (by rw [← I.len]; exact hj)] at h4
    exact I.inj i j q q1 q2 h3 h4
   ·subst q2
    rw [List.getElem?_append_left (by rw [← I.len]; exact hi)] at h3
    exact absurd (hd i q1) h3
   ·subst q1
    rw [List.getElem?_append_left (by rw [← I.len]; exact hj)] at h4
    exact absurd (hd j q2) h4
   ·omega
  lt:=fun q hq=>by
   rcases List.mem_append.1 hq with hq | hq
   ·exact I.lt q hq
   ·simp only [List.mem_singleton] at hq
    subst hq
    exact I.lt _ hmem
  blk:=fun j x q hj hq=>by
   simp only [AHeap.push] at hj
   by_cases hjl:j < h.blks.length
   ·rw [List.getElem?_append_left hjl] at hj
    rw [List.getElem?_append_left (by rw [I.len]; exact hjl)] at hq
    exact RepB.mono hK rfl (I.blk j x q hj hq)
   ·have hje:j = h.blks.length:=by
     have:=(List.getElem?_eq_some_iff.1 hj).1
     simp at this
     omega
    subst hje
    rw [← I.len] at hq
    simp at hj hq
    subst hj
    subst hq
    exact RepB.mono hK rfl hb
  vlt:=I.vlt
  vmu:=fun b m hb=>hnm b (I.vmu b m hb)
  vcell:=I.vcell
  tlt:=fun k n b hb=>⟨(I.tlt k n b hb).1,hnm b (I.tlt k n b hb).2.1,(I.tlt k n b hb).2.2⟩
  tok:=I.tok
  tmax:=I.tmax
  tdisj:=I.tdisj
  glob:=fun g cs hg=>GlobOk.mono hK (I.glob g cs hg)
  ro:=I.ro
  rot:=I.rot
  rle:=by have:=I.rle; simp [AHeap.push]; omega
  rtle:=I.rtle }
theorem setVL_eq:∀ (vs:List Value) (off:Nat) (l:List Value),off + vs.length ≤ l.length→setVL off vs l = l.take off++(vs++l.drop (off + vs.length))
 | [],off,l,_=>by simp [setVL]
 | v :: vs,off,l,hl=>by
  simp only [List.length_cons] at hl
  simp only [setVL]
  rw [setVL_eq vs (off + 1) (l.set off v) (by simp; omega)]
  have h1:(l.set off v).take (off + 1) = l.take off++[v]:=by
   rw [List.take_add_one,List.take_set_of_le (Nat.le_refl _),List.getElem?_set_self (by omega)]
   rfl
  have h2:(l.set off v).drop (off + 1 + vs.length) = l.drop (off + (vs.length + 1)):=by
   rw [List.drop_set_of_lt (by omega)]
   congr 1
   omega
  rw [h1,h2]
  simp
theorem run_lenOf (_I:Inv T E G h w) {size len:Nat} {v:AV} {u:Value} {cs:List AV} (hs:sliceCells h size v = some (len,cs)) (hv:RepV T G w v u) (w':World):(Builtin.lenOf u).run T.P w' = .ok len w':=by
 unfold sliceCells at hs
 split at hs
 ·split at hs
  ·cases hs
   simp only [RepV] at hv
   obtain ⟨ad,cap,rfl,_⟩:=hv
   simp [Builtin.lenOf]
  ·cases hs
 ·split at hs
  ·split at hs
   ·cases hs
    simp only [RepV] at hv
    obtain ⟨r,cap,_,rfl,_⟩:=hv
    simp [Builtin.lenOf]
   ·cases hs
  ·cases hs
 ·split at hs
  ·split at hs
   ·cases hs
    simp only [RepV] at hv
    obtain ⟨r,cap,_,_,_,_,rfl,_⟩:=hv
    simp [Builtin.lenOf]
   ·cases hs
  ·cases hs
 ·cases hs
  simp only [RepV] at hv
  subst hv
  simp [Builtin.lenOf]
 ·split at hs
  ·cases hs
   simp only [RepV] at hv
   subst hv
   simp [Builtin.lenOf,ByteArray.size]
  ·cases hs
 ·cases hs
theorem run_firstCells (I:Inv T E G h w) {size len:Nat} {v:AV} {u:Value} {cs:List AV} (hs:sliceCells h size v = some (len,cs)) (hv:RepV T G w v u):
  ∃ l,RepL T G w cs l∧l.length = len * size∧∀ w':World,w'.heap = w.heap→(Builtin.firstCells size len u).run T.P w' = .ok l.toArray w':=by
 obtain ⟨hlen,hcase⟩:=sliceCells_rep I hs hv
 rcases hcase with ⟨ad,cap,l,rfl,hl,hnone,hsome⟩ | ⟨s,rfl,hsz,hln,hcs⟩
 ·have hll:=hl.length
  refine ⟨l,hl,by omega,fun w' hw'=>?_⟩
  cases ad with
  | none=>
   have:=hnone rfl
   subst this
   simp [Builtin.firstCells]
  | some ad'=>
   obtain ⟨r,off,q1,q2⟩:=hsome ad' rfl
   by_cases hne:l = []
   ·subst hne
    have h0:len * size = 0:=by simp at hll; omega
    simp [Builtin.firstCells,h0,loadCells,loadCellsFrom]
   ·have:=q1 hne
    subst this
    simp only [Builtin.firstCells]
    rw [show len * size = l.length by omega]
    exact run_loadCells T.P w' r off l fun j v hj=>by
     have:=q2 j v hj
     simpa [World.cell?,hw'] using this
 ·subst hsz
  subst hcs
  refine ⟨s.map fun c=>Value.int .u8 c.toNat,?_,by simp [hln],fun w' _=>?_⟩
  ·refine RepL.of_get (by simp) fun i x hx=>?_
   simp only [List.getElem?_map,Option.map_eq_some_iff] at hx ⊢
   obtain ⟨c,h1,rfl⟩:=hx
   exact ⟨_,⟨c,h1,rfl⟩,by simp only [RepV]⟩
  ·simp only [Builtin.firstCells,bytes_extract,Sem.run_pure]
   congr 1
   apply Array.ext'
   simp [hln]
section
variable {t u e:TypeId} {d:TypeDesc} {i:TypeInfo} {z:Value} {ty:TypeId}
theorem append_same (ht:T.P.underlying t = some (.slice e)) (hu:T.P.underlying u = some d) (hd:(∃ e',d = .slice e')∨d = .string) (hi:T.P.info? e = some i) {base:Option Addr} {sLen sCap:Nat} (hle:sLen ≤ sCap) {x:Value} (hx:(Builtin.lenOf x).run T.P w = .ok 0 w) (hf:(Builtin.firstCells i.size 0 x).run T.P w = .ok #[] w):
  (Builtin.append_ #[t,u] ty #[.slice base sLen sCap,x]).run T.P w = .ok (.slice base sLen sCap) w:=by
 rcases hd with ⟨e',rfl⟩ | rfl <;>
  (cases base <;> simp [Builtin.append_,run_underlying ht,run_underlying hu,sizeOf,typeInfo,hi,hx,hf,hle,storeCells,Result.andThen])
theorem append_room (ht:T.P.underlying t = some (.slice e)) (hu:T.P.underlying u = some d) (hd:(∃ e',d = .slice e')∨d = .string) (hi:T.P.info? e = some i) {r sLen sCap m:Nat} (hle:sLen + m ≤ sCap) {x:Value} (hx:(Builtin.lenOf x).run T.P w = .ok m w) {l:List Value} (hf:(Builtin.firstCells i.size m x).run T.P w = .ok l.toArray w)
  {w':World} (hst:(storeCells ⟨r,sLen * i.size,none⟩ l).run T.P w = .ok () w'):
  (Builtin.append_ #[t,u] ty #[.slice (some ⟨r,0,none⟩) sLen sCap,x]).run T.P w = .ok (.slice (some ⟨r,0,none⟩) (sLen + m) sCap) w':=by
 have hadd:(⟨r,0,none⟩:Addr).add (sLen * i.size) = ⟨r,sLen * i.size,none⟩:=by rw [add_at]; simp
 rcases hd with ⟨e',rfl⟩ | rfl <;>
  simp [Builtin.append_,run_underlying ht,run_underlying hu,sizeOf,typeInfo,hi,hx,hf,hle,hadd,hst,Result.andThen]
theorem append_grow (ht:T.P.underlying t = some (.slice e)) (hu:T.P.underlying u = some d) (hd:(∃ e',d = .slice e')∨d = .string) (hi:T.P.info? e = some i) (hz:i.zero = some z) {base:Option Addr} {sLen sCap m:Nat} (hg:sCap < sLen + m) (hb:(sLen + m) * i.bytes ≤ 140737488355328) (hby:0 < i.bytes) {x:Value} (hx:(Builtin.lenOf x).run T.P w = .ok m w)
  {l0 l:List Value} (hf0:(Builtin.firstCells i.size sLen (.slice base sLen sCap)).run T.P w.drew = .ok l0.toArray w.drew) (hf:(Builtin.firstCells i.size m x).run T.P w.drew = .ok l.toArray w.drew):
  (Builtin.append_ #[t,u] ty #[.slice base sLen sCap,x]).run T.P w =
   .ok (.slice (some ⟨w.heap.size,0,none⟩) (sLen + m) (grownCap w (sLen + m) sCap e)) (w.drew.alloc (.cells (l0.toArray++(l.toArray++Builtin.zeroCells z.cells (grownCap w (sLen + m) sCap e - (sLen + m)))) e)):=by
 have hn:¬ (sLen + m ≤ sCap):=by omega
 have h63':¬ (9223372036854775807 < ((sLen:Int) + (m:Int))):=by
  have:sLen + m ≤ (sLen + m) * i.bytes:=Nat.le_mul_of_pos_right _ hby
  omega
 have h48':¬ (281474976710656 < Builtin.nextslicecap (sLen + m) sCap * i.bytes):=by
  have:=growslice_fits hg hb
  omega
 rcases hd with ⟨e',rfl⟩ | rfl <;>
  simp [Builtin.append_,run_underlying ht,run_underlying hu,sizeOf,typeInfo,zeroValue,hi,hz,hx,hn,h63',h48',Question.forced,hf,hf0,newRow,grownCap,Result.andThen]
end
end Go.Pv
/- Each operation without a call does what the evaluator's does. Conditions: none; lemmas. -/
namespace Go.Pv
open Go.RowKit
variable {T:Tie} {E:Env} {G:Ghost} {h:AHeap} {w:World} {F:Fr} {a:Act}
theorem vs_sliceCells {own:Own} {len size:Nat} {cs:List AV} (hc:cs.length = len * size):sliceCells h size (.vs own len cs) = some (len,cs):=by
 simp [sliceCells,hc]
theorem size_zero (z:Array Value) (n:Nat):(Builtin.zeroCells z n).size = n * z.size:=by simp [Builtin.zeroCells]
theorem sim_append_run (I:Inv T E G h w) {t u e:TypeId} {d:TypeDesc} {n b:Nat} {z:List AV} (ht:T.P.underlying t = some (.slice e)) (hu:T.P.underlying u = some d) (hd:(∃ e',d = .slice e')∨d = .string) (hn:szT T e = some n) (hb:byT T e = some b) (hz:zeroCs T e = some z) (hc:0 < n∧0 < b∧z.length = n)
  {s x:AV} {us ux:Value} (hs:RepV T G w s us) (hx:RepV T G w x ux) {v:AV} {h':AHeap} (he:appendA n b h s x = some (v,h')) (ty:TypeId):
  ∃ rv w' G',(Builtin.append_ #[t,u] ty #[us,ux]).run T.P w = .ok rv w'∧Ext G w G' w'∧Inv T E G' h' w'∧RepV T G' w' v rv:=by
 obtain ⟨i,hi,hisz⟩:=info_of_szT hn
 have hib:i.bytes = b:=by
  unfold byT at hb
  rw [hi] at hb
  cases hb
  rfl
 obtain ⟨zv,hzv,hzs⟩:∃ zv,i.zero = some zv∧zv.cells.size = n:=by
  unfold zeroCs at hz
  cases hzt:zeroT T e with
  | none=>rw [hzt] at hz; cases hz
  | some q=>
   rw [hzt] at hz
   obtain ⟨i',x',q1,q2,q3⟩:=zeroT_info hzt
   rw [hi] at q1
   cases q1
   have:=cells_rep (avAgg_rep q3 G w) hz (T:=T)
   have hl:=this.length
   exact ⟨x',q2,by rw [← Array.length_toList,hl]; exact hc.2.2⟩
 subst hisz
 unfold appendA at he
 split at he
 ·rename_i own len cs m xs hsc
  split at he
  ·rename_i hcond
   obtain ⟨hc1,hc2,hc3,hc4⟩:=hcond
   obtain ⟨lx,hlx,hlxl,hfx⟩:=run_firstCells I hsc hx
   have hlen:=run_lenOf I hsc hx w
   obtain ⟨ls,hls,hlsl,hfs⟩:=run_firstCells I (vs_sliceCells (own:=own) hc1) hs
   have hs':=hs
   simp only [RepV] at hs'
   obtain ⟨ad,cap,rfl,hcap,hfull,hnone,htok,hmem,hzero⟩:=hs'
   have hxl:xs.length = m * i.size:=by rw [← hlxl,hlx.length]
   split at he
   ·rename_i hm0
    cases he
    subst hm0
    have hf0:=hfx w rfl
    have:lx = []:=List.eq_nil_of_length_eq_zero (by simpa using hlxl)
    subst this
    exact ⟨_,w,G,append_same ht hu hd hi hcap hlen (by simpa using hf0),Ext.refl I.vlt,I,hs⟩
   ·rename_i hm0
    have hmpos:0 < m * i.size:=Nat.mul_pos (by omega) hc3
    have hbytes:(len + m) * i.bytes ≤ 140737488355328:=by rw [hib]; exact hc2
    have hgrowsz:∀ capN,len + m ≤ capN→(ls.toArray++(lx.toArray++Builtin.zeroCells zv.cells (capN - (len + m)))).size = capN * i.size:=by
     intro capN hle
     simp only [Array.size_append,List.size_toArray,size_zero,hzs,hlsl,hlxl]
     rw [← Nat.add_assoc,← Nat.add_mul,← Nat.add_mul]
     congr 1
     omega
    have hmemnew:∀ (capN:Nat) (j:Nat) (y:Value),(ls++lx)[j]? = some y→(ls.toArray++(lx.toArray++Builtin.zeroCells zv.cells (capN - (len + m))))[j]? = some y:=by
     intro capN j y hj
     have hlt:=(List.getElem?_eq_some_iff.1 hj).1
     have:(ls.toArray++(lx.toArray++Builtin.zeroCells zv.cells (capN - (len + m)))).toList = (ls++lx)++(Builtin.zeroCells zv.cells (capN - (len + m))).toList:=by simp
     rw [← Array.getElem?_toList,this,List.getElem?_append_left hlt]
     exact hj
    have happ:RepL T G w (cs++xs) (ls++lx):=hls.append hlx
    split at he
    ·cases he
    ·cases he
     have hcl:=hfull rfl
     subst hcl
     obtain ⟨hX1,hI1⟩:=I.drew
     have hg:=append_grow (ty:=ty) (base:=ad) ht hu hd hi hzv (sLen:=cap) (sCap:=cap) (m:=m) (by omega) hbytes (by rw [hib]; exact hc.2.1) hlen (hfs w.drew rfl) (hfx w.drew rfl)
     have hge:=grownCap_ge w (cap + m) cap e
     have hsz:=hgrowsz (grownCap w (cap + m) cap e) hge
     have hle:cs.length + xs.length ≤ (ls.toArray++(lx.toArray++Builtin.zeroCells zv.cells (grownCap w (cap + m) cap e - (cap + m)))).size:=by
      rw [hsz,hc1,hxl,← Nat.add_mul]
      exact Nat.mul_le_mul_right _ hge
     obtain ⟨hX2,hI2⟩:=hI1.newTok _ e (cs.length + xs.length) hle
     refine ⟨_,_,_,hg,hX1.trans hX2,hI2,?_⟩
     simp only [RepV]
     refine ⟨_,_,rfl,hge,(fun hh=>by cases hh),(fun hh=>by cases hh),?_,fun _=>⟨w.heap.size,0,cs.length + xs.length,rfl,by simp,by simp,?_⟩,fun h0=>by omega⟩
     ·intro k sz hk
      cases hk
      refine ⟨by simp only [List.length_append]; rw [hc1,hxl,Nat.add_mul],w.heap.size,_,e,(0,0),rfl,by simp,alloc_at _ _,by rw [hsz]; exact Nat.le_refl _⟩
     ·refine RepM.of_list (RepL.mono (hX1.trans hX2).keep _ _ happ) fun j y hj=>?_
      rw [Nat.zero_add]
      have:=cell_new w.drew (ls.toArray++(lx.toArray++Builtin.zeroCells zv.cells (grownCap w (cap + m) cap e - (cap + m)))) e j
      simp only [World.size_drew] at this
      rw [this]
      exact hmemnew _ j y hj
    ·rename_i k sz
     split at he
     ·rename_i hk
      obtain ⟨hk1,hk2,hk3⟩:=hk
      subst hk1
      cases he
      obtain ⟨_,r,c,e0,fz,had,htau,hheap,hcsz⟩:=htok k _ rfl
      subst had
      have hN:cs.length < cs.length + xs.length:=by omega
      by_cases hroom:len + m ≤ cap
      ·obtain ⟨b0,c0,e1,fz1,t1,t2,t3,t4,t5⟩:=I.tok k cs.length hk2
       rw [htau] at t1
       cases t1
       rw [hheap] at t2
       cases t2
       have hfit:cs.length + xs.length ≤ c.size:=by
        rw [hc1,hxl,← Nat.add_mul]
        exact Nat.le_trans (Nat.mul_le_mul_right _ hroom) hcsz
       have hlxl':lx.length = xs.length:=hlx.length
       have hst:=run_storeCells T.P r (len * i.size) e0 fz lx 0 w c hheap (by rw [Nat.add_zero,← hc1,hlxl']; exact hfit) (fun j hj1 hj2=>t5 j (by omega) (by omega)) (allCell_rep hlx hc4)
       rw [Nat.add_zero] at hst
       have hg:=append_room (ty:=ty) ht hu hd hi hroom hlen (hfx w rfl) hst
       have hsame:∀ i',i' < cs.length→(⟨setVL (len * i.size) lx c.toList⟩:Array Value)[i']? = c[i']?:=by
        have hset:∀ (vs:List Value) (off:Nat) (l:List Value) (q:Nat),q < off→(setVL off vs l)[q]? = l[q]?:=by
         intro vs
         induction vs with
         | nil=>intro off l q _; rfl
         | cons y vs ih=>
          intro off l q hq
          simp only [setVL]
          rw [ih (off + 1) _ q (by omega),List.getElem?_set_ne (by omega)]
        intro i' hi'
        have:=hset lx (len * i.size) c.toList i' (by omega)
        simpa using this
       have hnew:∀ (vs:List Value) (off:Nat) (l:List Value) (q:Nat) (y:Value),off + vs.length ≤ l.length→vs[q]? = some y→(setVL off vs l)[off + q]? = some y:=by
        intro vs
        induction vs with
        | nil=>intro off l q y _ hq; simp at hq
        | cons y0 vs ih=>
         intro off l q y hl hq
         simp only [setVL]
         simp only [List.length_cons] at hl
         cases q with
         | zero=>
          simp at hq
          subst hq
          have hset:∀ (vs:List Value) (off:Nat) (l:List Value) (q:Nat),q < off→(setVL off vs l)[q]? = l[q]?:=by
           intro vs
           induction vs with
           | nil=>intro off l q _; rfl
           | cons y vs ih=>
            intro off l q hq
            simp only [setVL]
            rw [ih (off + 1) _ q (by omega),List.getElem?_set_ne (by omega)]
          rw [Nat.add_zero]
          have hq0:=hset vs (off + 1) (l.set off y0) off (by omega)
          exact hq0.trans (List.getElem?_set_self (by omega))
         | succ q=>
          have:=ih (off + 1) (l.set off y0) q y (by simp; omega) (by simpa using hq)
          rwa [show off + 1 + q = off + (q + 1) by omega] at this
       obtain ⟨hX2,hI2⟩:=I.growTok (c':=⟨setVL (len * i.size) lx c.toList⟩) (cs.length + xs.length) hk2 hN htau hheap (by simp [setVL_length]) hfit hsame hk3
       refine ⟨_,_,_,hg,hX2,hI2,?_⟩
       simp only [RepV]
       refine ⟨_,_,rfl,hroom,(fun hh=>by cases hh),(fun hh=>by cases hh),?_,fun _=>⟨r,0,cs.length + xs.length,rfl,by simp,by simp,?_⟩,fun h0=>by omega⟩
       ·intro k' sz' hk'
        cases hk'
        refine ⟨by simp only [List.length_append]; rw [hc1,hxl,Nat.add_mul],r,_,e0,fz,rfl,by simp,World.putObj_heap_same (heap_lt hheap),by simpa [setVL_length] using hcsz⟩
       ·obtain ⟨r',off',m',a1,a2,a3,a4⟩:∃ r' off' m',(some ⟨r,0,none⟩:Option Addr) = some ⟨r',off',none⟩∧G.vals r' = some m'∧off' + cs.length ≤ m'∧RepM T G w r' off' cs:=by
         by_cases hne:cs = []
         ·subst hne
          exact ⟨r,0,0,rfl,by simpa using t4,by simp,by simp only [RepM]⟩
         ·exact hmem hne
        cases a1
        refine RepM.append (RepM.mono hX2.keep r m' a2 0 cs a3 a4) ?_
        refine RepM.of_list (RepL.mono hX2.keep _ _ hlx) fun j y hj=>?_
        simp only [World.cell?,World.putObj_heap_same (heap_lt hheap)]
        have:=hnew lx (len * i.size) c.toList j y (by rw [← hc1,hlxl']; simpa using hfit) hj
        rw [Nat.zero_add,hc1]
        simpa using this
      ·obtain ⟨hX1,hI1⟩:=I.drew
       have hg:=append_grow (ty:=ty) (base:=some ⟨r,0,none⟩) ht hu hd hi hzv (sLen:=len) (sCap:=cap) (m:=m) (by omega) hbytes (by rw [hib]; exact hc.2.1) hlen (hfs w.drew rfl) (hfx w.drew rfl)
       have hge:=grownCap_ge w (len + m) cap e
       have hsz:=hgrowsz (grownCap w (len + m) cap e) hge
       have hle:cs.length + xs.length ≤ (ls.toArray++(lx.toArray++Builtin.zeroCells zv.cells (grownCap w (len + m) cap e - (len + m)))).size:=by
        rw [hsz,hc1,hxl,← Nat.add_mul]
        exact Nat.mul_le_mul_right _ hge
       obtain ⟨hX2,hI2⟩:=hI1.moveTok _ e (cs.length + xs.length) hle hk2 hN hk3
       refine ⟨_,_,_,hg,hX1.trans hX2,hI2,?_⟩
       simp only [RepV]
       refine ⟨_,_,rfl,hge,(fun hh=>by cases hh),(fun hh=>by cases hh),?_,fun _=>⟨w.heap.size,0,cs.length + xs.length,rfl,by simp,by simp,?_⟩,fun h0=>by omega⟩
       ·intro k' sz' hk'
        cases hk'
        refine ⟨by simp only [List.length_append]; rw [hc1,hxl,Nat.add_mul],w.heap.size,_,e,(0,0),rfl,by simp,alloc_at _ _,by rw [hsz]; exact Nat.le_refl _⟩
       ·refine RepM.of_list (RepL.mono (hX1.trans hX2).keep _ _ happ) fun j y hj=>?_
        rw [Nat.zero_add]
        have:=cell_new w.drew (ls.toArray++(lx.toArray++Builtin.zeroCells zv.cells (grownCap w (len + m) cap e - (len + m)))) e j
        simp only [World.size_drew] at this
        rw [this]
        exact hmemnew _ j y hj
     ·cases he
  ·cases he
 ·cases he
theorem sim_appendR_run (I:Inv T E G h w) {t u e:TypeId} {d:TypeDesc} {n b:Nat} {z:List AV} (ht:T.P.underlying t = some (.slice e)) (hu:T.P.underlying u = some d) (hd:(∃ e',d = .slice e')∨d = .string) (hn:szT T e = some n) (hb:byT T e = some b) (hz:zeroCs T e = some z) (hc:0 < n∧0 < b∧z.length = n)
  {s x:AV} {us ux:Value} (hs:RepV T G w s us) (hx:RepV T G w x ux) {v:AV} {h':AHeap} (he:appendR n b h s x = some (v,h')) (ty:TypeId):
  ∃ rv w' G',(Builtin.append_ #[t,u] ty #[us,ux]).run T.P w = .ok rv w'∧Ext G w G' w'∧Inv T E G' h' w'∧RepV T G' w' v rv:=by
 obtain ⟨i,hi,hisz⟩:=info_of_szT hn
 have hib:i.bytes = b:=by
  unfold byT at hb
  rw [hi] at hb
  cases hb
  rfl
 obtain ⟨zv,hzv,hzs⟩:∃ zv,i.zero = some zv∧zv.cells.size = n:=by
  unfold zeroCs at hz
  cases hzt:zeroT T e with
  | none=>rw [hzt] at hz; cases hz
  | some q=>
   rw [hzt] at hz
   obtain ⟨i',x',q1,q2,q3⟩:=zeroT_info hzt
   rw [hi] at q1
   cases q1
   have:=cells_rep (avAgg_rep q3 G w) hz (T:=T)
   have hl:=this.length
   exact ⟨x',q2,by rw [← Array.length_toList,hl]; exact hc.2.2⟩
 subst hisz
 unfold appendR at he
 split at he
 ·cases he
 ·rename_i m xs hsc
  split at he
  ·rename_i hcond
   obtain ⟨hc3,hm,hc4⟩:=hcond
   obtain ⟨lx,hlx,hlxl,hfx⟩:=run_firstCells I hsc hx
   have hlen:=run_lenOf I hsc hx w
   have hxl:xs.length = m * i.size:=by rw [← hlxl,hlx.length]
   have fresh:∀ (h0:AHeap) (len cap:Nat) (base:Option Addr) (ls:List Value) (cs:List AV),Inv T E G h0 w→us = .slice base len cap→cap < len + m→RepL T G w cs ls→ls.length = len * i.size→(∀ w':World,w'.heap = w.heap→(Builtin.firstCells i.size len us).run T.P w' = .ok ls.toArray w')→(len + m) * i.bytes ≤ 140737488355328 →
     ∃ rv w' G',(Builtin.append_ #[t,u] ty #[us,ux]).run T.P w = .ok rv w'∧Ext G w G' w'∧Inv T E G' (h0.push (.cells (cs++xs))) w'∧RepV T G' w' (.row h0.blks.length i.size (len + m)) rv:=by
    intro h0 len cap base ls cs I0 hus hcap hls hlsl hfs hbytes
    subst hus
    obtain ⟨hX1,hI1⟩:=I0.drew
    have hg:=append_grow (ty:=ty) (base:=base) ht hu hd hi hzv (sLen:=len) (sCap:=cap) (m:=m) hcap hbytes (by rw [hib]; exact hc.2.1) hlen (hfs w.drew rfl) (hfx w.drew rfl)
    have hge:=grownCap_ge w (len + m) cap e
    have hsz:(ls.toArray++(lx.toArray++Builtin.zeroCells zv.cells (grownCap w (len + m) cap e - (len + m)))).size = grownCap w (len + m) cap e * i.size:=by
     simp only [Array.size_append,List.size_toArray,size_zero,hzs,hlsl,hlxl]
     rw [← Nat.add_assoc,← Nat.add_mul,← Nat.add_mul]
     congr 1
     omega
    generalize Builtin.zeroCells zv.cells (grownCap w (len + m) cap e - (len + m)) = Z at *
    have harr:ls.toArray++(lx.toArray++Z) = ⟨(ls++lx)++Z.toList⟩:=by
     apply Array.ext'
     simp
    rw [harr] at hg hsz
    obtain ⟨hX2,hI2⟩:=hI1.push (.cells (cs++xs)) (.cells ⟨(ls++lx)++Z.toList⟩ e)
     (fun K=>⟨ls++lx,Z.toList,e,(0,0),alloc_at _ _,fun j _=>frozen_new _ _ e j,RepL.mono K _ _ (RepL.mono hX1.keep _ _ (hls.append hlx))⟩)
    refine ⟨_,_,_,hg,hX1.trans hX2,hI2,?_⟩
    simp only [RepV]
    refine ⟨w.heap.size,_,_,e,(0,0),?_,rfl,hge,by omega,alloc_at _ _,by rw [hsz]; exact Nat.le_refl _⟩
    rw [← I0.len,List.getElem?_append_right (Nat.le_refl _)]
    simp
   split at he
   ·split at he
    ·rename_i hby
     cases he
     simp only [RepV] at hs
     have hq:=fresh h 0 0 none [] [] I hs (by omega) (by simp only [RepL]) (by simp) (fun w' _=>by rw [hs]; simp [Builtin.firstCells]) (by rw [hib,Nat.zero_add]; exact hby)
     rw [Nat.zero_add] at hq
     exact hq
    ·cases he
   ·rename_i bk sz len
    split at he
    ·rename_i cs hbk
     split at he
     ·rename_i hcc
      obtain ⟨hro,hsz,hle,hby⟩:=hcc
      subst hsz
      cases he
      have hss:sliceCells h i.size (.row bk i.size len) = some (len,cs.take (len * i.size)):=by
       simp [sliceCells,hbk,hle]
      obtain ⟨ls,hls,hlsl,hfs⟩:=run_firstCells I hss hs
      have hs':=hs
      simp only [RepV] at hs'
      obtain ⟨r,cap,c0,e0,fz0,hmu,rfl,hlc,hpos,hh0,hcs0⟩:=hs'
      have hbytes:(len + m) * i.bytes ≤ 140737488355328:=by rw [hib]; exact hby
      by_cases hroom:len + m ≤ cap
      ·obtain ⟨l,tail,e1,fz,h1,h2,h3⟩:=I.blk bk _ r hbk hmu
       rw [hh0] at h1
       cases h1
       have hll:=h3.length
       have hfit:(len + m) * i.size ≤ l.length + tail.length:=by
        have q1:(len + m) * i.size ≤ cap * i.size:=Nat.mul_le_mul_right _ hroom
        simp at hcs0
        omega
       rw [Nat.add_mul] at hfit
       have hlxl':lx.length = m * i.size:=hlxl
       have hst:=run_storeCells T.P r (len * i.size) e0 fz0 lx 0 w ⟨l++tail⟩ hh0 (by simp; omega) (fun j _ hj=>h2 j (by omega)) (allCell_rep hlx hc4)
       rw [Nat.add_zero] at hst
       have hg:=append_room (ty:=ty) ht hu hd hi hroom hlen (hfx w rfl) hst
       have hset:setVL (len * i.size) lx (l++tail) = (l.take (len * i.size)++lx)++(l++tail).drop (len * i.size + lx.length):=by
        rw [setVL_eq _ _ _ (by simp; omega),List.take_append_of_le_length (by omega),List.append_assoc]
       obtain ⟨X1,I1⟩:=I.put (i:=bk) (b:=.cells (cs.take (len * i.size)++xs)) (r:=r) (.cells ⟨setVL (len * i.size) lx (l++tail)⟩ e0 fz0) (List.getElem?_eq_some_iff.1 hbk).1 (fun q=>by rw [hbk] at q; cases q) hro hmu
        (fun c e' fz' hq=>by rw [hh0] at hq; cases hq; exact ⟨_,_,rfl,by simp [setVL_length]⟩)
        (fun L hq=>by rw [hh0] at hq; cases hq)
        (fun K=>⟨l.take (len * i.size)++lx,(l++tail).drop (len * i.size + lx.length),e0,fz0,by rw [← hset]; exact World.putObj_heap_same (heap_lt hh0),fun j hj=>by
          have:=h2 j (by simp at hj; omega)
          simp only [World.frozen?,hh0] at this
          simp only [World.frozen?,World.putObj_heap_same (heap_lt hh0)]
          exact this,RepL.append (RepL.mono K _ _ (h3.take _)) (RepL.mono K _ _ hlx)⟩)
       have hblen:bk < h.blks.length:=(List.getElem?_eq_some_iff.1 hbk).1
       have hrep:=I1.blk bk (.cells (cs.take (len * i.size)++xs)) r (by simp [AHeap.setBlk,hblen]) hmu
       have hdd:∀ j:Nat,G.mu[j]? = some r→((h.setBlk bk (.cells (cs.take (len * i.size)++xs))).setBlk bk .dead).blks[j]? = some ABlk.dead:=by
        intro j hj
        by_cases hjb:bk = j
        ·subst hjb
         simp [AHeap.setBlk,hblen]
        ·by_cases hdj:h.blks[j]? = some .dead
         ·simp [AHeap.setBlk,hjb,hdj]
         ·exact absurd (I.inj bk j r hmu hj (fun q=>by rw [hbk] at q; cases q) hdj) hjb
       obtain ⟨X2,I2⟩:=(I1.kill bk).alias (b:=bk) hmu (by simpa [AHeap.setBlk] using hro) hdd hrep
       have hee:(h.setBlk bk (.cells (cs.take (len * i.size)++xs))).setBlk bk .dead = h.setBlk bk .dead:=by simp [AHeap.setBlk]
       rw [hee] at I2
       refine ⟨_,_,_,hg,X1.trans X2,I2,?_⟩
       simp only [RepV]
       refine ⟨r,cap,_,e0,fz0,?_,rfl,hroom,hpos,World.putObj_heap_same (heap_lt hh0),by simpa [setVL_length] using hcs0⟩
       rw [← I.len,List.getElem?_append_right (Nat.le_refl _)]
       simp
      ·have hq:=fresh (h.setBlk bk .dead) len cap (some ⟨r,0,none⟩) ls (cs.take (len * i.size)) (I.kill bk) rfl (by omega) hls hlsl hfs hbytes
       have hbl:(h.setBlk bk .dead).blks.length = h.blks.length:=by simp [AHeap.setBlk]
       rw [hbl] at hq
       exact hq
     ·cases he
    ·cases he
   ·cases he
  ·cases he
theorem sim_append (I:Inv T E G h w) (hF:RepL T G w F.t a.tmps.toList) {o:Oper} {c:Call} {t u e:TypeId} {d:TypeDesc} {n b:Nat} {z:List AV} {s x:Operand} {ss sx:SOpd} (ho:o.op = .call c) (hcal:c.callee = .builtin .append) (hargs:c.args.toList = [s,x]) (htys:c.argTypes.toList = [t,u])
  (ht:T.P.underlying t = some (.slice e)) (hu:T.P.underlying u = some d) (hd:(∃ e',d = .slice e')∨d = .string) (hn:szT T e = some n) (hb:byT T e = some b) (hz:zeroCs T e = some z) (hc:0 < n∧0 < b∧z.length = n)
  (hs:cOpd T s = some ss) (hx:cOpd T x = some sx) {v:AV} {h':AHeap} (he:ev1 E F h (.append n b ss sx) = some (v,h')):Done T E G w v h' (execOp a.eval o):=by
 simp only [ev1] at he
 obtain ⟨rv,w',G',q1,q2,q3,q4⟩:=sim_append_run I ht hu hd hn hb hz hc (den_rep (opd_rep I hF hs)) (opd_rep I hF hx) he o.type
 have ha0:c.args = #[s,x]:=by rw [← Array.toArray_toList (xs:=c.args),hargs]
 have ht0:c.argTypes = #[t,u]:=by rw [← Array.toArray_toList (xs:=c.argTypes),htys]
 exact ⟨rv,w',G',.inl (by simp [execOp,ho,resolve,hcal,invoke,builtin,ha0,ht0,q1,Result.andThen]),q2,q3,q4⟩
theorem sim_appendRow (I:Inv T E G h w) (hF:RepL T G w F.t a.tmps.toList) {o:Oper} {c:Call} {t u e:TypeId} {d:TypeDesc} {n b:Nat} {z:List AV} {s x:Operand} {ss sx:SOpd} (ho:o.op = .call c) (hcal:c.callee = .builtin .append) (hargs:c.args.toList = [s,x]) (htys:c.argTypes.toList = [t,u])
  (ht:T.P.underlying t = some (.slice e)) (hu:T.P.underlying u = some d) (hd:(∃ e',d = .slice e')∨d = .string) (hn:szT T e = some n) (hb:byT T e = some b) (hz:zeroCs T e = some z) (hc:0 < n∧0 < b∧z.length = n)
  (hs:cOpd T s = some ss) (hx:cOpd T x = some sx) {v:AV} {h':AHeap} (he:ev1 E F h (.appendRow n b ss sx) = some (v,h')):Done T E G w v h' (execOp a.eval o):=by
 simp only [ev1] at he
 obtain ⟨rv,w',G',q1,q2,q3,q4⟩:=sim_appendR_run I ht hu hd hn hb hz hc (opd_rep I hF hs) (opd_rep I hF hx) he o.type
 have ha0:c.args = #[s,x]:=by rw [← Array.toArray_toList (xs:=c.args),hargs]
 have ht0:c.argTypes = #[t,u]:=by rw [← Array.toArray_toList (xs:=c.argTypes),htys]
 exact ⟨rv,w',G',.inl (by simp [execOp,ho,resolve,hcal,invoke,builtin,ha0,ht0,q1,Result.andThen]),q2,q3,q4⟩
theorem freeze_put {w:World} {r:Nat} {c:Array Value} {e:TypeId} {fz:Nat × Nat} (hr:w.heap[r]? = some (.cells c e fz)) (off n:Nat) (hn:n ≠ 0):w.freeze ⟨r,off,none⟩ n = w.putObj r (.cells c e (if fz.1 == fz.2 then (off,off + n) else (min fz.1 off,max fz.2 (off + n)))):=by
 have hlt:=heap_lt hr
 have hget:=(Array.getElem?_eq_some_iff.1 hr).2
 simp only [World.freeze,if_neg hn,World.putObj]
 congr 1
 apply Array.ext
 ·simp
 ·intro i h1 h2
  have h3:i < w.heap.size:=by simpa using h1
  rw [Array.getElem_modify,Array.getElem_setIfInBounds h3]
  by_cases hi:r = i
  ·subst hi
   simp [hget]
  ·simp [hi]
theorem sim_conv_toBytes (I:Inv T E G h w) (hF:RepL T G w F.t a.tmps.toList) {o:Oper} {src dst e:TypeId} {x:Operand} {sx:SOpd} (ho:o.op = .convert src dst x) (hs:T.P.underlying src = some .string) (hd:T.P.underlying dst = some (.slice e)) (he8:T.P.underlying e = some (.int .u8)) (hx:cOpd T x = some sx) {v:AV} {h':AHeap}
  (he:ev1 E F h (.conv .toBytes sx) = some (v,h')):Done T E G w v h' (execOp a.eval o):=by
 have hxr:=opd_rep I hF hx
 simp only [ev1] at he
 split at he
 ·rename_i s e1
  split at he
  ·rename_i hle
   cases he
   rw [e1] at hxr
   simp only [RepV] at hxr
   have hsz:=str_size s
   have hcapge:=grownCap_ge w s.length 0 e
   obtain ⟨cap,hcap⟩:∃ cap,grownCap w s.length 0 e = cap:=⟨_,rfl⟩
   rw [hcap] at hcapge
   obtain ⟨c,hc⟩:∃ c:Array Value,(⟨s.map (fun b=>Value.int .u8 b.toNat)++List.replicate (cap - s.length) (.int .u8 0)⟩:Array Value) = c:=⟨_,rfl⟩
   have hcs:c.size = cap:=by rw [← hc]; simp; omega
   obtain ⟨hX1,hI1⟩:=I.drew
   have hrl:RepL T G w (s.map fun c=>.int .u8 c.toNat) (s.map fun b=>Value.int .u8 b.toNat):=RepL.of_get (by simp) fun i y hy=>by
    simp only [List.getElem?_map,Option.map_eq_some_iff] at hy ⊢
    obtain ⟨b,q1,rfl⟩:=hy
    exact ⟨_,⟨b,q1,rfl⟩,by simp only [RepV]⟩
   have hbase:(w.drew.alloc (.cells c e)).heap[w.heap.size]? = some (.cells c e):=alloc_at w.drew _
   obtain ⟨hX2,hI2⟩:=hI1.push (.cells (s.map fun c=>.int .u8 c.toNat)) (.cells c e) fun K=>
    ⟨s.map (fun b=>Value.int .u8 b.toNat),List.replicate (cap - s.length) (.int .u8 0),e,(0,0),by rw [hc]; exact alloc_at w.drew _,fun i _=>frozen_new w.drew c e i,RepL.mono (hX1.keep) _ _ hrl |> RepL.mono K _ _⟩
   have hmu:(G.mu++[w.drew.heap.size])[h.blks.length]? = some w.heap.size:=by
    rw [← I.len,List.getElem?_append_right (Nat.le_refl _)]; simp
   obtain ⟨hX3,hI3⟩:=hI2.put (i:=h.blks.length) (b:=.cells (s.map fun c=>.int .u8 c.toNat)) (r:=w.heap.size) (.cells c e (cap,cap + 1)) (by simp [AHeap.push]) (by simp [AHeap.push]) I.rle hmu
    (fun c' e' fz' hq=>by rw [hbase] at hq; cases hq; exact ⟨_,_,rfl,rfl⟩)
    (fun L hq=>by rw [hbase] at hq; cases hq)
    (fun K=>⟨s.map (fun b=>Value.int .u8 b.toNat),List.replicate (cap - s.length) (.int .u8 0),e,(cap,cap + 1),by rw [hc]; exact World.putObj_heap_same (heap_lt hbase),fun i hi=>by
      simp only [World.frozen?,World.putObj_heap_same (heap_lt hbase)]
      simp at hi
      simp
      omega,RepL.mono (hX1.trans hX2).keep _ _ hrl |> RepL.mono K _ _⟩)
   have hfz:=freeze_put hbase cap 1 (by omega)
   refine ⟨.slice (some ⟨w.heap.size,0,none⟩) s.length cap,_,_,.inl ?_,(hX1.trans hX2).trans hX3,?_,?_⟩
   ·have hcap':(Question.appendCap s.length 0 e).cut (w.tape w.drawn (Question.appendCap s.length 0 e)) = cap:=hcap
    have harr:(⟨s⟩:Array UInt8).map (fun b=>Value.int .u8 b.toNat)++Array.replicate (cap - s.length) (.int .u8 0) = c:=by
     rw [← hc]
     apply Array.ext'
     simp
    have harr2:(s.map (fun b=>Value.int .u8 b.toNat)).toArray++Array.replicate (cap - s.length) (.int .u8 0) = c:=by
     rw [← harr]
     simp
    have hshape:(w.drew.alloc (.cells c e)).shape? w.heap.size = some (e,c.size):=by simp only [World.shape?,hbase]
    have hrun:(Conv.stringToBytes e (ByteArray.mk ⟨s⟩)).run T.P w = .ok (.slice (some ⟨w.heap.size,0,none⟩) s.length cap) ((w.drew.alloc (.cells c e)).freeze ⟨w.heap.size,cap,none⟩ 1):=by
     unfold Conv.stringToBytes
     simp only [Sem.run_bind,choose,Sem.run,Question.forced,hsz,hcap',Result.andThen,newRow,newObj,markStringish,shape,freeze]
     simp only [Bool.false_eq_true,if_false,World.drew_eq,World.alloc_eq,World.size_drew]
     simp [Sem.run,harr2,hshape,hcs]
    simp only [execOp,ho,Sem.run_bind,hxr,convert,run_underlying hs,run_underlying hd,run_underlying he8,Result.andThen,hrun,Sem.run_pure]
    have:((0,0):Nat × Nat).1 == ((0,0):Nat × Nat).2:=rfl
    rw [hfz]
    simp
   ·have:(h.push (.cells (s.map fun c=>.int .u8 c.toNat))).setBlk h.blks.length (.cells (s.map fun c=>.int .u8 c.toNat)) = h.push (.cells (s.map fun c=>.int .u8 c.toNat)):=by
     simp [AHeap.push,AHeap.setBlk]
    rw [← this]
    exact hI3
   ·simp only [RepV]
    exact ⟨w.heap.size,cap,hmu,rfl,hcapge⟩
  ·cases he
 ·cases he
end Go.Pv
/- Each operation without a call does what the evaluator's does: all in one. Conditions: none; lemmas. -/
namespace Go.Pv
open Go.RowKit
variable {T:Tie} {R:Nat→Bool} {E:Env} {G:Ghost} {h:AHeap} {w:World} {F:Fr} {a:Act}
theorem sim_minmax (I:Inv T E G h w) (hF:RepL T G w F.t a.tmps.toList) {o:Oper} {c:Call} {x y:Operand} {sx sy:SOpd} {mx:Bool} (ho:o.op = .call c) (hcal:c.callee = .builtin (if mx then .max else .min)) (hargs:c.args.toList = [x,y])
  (hx:cOpd T x = some sx) (hy:cOpd T y = some sy) {v:AV} {h':AHeap} (he:ev1 E F h (.minmax mx sx sy) = some (v,h')):Done T E G w v h' (execOp a.eval o):=by
 have hxr:=opd_rep I hF hx
 have hyr:=opd_rep I hF hy
 have ha0:c.args = #[x,y]:=by rw [← Array.toArray_toList (xs:=c.args),hargs]
 simp only [ev1,Option.map_eq_some_iff,Prod.mk.injEq] at he
 obtain ⟨v',he,rfl,rfl⟩:=he
 unfold evMinmax at he
 split at he
 ·rename_i k p k' q e1 e2
  rw [e1] at hxr; rw [e2] at hyr
  simp only [RepV] at hxr hyr
  split at he
  ·rename_i hk
   cases he
   refine Done.same I (.int k (if mx then (if q > p then q else p) else (if q < p then q else p))) ?_ (by simp only [RepV])
   cases mx
   ·simp only [Bool.false_eq_true,if_false] at hcal ⊢
    simp [execOp,ho,resolve,hcal,invoke,builtin,ha0,hxr,hyr,Builtin.min_,Builtin.min2]
   ·simp only [if_true] at hcal ⊢
    simp [execOp,ho,resolve,hcal,invoke,builtin,ha0,hxr,hyr,Builtin.max_,Builtin.max2]
  ·cases he
 ·cases he
theorem cBuiltin_ev {b:Builtin} {c:Call} {so:SOp} (hc:cBuiltin T R b c = some so) {o:Oper} (ho:o.op = .call c) (hcal:c.callee = .builtin b) (I:Inv T E G h w) (hF:RepL T G w F.t a.tmps.toList) {v:AV} {h':AHeap} (he:ev1 E F h so = some (v,h')):Done T E G w v h' (execOp a.eval o):=by
 unfold cBuiltin at hc
 split at hc
 ·rename_i x t hx ht
  split at hc
  ·rename_i hu
   simp only [Option.map_eq_some_iff] at hc
   obtain ⟨sx,hsx,rfl⟩:=hc
   exact sim_len_str I hF ho hcal hx ht hu hsx he
  ·rename_i e hu
   simp only [Option.map_eq_some_iff] at hc
   obtain ⟨sx,hsx,rfl⟩:=hc
   exact sim_len_slc I hF ho hcal hx ht hu hsx he
  ·rename_i k e hu
   simp only [Option.map_eq_some_iff] at hc
   obtain ⟨sx,hsx,rfl⟩:=hc
   exact sim_len_map I hF ho hcal hx ht hu hsx he
  ·rename_i n e hu
   cases hc
   exact sim_lenArr I ho hcal hx ht hu he
  ·cases hc
 ·rename_i s x t u hx ht
  split at hc
  ·rename_i e e' ss sx h1 h2 h3 h4
   split at hc
   ·rename_i n b z q1 q2 q3
    split at hc
    ·rename_i hcond
     cases hc
     split at he
     ·exact sim_appendRow I hF ho hcal hx ht h1 h2 (.inl ⟨_,rfl⟩) q1 q2 q3 hcond h3 h4 he
     ·exact sim_append I hF ho hcal hx ht h1 h2 (.inl ⟨_,rfl⟩) q1 q2 q3 hcond h3 h4 he
    ·cases hc
   ·cases hc
  ·rename_i e ss sx h1 h2 h3 h4
   split at hc
   ·rename_i n b z q1 q2 q3
    split at hc
    ·rename_i hcond
     cases hc
     split at he
     ·exact sim_appendRow I hF ho hcal hx ht h1 h2 (.inr rfl) q1 q2 q3 hcond h3 h4 he
     ·exact sim_append I hF ho hcal hx ht h1 h2 (.inr rfl) q1 q2 q3 hcond h3 h4 he
    ·cases hc
   ·cases hc
  ·cases hc
 ·simp only [Option.map_eq_some_iff] at hc
  obtain ⟨sx,hsx,rfl⟩:=hc
  simp only [ev1] at he
  cases he
 ·cases hc
  simp only [ev1] at he
  cases he
 ·rename_i x y hx
  split at hc
  ·rename_i sx sy h1 h2
   cases hc
   exact sim_minmax (mx:=true) I hF ho hcal hx h1 h2 he
  ·cases hc
 ·rename_i x y hx
  split at hc
  ·rename_i sx sy h1 h2
   cases hc
   exact sim_minmax (mx:=false) I hF ho hcal hx h1 h2 he
  ·cases hc
 ·cases hc
theorem sim_ev1 (I:Inv T E G h w) (hF:RepL T G w F.t a.tmps.toList) {o:Oper} {so:SOp} (hc:cOp T R o = some so) {v:AV} {h':AHeap} (he:ev1 E F h so = some (v,h')):Done T E G w v h' (execOp a.eval o):=by
 unfold cOp at hc
 split at hc
 ·rename_i x ho
  simp only [Option.map_eq_some_iff] at hc
  obtain ⟨s,h1,rfl⟩:=hc
  exact sim_mov I hF (.inl ho) h1 he
 ·rename_i x ho
  simp only [Option.map_eq_some_iff] at hc
  obtain ⟨s,h1,rfl⟩:=hc
  exact sim_mov I hF (.inr ho) h1 he
 ·rename_i c x y ho
  split at hc
  ·rename_i h1 h2 h3
   cases hc
   exact sim_pick I hF ho h1 h2 h3 he
  ·cases hc
 ·rename_i t ho
  simp only [Option.map_eq_some_iff] at hc
  obtain ⟨s,h1,rfl⟩:=hc
  exact sim_alloc I ho h1 he
 ·rename_i t x ho
  split at hc
  ·rename_i h1 h2
   cases hc
   exact sim_box I hF ho h2 he
  ·cases hc
 ·rename_i t parts ho
  split at hc
  ·rename_i fs z h1 h2
   split at hc
   ·rename_i pl h3
    simp only [Option.map_eq_some_iff] at hc
    obtain ⟨s,h4,rfl⟩:=hc
    exact sim_build_struct I hF ho h1 h2 h3 h4 he
   ·cases hc
  ·rename_i e z h1 h2
   split at hc
   ·rename_i n h3
    simp only [Option.map_eq_some_iff] at hc
    obtain ⟨s,h4,rfl⟩:=hc
    exact sim_build_array I hF ho h1 h2 h3 h4 he
   ·cases hc
  ·cases hc
 ·rename_i t len parts ho
  split at hc
  ·rename_i e h1
   split at hc
   ·rename_i n z h2 h3
    split at hc
    ·rename_i hcond
     simp only [Option.map_eq_some_iff] at hc
     obtain ⟨s,h4,rfl⟩:=hc
     exact sim_buildSlice I hF ho h1 h3 h2 hcond h4 he
    ·cases hc
   ·cases hc
  ·cases hc
 ·rename_i t x ho
  split at hc
  ·rename_i h1 h2
   cases hc
   exact sim_load I hF ho h1 h2 he
  ·cases hc
 ·rename_i t x y ho
  split at hc
  ·rename_i h1 h2 h3
   cases hc
   exact sim_store I hF ho h1 h2 h3 he
  ·cases hc
 ·rename_i x ho
  simp only [Option.map_eq_some_iff] at hc
  obtain ⟨s,h1,rfl⟩:=hc
  exact sim_nilCheck I hF ho h1 he
 ·rename_i op t x t' ho
  split at hc
  ·rename_i h1 h2
   cases hc
   exact sim_isNil (k:=.slc) I hF ho h2 h1 ⟨_,rfl⟩ he
  ·cases hc
 ·rename_i op t x t' ho
  split at hc
  ·rename_i h1 h2
   cases hc
   exact sim_isNil (k:=.map) I hF ho h2 h1 ⟨_,_,rfl⟩ he
  ·cases hc
 ·rename_i op t x t' ho
  split at hc
  ·rename_i h1 h2
   cases hc
   exact sim_isNil (k:=.fn) I hF ho h2 h1 ⟨_,_,_,rfl⟩ he
  ·cases hc
 ·rename_i op t x y t' _ _ _ ho
  split at hc
  ·rename_i h1 h2
   cases hc
   exact sim_bin I hF ho h1 h2 he
  ·cases hc
 ·rename_i op t x ho
  simp only [Option.map_eq_some_iff] at hc
  obtain ⟨s,h1,rfl⟩:=hc
  exact sim_un I hF ho h1 he
 ·rename_i src dst x ho
  split at hc
  ·rename_i h1 h2 h3
   cases hc
   exact sim_conv_int I hF ho h1 h2 h3 he
  ·rename_i h1 h2 h3
   cases hc
   exact sim_conv_same I hF ho h1 h2 h3 he
  ·rename_i h1 h2 h3
   cases hc
   exact sim_conv_ofInt I hF ho h1 h2 h3 he
  ·rename_i h1 h2 h3
   split at hc
   ·rename_i h4
    cases hc
    exact sim_conv_toBytes I hF ho h1 h2 h4 h3 he
   ·cases hc
  ·rename_i h1 h2 h3
   split at hc
   ·rename_i h4
    cases hc
    exact sim_conv_toStr I hF ho h1 h4 h2 h3 he
   ·cases hc
  ·cases hc
 ·rename_i t x ho
  split at hc
  ·cases hc
  ·rename_i d u sx hni h1 h2 h3
   cases hc
   exact sim_mkIface I hF ho h1 hni h2 h3 he
  ·cases hc
 ·rename_i f first caps ho
  split at hc
  ·rename_i h1 h2 h3
   cases hc
   exact sim_mkFn I hF ho h1 h2 h3 he
  ·cases hc
 ·rename_i t ho
  cases hc
  exact sim_mkMap I ho he
 ·rename_i t x lo hi mx ho
  split at hc
  ·rename_i h1 h2 h3 h4 h5
   cases hc
   cases mx with
   | none=>exact sim_sliceStr I hF ho h1 h2 h3 h4 he
   | some mx=>simp [cOpt] at h5
  ·rename_i h1 h2 h3 h4 h5
   simp only [Option.map_eq_some_iff] at hc
   obtain ⟨n,h6,rfl⟩:=hc
   exact sim_sliceVs I hF ho h1 h6 h2 h3 h4 h5 he
  ·rename_i h1 h2 h3 h4 h5
   simp only [Option.map_eq_some_iff] at hc
   obtain ⟨n,h6,rfl⟩:=hc
   cases mx with
   | none=>exact sim_sliceArr I hF ho h1 h6 h2 h3 h4 he
   | some mx=>simp [cOpt] at h5
  ·cases hc
 ·rename_i t x i ho
  split at hc
  ·rename_i fs sx h1 h2
   split at hc
   ·rename_i f h3
    split at hc
    ·rename_i n h4
     split at hc
     ·rename_i h5
      cases hc
      exact sim_fieldAddr I hF ho h1 h3 h4 h5 h2 he
     ·cases hc
    ·cases hc
   ·cases hc
  ·cases hc
 ·rename_i t x i ho
  split at hc
  ·rename_i fs sx h1 h2
   split at hc
   ·rename_i f h3
    simp only [Option.map_eq_some_iff] at hc
    obtain ⟨⟨g,n⟩,h4,rfl⟩:=hc
    exact sim_field I hF ho h1 h3 h4 h2 he
   ·cases hc
  ·cases hc
 ·rename_i t x i ho
  split at hc
  ·rename_i h1 h2 h3
   simp only [Option.map_eq_some_iff] at hc
   obtain ⟨n,h4,rfl⟩:=hc
   exact sim_indexAddrVs I hF ho h1 h4 h2 h3 he
  ·rename_i h1 h2 h3
   simp only [Option.map_eq_some_iff] at hc
   obtain ⟨n,h4,rfl⟩:=hc
   exact sim_indexAddrArr I hF ho h1 h4 h2 h3 he
  ·cases hc
 ·rename_i t x i ho
  split at hc
  ·rename_i h1 h2 h3
   cases hc
   exact sim_indexStr I hF ho h1 h2 h3 he
  ·rename_i h1 h2 h3
   split at hc
   ·rename_i g n m h4 h5
    split at hc
    ·rename_i h6
     subst h6
     cases hc
     exact sim_indexArr I hF ho h1 h4 h5 h2 h3 he
    ·cases hc
   ·cases hc
  ·cases hc
 ·rename_i t m k ok ho
  split at hc
  ·rename_i kt e sm sk h1 h2 h3
   split at hc
   ·rename_i z h4 h5
    cases hc
    exact sim_lookup I hF ho h1 h4 (by simp [keyKind]) h5 h2 h3 he
   ·rename_i z ik h4 h5
    cases hc
    exact sim_lookup I hF ho h1 h4 (by simp [keyKind]) h5 h2 h3 he
   ·cases hc
  ·cases hc
 ·rename_i t m k x ho
  split at hc
  ·rename_i kt e sm sk sx h1 h2 h3 h4
   split at hc
   ·rename_i h5
    cases hc
    exact sim_mapUpdate I hF ho h1 h5 (by simp [keyKind]) h2 h3 h4 he
   ·rename_i h5
    cases hc
    exact sim_mapUpdate I hF ho h1 h5 (by simp [keyKind]) h2 h3 h4 he
   ·cases hc
  ·cases hc
 ·rename_i x i ho
  simp only [Option.map_eq_some_iff] at hc
  obtain ⟨s,h1,rfl⟩:=hc
  exact sim_extract I hF ho h1 he
 ·rename_i c ho
  split at hc
  ·rename_i b hcal
   exact cBuiltin_ev hc ho hcal I hF he
  ·simp only [Option.map_eq_some_iff] at hc
   obtain ⟨p,h1,rfl⟩:=hc
   simp only [ev1] at he
   cases he
 ·rename_i c ho
  simp only [Option.map_eq_some_iff] at hc
  obtain ⟨p,h1,rfl⟩:=hc
  simp only [ev1] at he
  cases he
 ·rename_i x ho
  simp only [Option.map_eq_some_iff] at hc
  obtain ⟨p,h1,rfl⟩:=hc
  simp only [ev1] at he
  cases he
 ·rename_i x xt t ok ho
  split at hc
  ·cases hc
  ·rename_i d u z sx hni h1 h2 h3 h4
   cases hc
   exact sim_typeAssert I hF ho h1 hni h2 h3 h4 he
  ·cases hc
 ·cases hc
end Go.Pv
/- What a frame's state says, and how it is kept: marks of loops, blocks that the evaluator does not know. Conditions: none; definitions and lemmas. -/
namespace Go.Pv
open Go.RowKit
variable {T:Tie} {E:Env} {G:Ghost} {h:AHeap} {w:World} {F:Fr} {a:Act}
def FC (r:Option Nat):Fence:={ Fence.wide with round:=r }
def RepD (T:Tie) (G:Ghost) (w:World) (lo:Nat):List (Nat × List AV)→List Deferred→Prop
 | ds,[]=>ds = []
 | ds,d :: rest=>
  (∃ r,d = { target:=.collected r,args:=#[] }∧lo ≤ r∧w.heap[r]? = some (.deferred (some []))∧r ∉ G.mu∧(∀ k n,G.tau k n ≠ some r) ∧
   (∀ d' ∈ rest,d' ≠ { target:=.collected r,args:=#[] })∧RepD T G w lo ds rest) ∨
  (∃ j as ds' l b,ds = (j,as) :: ds'∧d = { target:=.fn (.func (T.fnum j)) ⟨b⟩,args:=⟨l⟩ }∧RepL T G w as (l++b)∧RepD T G w lo ds' rest)
theorem RepD.mono {G':Ghost} {w':World} {lo:Nat} (X:Ext G w G' w'):∀ {dl:List Deferred} {ds:List (Nat × List AV)},RepD T G w lo ds dl→RepD T G' w' lo ds dl
 | [],ds,hd=>by simpa only [RepD] using hd
 | d :: rest,ds,hd=>by
  simp only [RepD] at hd ⊢
  rcases hd with ⟨r,h1,h2,h3,h4,h5,h6,h7⟩ | ⟨j,as,ds',l,b,h1,h2,h3,h4⟩
  ·have hlt:=heap_lt h3
   refine .inl ⟨r,h1,h2,(X.frame r hlt (fun hm=>h4 (List.mem_of_mem_drop hm)) (fun k n _=>h5 k n)).trans h3,fun hm=>?_,fun k n ht=>?_,h6,RepD.mono X h7⟩
   ·rcases X.mufresh r hm with q | q
    ·exact h4 q
    ·omega
   ·rcases X.taufresh k n r ht with ⟨n',q⟩ | q
    ·exact h5 k n' q
    ·omega
  ·exact .inr ⟨j,as,ds',l,b,h1,h2,RepL.mono X.keep _ _ h3,RepD.mono X h4⟩
structure St (T:Tie) (E:Env) (r:Option Nat) (lo:Nat) (G:Ghost) (h:AHeap) (w:World) (F:Fr) (a:Act):Prop where
 inv:Inv T E G h w
 tmps:RepL T G w F.t a.tmps.toList
 ds:RepD T G w lo F.ds a.defers
 low:lo ≤ w.heap.size
 rnd:F.rnd = .round ↔ r.isSome = true
 nom:F.rnd = .defd→a.defers = []
 around:∀ l,r = some l→∃ L,w.heap[l]? = some (.loop L)
theorem St.turn {r:Option Nat} {lo:Nat} (S:St T E r lo G h w F a) {G':Ghost} {h':AHeap} {w':World} (X:Ext G w G' w') (I:Inv T E G' h' w'):St T E r lo G' h' w' F a where
 inv:=I
 tmps:=RepL.mono X.keep _ _ S.tmps
 ds:=S.ds.mono X
 low:=Nat.le_trans S.low X.size
 rnd:=S.rnd
 nom:=S.nom
 around:=fun l hl=>by
  obtain ⟨L,h1⟩:=S.around l hl
  exact X.loops l L h1
theorem St.put {r:Option Nat} {lo:Nat} (S:St T E r lo G h w F a) {v:AV} {u:Value} (hv:RepV T G w v u) (d:Option Nat):St T E r lo G h w (F.put d v) (a.put d u):=by
 cases d with
 | none=>exact S
 | some d=>
  refine { inv:=S.inv,tmps:=?_,ds:=S.ds,low:=S.low,rnd:=S.rnd,nom:=S.nom,around:=S.around }
  show RepL T G w (F.t.set d v) (a.tmps.setIfInBounds d u).toList
  rw [Array.toList_setIfInBounds]
  exact RepL.set d S.tmps hv
theorem repL_mask:∀ (keep:List Bool) {as:List AV} {l:List Value},RepL T G w as l→RepL T G w (maskL keep as) l
 | [],as,l,hl=>by simpa only [maskL] using hl
 | k :: ks,[],l,hl=>by cases k <;> simpa only [maskL] using hl
 | true :: ks,v :: vs,l,hl=>by
  simp only [maskL,RepL] at hl ⊢
  obtain ⟨y,ys,rfl,h1,h2⟩:=hl
  exact ⟨y,ys,rfl,h1,repL_mask ks h2⟩
 | false :: ks,v :: vs,l,hl=>by
  simp only [maskL,RepL] at hl ⊢
  obtain ⟨y,ys,rfl,h1,h2⟩:=hl
  exact ⟨y,ys,rfl,by simp only [RepV],repL_mask ks h2⟩
theorem St.mask {r:Option Nat} {lo:Nat} (S:St T E r lo G h w F a) (keep:List Bool):St T E r lo G h w (Pv.mask keep F) a:=
 {inv:=S.inv,tmps:=repL_mask keep S.tmps,ds:=S.ds,low:=S.low,rnd:=S.rnd,nom:=S.nom,around:=S.around }
theorem Inv.otherAlloc (I:Inv T E G h w) (o:Obj):Ext G w G (w.alloc o)∧Inv T E G h (w.alloc o):=by
 have hX:Ext G w G (w.alloc o):={
  mu:=⟨[],by simp⟩,mulate:=by simp,ro:=rfl,rot:=rfl,size:=by simp,vlt:=I.vlt,vals:=fun b m h=>⟨m,h,Nat.le_refl _⟩,valsfix:=fun b m h _=>h,valsfresh:=fun b m h=>.inl ⟨m,h⟩,
  cells:=fun b m hb i _=>cell_of_heap (alloc_lt (I.vlt b m hb)) i,tau:=fun _ _ _ h=>h,taufresh:=fun k n b h=>.inl ⟨n,h⟩,taufix:=fun k n b _ h=>h,frame:=fun b hb _ _=>alloc_lt hb,
  shape:=fun b c e fz hb=>⟨c,fz,by rw [alloc_lt (heap_lt hb)]; exact hb,rfl⟩,loops:=fun b L hb=>⟨L,by rw [alloc_lt (heap_lt hb)]; exact hb⟩,os:=rfl,tape:=rfl,output:=rfl }
 have hK:=hX.keep
 exact ⟨hX,{
  len:=I.len,inj:=I.inj,lt:=fun r hr=>by have:=I.lt r hr; simp; omega
  blk:=fun j b r hj hr=>RepB.mono hK (alloc_lt (I.lt r (List.mem_of_getElem? hr))) (I.blk j b r hj hr)
  vlt:=fun b m hb=>by have:=I.vlt b m hb; simp; omega
  vmu:=I.vmu
  vcell:=fun b m hb=>by
   obtain ⟨c,e,fz,h1,h2⟩:=I.vcell b m hb
   exact ⟨c,e,fz,by rw [alloc_lt (I.vlt b m hb)]; exact h1,h2⟩
  tlt:=fun k n b hb=>by
   obtain ⟨h1,h2,h3⟩:=I.tlt k n b hb
   exact ⟨by simp; omega,h2,h3⟩
  tok:=fun k n hk=>by
   obtain ⟨b,c,e,fz,h1,h2,h3,h4,h5⟩:=I.tok k n hk
   have hl:=alloc_lt (o:=o) (heap_lt h2)
   exact ⟨b,c,e,fz,h1,by rw [hl]; exact h2,h3,h4,fun i a b'=>(frozen_of_heap hl i).trans (h5 i a b')⟩
  tmax:=I.tmax,tdisj:=I.tdisj
  glob:=fun g cs hg=>GlobOk.mono hK (I.glob g cs hg),ro:=I.ro,rot:=I.rot,rle:=I.rle,rtle:=I.rtle }⟩
theorem Inv.otherPut (I:Inv T E G h w) {r:Nat} {ds:Option (List Deferred)} (hr:w.heap[r]? = some (.deferred ds)) (hm:r ∉ G.mu) (o:Obj):Inv T E G h (w.putObj r o):=by
 have hoth:∀ k,k ≠ r→(w.putObj r o).heap[k]? = w.heap[k]?:=fun k hk=>World.putObj_heap_other hk
 have hv:∀ b m,G.vals b = some m→b ≠ r:=fun b m hb he=>by
  obtain ⟨c,e,fz,h1,_⟩:=I.vcell b m hb
  rw [he,hr] at h1
  cases h1
 have hsize:(w.putObj r o).heap.size = w.heap.size:=by simp [World.putObj]
 have hK:Keep G w G (w.putObj r o):={
  mu:=fun i r h=>h,vals:=fun b m h=>⟨m,h,Nat.le_refl _⟩,cells:=fun b m hb i _=>cell_of_heap (hoth b (hv b m hb)) i,tau:=fun _ _ _ h=>h
  shape:=fun b c e fz hb=>⟨c,fz,by rw [hoth b (fun he=>by rw [he,hr] at hb; cases hb)]; exact hb,rfl⟩ }
 exact {
  len:=I.len,inj:=I.inj,lt:=fun r hr=>by rw [hsize]; exact I.lt r hr
  blk:=fun j b r' hj hr'=>RepB.mono hK (hoth r' fun he=>hm (he ▸ List.mem_of_getElem? hr')) (I.blk j b r' hj hr')
  vlt:=fun b m hb=>by rw [hsize]; exact I.vlt b m hb
  vmu:=I.vmu
  vcell:=fun b m hb=>by
   obtain ⟨c,e,fz,h1,h2⟩:=I.vcell b m hb
   exact ⟨c,e,fz,by rw [hoth b (hv b m hb)]; exact h1,h2⟩
  tlt:=fun k n b hb=>by rw [hsize]; exact I.tlt k n b hb
  tok:=fun k n hk=>by
   obtain ⟨b,c,e,fz,h1,h2,h3,h4,h5⟩:=I.tok k n hk
   have hl:=hoth b (hv b n h4)
   exact ⟨b,c,e,fz,h1,by rw [hl]; exact h2,h3,h4,fun i a b'=>(frozen_of_heap hl i).trans (h5 i a b')⟩
  tmax:=I.tmax,tdisj:=I.tdisj
  glob:=fun g cs hg=>GlobOk.mono hK (I.glob g cs hg),ro:=I.ro,rot:=I.rot,rle:=I.rle,rtle:=I.rtle }
theorem Ext.late {G0:Ghost} {w0:World} (X:Ext G0 w0 G w) {r:Nat} (hr:w0.heap.size ≤ r) (o:Obj):Ext G0 w0 G (w.putObj r o):=by
 have hoth:∀ k,k < w0.heap.size→(w.putObj r o).heap[k]? = w.heap[k]?:=fun k hk=>World.putObj_heap_other (by omega)
 have hsize:(w.putObj r o).heap.size = w.heap.size:=by simp [World.putObj]
 exact {
  mu:=X.mu,mulate:=X.mulate,ro:=X.ro,rot:=X.rot,size:=by rw [hsize]; exact X.size,vlt:=X.vlt,vals:=X.vals,valsfix:=X.valsfix,valsfresh:=X.valsfresh
  cells:=fun b m hb i hi=>(cell_of_heap (hoth b (X.vlt b m hb)) i).trans (X.cells b m hb i hi),tau:=X.tau,taufresh:=X.taufresh,taufix:=X.taufix
  frame:=fun b hb hm ht=>(hoth b hb).trans (X.frame b hb hm ht)
  shape:=fun b c e fz hb=>by
   obtain ⟨c',fz',h1,h2⟩:=X.shape b c e fz hb
   exact ⟨c',fz',(hoth b (heap_lt hb)).trans h1,h2⟩
  loops:=fun b L hb=>by
   obtain ⟨L',h1⟩:=X.loops b L hb
   exact ⟨L',(hoth b (heap_lt hb)).trans h1⟩
  os:=X.os,tape:=X.tape,output:=X.output }
theorem RepV.otherPut {I:Inv T E G h w} {r:Nat} {ds:Option (List Deferred)} (hr:w.heap[r]? = some (.deferred ds)) (o:Obj):Keep G w G (w.putObj r o):=by
 have hoth:∀ k,k ≠ r→(w.putObj r o).heap[k]? = w.heap[k]?:=fun k hk=>World.putObj_heap_other hk
 have hv:∀ b m,G.vals b = some m→b ≠ r:=fun b m hb he=>by
  obtain ⟨c,e,fz,h1,_⟩:=I.vcell b m hb
  rw [he,hr] at h1
  cases h1
 exact {
  mu:=fun i r h=>h,vals:=fun b m h=>⟨m,h,Nat.le_refl _⟩,cells:=fun b m hb i _=>cell_of_heap (hoth b (hv b m hb)) i,tau:=fun _ _ _ h=>h
  shape:=fun b c e fz hb=>⟨c,fz,by rw [hoth b (fun he=>by rw [he,hr] at hb; cases hb)]; exact hb,rfl⟩ }
def RepX (T:Tie) (G:Ghost) (w:World):AExit→Exit→Prop
 | .normal,e=>e = .normal
 | .exit id,e=>e = .exit id
 | .ret,e=>e = .ret
 | .panic v,e=>∃ u,e = .panic [{ v:=u,recovered:=false }]∧RepV T G w v u
def Post (T:Tie) (E:Env) (r:Option Nat) (lo:Nat) (G:Ghost) (w:World) (x:AExit) (F':Fr) (h':AHeap) (e:Exit) (a':Act) (w':World):Prop:=
 ∃ G',Ext G w G' w'∧St T E r lo G' h' w' F' a'∧RepX T G' w' x e
def RepC (T:Tie) (G:Ghost) (w:World):CRes→Ending→Prop
 | .ret v,e=>∃ u,e = .returned u∧RepV T G w v u
 | .pan v,e=>∃ u,e = .panicked [{ v:=u,recovered:=false }]∧RepV T G w v u
def Ends (T:Tie) (E:Env) (G:Ghost) (w:World) (c:CRes) (h':AHeap) (e:Ending) (w':World):Prop:=
 ∃ G',Ext G w G' w'∧Inv T E G' h' w'∧RepC T G' w' c e
theorem Post.trans {r:Option Nat} {lo:Nat} {x:AExit} {F':Fr} {h':AHeap} {e:Exit} {a':Act} {w' w1:World} {G1:Ghost} (X:Ext G w G1 w1) (hp:Post T E r lo G1 w1 x F' h' e a' w'):Post T E r lo G w x F' h' e a' w':=by
 obtain ⟨G',h1,h2,h3⟩:=hp
 exact ⟨G',X.trans h1,h2,h3⟩
theorem Post.normal {r:Option Nat} {lo:Nat} {F':Fr} {h':AHeap} {e:Exit} {a':Act} {w':World} (hp:Post T E r lo G w .normal F' h' e a' w'):e = .normal:=by
 obtain ⟨G',h1,h2,h3⟩:=hp
 exact h3
def CallOk (T:Tie) (E:Env) (r:Option Nat) (G:Ghost) (w:World) (c:CRes) (h':AHeap) (d:Deferred):Prop:=
 (∃ f as,(invoke d.target d.args).run T.P w = .ok (.enter f as) w∧CallsIn (FC r) 0 T.P f as w (Ends T E G w c h')) ∨
 (∃ l f tmps assign body,(invoke d.target d.args).run T.P w = .ok (.round l f tmps assign body) w∧RoundIn (FC r) 0 T.P l f tmps assign body w (Ends T E G w c h'))
end Go.Pv
/- A region taken in the order of the text does what the evaluator does. Conditions: what is said of calls; lemmas. -/
namespace Go.Pv
open Go.RowKit
variable {T:Tie} {R:Nat→Bool} {E:Env} {G:Ghost} {h:AHeap} {w:World} {F:Fr} {a:Act}
theorem cOp_call {o:Oper} {f:SOpd} {as:List SOpd} (hc:cOp T R o = some (.call f as)):∃ c,o.op = .call c∧cCall T c = some (f,as):=by
  unfold cOp at hc
  split at hc
  all_goals first
    | (rename_i c ho
       split at hc
       · rename_i b hcal
         unfold cBuiltin at hc
         repeat' split at hc
         all_goals simp at hc
       · simp only [Option.map_eq_some_iff] at hc
         obtain ⟨p,h1,h2⟩:=hc
         cases h2
         exact ⟨_,ho,h1⟩)
    | (exfalso
       repeat' split at hc
       all_goals simp at hc)
theorem cOp_defer {o:Oper} {f:SOpd} {as:List SOpd} (hc:cOp T R o = some (.defer f as)):∃ c,o.op = .defer c∧cCall T c = some (f,as):=by
  unfold cOp at hc
  split at hc
  all_goals first
    | (rename_i c ho
       simp only [Option.map_eq_some_iff] at hc
       obtain ⟨p,h1,h2⟩:=hc
       cases h2
       exact ⟨_,ho,h1⟩)
    | (rename_i c ho
       split at hc
       · rename_i b hcal
         unfold cBuiltin at hc
         repeat' split at hc
         all_goals simp at hc
       · simp at hc)
    | (exfalso
       repeat' split at hc
       all_goals simp at hc)
theorem cOp_panic {o:Oper} {x:SOpd} (hc:cOp T R o = some (.panic x)):∃ y,cOpd T y = some x∧(o.op = .panic y∨∃ c,o.op = .call c∧c.callee = .builtin .panic∧c.args.toList = [y]):=by
  unfold cOp at hc
  split at hc
  all_goals first
    | (rename_i y ho
       simp only [Option.map_eq_some_iff] at hc
       obtain ⟨p,h1,h2⟩:=hc
       cases h2
       exact ⟨_,h1,.inl ho⟩)
    | (rename_i c ho
       split at hc
       · rename_i b hcal
         unfold cBuiltin at hc
         repeat' split at hc
         all_goals first
           | (simp only [Option.map_eq_some_iff] at hc
              obtain ⟨p,h1,h2⟩:=hc
              cases h2
              exact ⟨_,h1,.inr ⟨_,ho,hcal,by assumption⟩⟩)
           | (simp at hc; done)
       · simp at hc)
    | (exfalso
       repeat' split at hc
       all_goals simp at hc)
theorem cCall_some {c:Call} {f:SOpd} {as:List SOpd} (hc:cCall T c = some (f,as)):∃ g,c.callee = .value g∧cOpd T g = some f∧cOpds T c.args.toList = some as:=by
 unfold cCall at hc
 split at hc
 ·rename_i g hg
  split at hc
  ·rename_i h1 h2
   cases hc
   exact ⟨g,hg,h1,h2⟩
  ·cases hc
 ·cases hc
def CallSim (T:Tie) (E:Env) (call:AV→List AV→AHeap→Option (CRes × AHeap)):Prop:=
 ∀ (f:AV) (args:List AV) (h:AHeap) (c:CRes) (h':AHeap),call f args h = some (c,h')→∀ (r:Option Nat) (G:Ghost) (w:World) (fv:Value) (l:List Value),
  Inv T E G h w→RepV T G w f fv→RepL T G w args l→∃ d,(Deferred.ofValue fv ⟨l⟩).run T.P w = .ok d w∧CallOk T E r G w c h' d
theorem resolve_value {c:Call} {g:Operand} (hg:c.callee = .value g) (ρ:Operand→Value) (ty:TypeId):resolve ρ c ty = Deferred.ofValue (ρ g) ⟨c.args.toList.map ρ⟩:=by
 simp only [resolve,hg]
 congr 1
 apply Array.ext'
 simp
theorem wanted_rep {all:Array Oper} {o:Oper} {g:Option (Nat × Bool)} (hg:cGuard all.toList o.guard = some g) (hF:RepL T G w F.t a.tmps.toList) {t:Bool} (ht:wanted g F = some t):Region.wanted o (yielded all a.tmps) = t:=by
 unfold cGuard at hg
 split at hg
 ·rename_i ho
  cases hg
  simp only [wanted,Option.some.injEq] at ht
  subst ht
  simp [Region.wanted,ho]
 ·rename_i j want ho
  split at hg
  ·rename_i d hd
   cases hg
   have hd':(all[j]?).bind (·.dst) = some d:=by simpa using hd
   simp only [Region.wanted,ho,yielded,hd',Option.bind_some]
   simp only [wanted,Fr.get,List.getD_eq_getElem?_getD] at ht
   cases hq:F.t[d]? with
   | none=>rw [hq] at ht; simp at ht
   | some v=>
    rw [hq] at ht
    obtain ⟨u,h1,h2⟩:=hF.get hq
    have h3:a.tmps[d]? = some u:=by simpa using h1
    rw [h3]
    simp only [Option.getD_some] at ht
    split at ht
    ·rename_i b
     cases ht
     simp only [RepV] at h2
     subst h2
     simp
    ·rename_i vs
     cases ht
     simp only [RepV] at h2
     obtain ⟨l,rfl,_⟩:=h2
     simp
    ·cases ht
  ·cases hg
theorem rep_unasked:RepV T G w unasked undef:=by
 simp only [unasked,RepV,RepL]
 exact ⟨[],rfl,rfl⟩
theorem sim_oper {call:AV→List AV→AHeap→Option (CRes × AHeap)} (hcall:CallSim T E call) {r:Option Nat} {lo:Nat} {all:Array Oper} {o:Oper} {so:SOp} {g:Option (Nat × Bool)} (hop:cOp T R o = some so) (hg:cGuard all.toList o.guard = some g)
  {x:AExit} {F':Fr} {h':AHeap} (he:evOper E call { dst:=o.dst,guard:=g,op:=so } F h = some (x,F',h')) (S:St T E r lo G h w F a) (next:Act→World→Prop) (Q:Exit→Act→World→Prop)
  (hn:∀ G' a' w',x = .normal→Ext G w G' w'→St T E r lo G' h' w' F' a'→next a' w')
  (hp:∀ G' a' w' v u,x = .panic v→Ext G w G' w'→St T E r lo G' h' w' F' a'→RepV T G' w' v u→Q (.panic [{ v:=u,recovered:=false }]) a' w'):
  if Region.wanted o (yielded all a.tmps) then o.wpIn (FC r) 0 T.P a w next Q else (∀ f,o.about T.P w a.eval = some f→(FC r).fn f)∧next (a.put o.dst undef) w:=by
 unfold evOper at he
 split at he
 ·cases he
 ·rename_i hwt
  cases he
  simp only [wanted_rep hg S.tmps hwt,Bool.false_eq_true,if_false]
  exact ⟨fun _ _=>trivial,hn G _ w rfl (Ext.refl S.inv.vlt) (S.put rep_unasked o.dst)⟩
 ·rename_i hwt
  simp only [wanted_rep hg S.tmps hwt,if_true]
  refine ⟨fun _ _=>trivial,?_⟩
  simp only at he
  split at he
  ·-- a call
   rename_i f args
   obtain ⟨c,ho,hcc⟩:=cOp_call hop
   obtain ⟨gv,hgv,h1,h2⟩:=cCall_some hcc
   have hsem:o.semAt (FC r).round a.eval = execOp a.eval o:=Oper.semAt_eq _ _ _ (fun c' hc'=>by rw [ho] at hc'; cases hc')
   split at he
   ·cases he
   ·rename_i v h1' hcr
    cases he
    obtain ⟨d,hd,hok⟩:=hcall _ _ _ _ _ hcr r G w (a.eval gv) _ S.inv (opd_rep S.inv S.tmps h1) (opds_rep S.inv S.tmps h2)
    have hrun:(execOp a.eval o).run T.P w = (invoke d.target d.args).run T.P w:=by
     simp only [execOp,ho,Sem.run_bind,resolve_value hgv,hd,Result.andThen]
    rw [hsem,hrun]
    rcases hok with ⟨fi,as,hi,hcs⟩ | ⟨l,fi,tm,as,bo,hi,hcs⟩
    ·rw [hi,Oper.uponIn_enter]
     refine ⟨fun hh=>by simp [FC,Fence.wide] at hh,CallsIn.mono hcs fun e w' hE=>?_⟩
     obtain ⟨G',X,I',u,rfl,hu⟩:=hE
     exact hn G' _ w' rfl X ((S.turn X I').put hu o.dst)
    ·rw [hi,Oper.uponIn_round]
     refine ⟨fun hh=>by simp [FC,Fence.wide] at hh,RoundIn.mono hcs fun e w' hE=>?_⟩
     obtain ⟨G',X,I',u,rfl,hu⟩:=hE
     exact hn G' _ w' rfl X ((S.turn X I').put hu o.dst)
   ·rename_i v h1' hcr
    cases he
    obtain ⟨d,hd,hok⟩:=hcall _ _ _ _ _ hcr r G w (a.eval gv) _ S.inv (opd_rep S.inv S.tmps h1) (opds_rep S.inv S.tmps h2)
    have hrun:(execOp a.eval o).run T.P w = (invoke d.target d.args).run T.P w:=by
     simp only [execOp,ho,Sem.run_bind,resolve_value hgv,hd,Result.andThen]
    rw [hsem,hrun]
    rcases hok with ⟨fi,as,hi,hcs⟩ | ⟨l,fi,tm,as,bo,hi,hcs⟩
    ·rw [hi,Oper.uponIn_enter]
     refine ⟨fun hh=>by simp [FC,Fence.wide] at hh,CallsIn.mono hcs fun e w' hE=>?_⟩
     obtain ⟨G',X,I',u,rfl,hu⟩:=hE
     exact hp G' _ w' _ u rfl X (S.turn X I') hu
    ·rw [hi,Oper.uponIn_round]
     refine ⟨fun hh=>by simp [FC,Fence.wide] at hh,RoundIn.mono hcs fun e w' hE=>?_⟩
     obtain ⟨G',X,I',u,rfl,hu⟩:=hE
     exact hp G' _ w' _ u rfl X (S.turn X I') hu
  ·-- a panic
   rename_i x'
   obtain ⟨y,h1,ho⟩:=cOp_panic hop
   have hv:=opd_rep S.inv S.tmps h1 (E:=E)
   split at he
   ·rename_i t v hq
    cases he
    rw [hq] at hv
    have hv':=hv
    simp only [RepV] at hv'
    obtain ⟨u,hu,hu2⟩:=hv'
    have hrun:(o.semAt (FC r).round a.eval).run T.P w = .halt (.panic (a.eval y)) w:=by
     rcases ho with ho | ⟨c,ho,hcal,hargs⟩
     ·rw [Oper.semAt_eq _ _ _ (fun c' hc'=>by rw [ho] at hc'; cases hc')]
      simp [execOp,ho,hu,Instr.panic,goPanic,Sem.run,Result.andThen]
     ·rw [Oper.semAt_eq _ _ _ (fun c' hc'=>by rw [ho] at hc'; cases hc')]
      have ha0:c.args = #[y]:=by rw [← Array.toArray_toList (xs:=c.args),hargs]
      simp [execOp,ho,resolve,hcal,invoke,builtin,ha0,hu,Instr.panic,goPanic,Sem.run,Result.andThen]
    rw [hrun,Oper.uponIn_panic]
    exact hp G a w _ _ rfl (Ext.refl S.inv.vlt) S hv
   ·cases he
  ·-- a deferred call
   rename_i f args
   obtain ⟨c,ho,hcc⟩:=cOp_defer hop
   obtain ⟨gv,hgv,h1,h2⟩:=cCall_some hcc
   split at he
   ·rename_i j first caps hq
    split at he
    case isFalse=>cases he
    ·rename_i hrnd
     cases he
     have hrn:r = none:=by
      cases r with
      | none=>rfl
      | some l=>have:=S.rnd.2 rfl; rw [hrnd] at this; cases this
     subst hrn
     have hfv:=opd_rep S.inv S.tmps h1 (E:=E)
     rw [hq] at hfv
     simp only [RepV] at hfv
     obtain ⟨la,lb,hfe,hf1,hf2⟩:=hfv
     have hargs:=opds_rep S.inv S.tmps h2 (E:=E)
     have hrun:(o.semAt (FC none).round a.eval).run T.P w = .ok (.defer { target:=.fn (.func (T.fnum j)) ⟨lb⟩,args:=⟨la++c.args.toList.map a.eval⟩ }) w:=by
      show (o.semAt none a.eval).run T.P w = _
      rw [Oper.semAt_none]
      simp only [execOp,ho,Sem.run_bind,resolve_value hgv,hfe,Deferred.ofValue,Sem.run_pure,Result.andThen]
      congr 3
      simp
     rw [hrun,Oper.uponIn_defer]
     refine hn G _ w rfl (Ext.refl S.inv.vlt) (St.put ?_ (by simp only [RepV]) o.dst)
     refine { inv:=S.inv,tmps:=S.tmps,ds:=?_,low:=S.low,rnd:=S.rnd,nom:=fun hd=>(by rw [show F.rnd = .call from hrnd] at hd; cases hd),around:=S.around }
     simp only [RepD]
     exact .inr ⟨j,_,_,_,_,rfl,rfl,RepL.append (RepL.append hf1 hargs) hf2,S.ds⟩
   ·cases he
  ·rename_i hnc hnp hnd
   simp only [Option.map_eq_some_iff] at he
   obtain ⟨p,hp1,hp2⟩:=he
   cases hp2
   obtain ⟨v,h2'⟩:=p
   obtain ⟨rv,w',G',hr,X,I',hrv⟩:=sim_ev1 S.inv S.tmps hop hp1
   have hsem:o.semAt (FC r).round a.eval = execOp a.eval o:=Oper.semAt_eq _ _ _ (fun c' hc'=>by
    unfold cOp at hop
    rw [hc'] at hop
    simp only [Option.map_eq_some_iff] at hop
    obtain ⟨p,_,rfl⟩:=hop
    exact hnd _ _ rfl)
   rw [hsem]
   rcases hr with hr | ⟨hr,rfl⟩
   ·rw [hr,Oper.uponIn_value]
    exact hn G' _ w' rfl X ((S.turn X I').put hrv o.dst)
   ·rw [hr,Oper.uponIn_skip]
    exact hn G' _ w' rfl X ((S.turn X I').put hrv o.dst)
theorem evOper_ends {call:AV→List AV→AHeap→Option (CRes × AHeap)} {so:SOper} {x:AExit} {F':Fr} {h':AHeap} (he:evOper E call so F h = some (x,F',h')):x = .normal∨∃ v,x = .panic v:=by
  unfold evOper at he
  repeat' split at he
  all_goals first
    | (cases he; done)
    | (cases he; exact .inl rfl)
    | (cases he; exact .inr ⟨_,rfl⟩)
    | (simp only [Option.map_eq_some_iff] at he
       obtain ⟨p,_,hp⟩:=he
       cases hp
       exact .inl rfl)
theorem sim_ops {call:AV→List AV→AHeap→Option (CRes × AHeap)} (hcall:CallSim T E call) {r:Option Nat} {lo:Nat} {all:Array Oper} {x:AExit} {F':Fr} {h':AHeap}:∀ {os:List Oper} {sos:List SOper} {G:Ghost} {h:AHeap} {w:World} {F:Fr} {a:Act} (Q:Exit→Act→World→Prop),
  cOpers T R all.toList os = some sos→evOps E call sos F h = some (x,F',h')→St T E r lo G h w F a→(∀ e a' w',Post T E r lo G w x F' h' e a' w'→Q e a' w')→wpListIn (FC r) 0 T.P all Q os a w
 | [],sos,G,h,w,F,a,Q,hc,he,S,hQ=>by
  simp only [cOpers] at hc
  cases hc
  simp only [evOps] at he
  cases he
  simp only [wpListIn]
  exact hQ _ _ _ ⟨G,Ext.refl S.inv.vlt,S,rfl⟩
 | o :: os,sos,G,h,w,F,a,Q,hc,he,S,hQ=>by
  simp only [cOpers] at hc
  split at hc
  ·rename_i op g sos' h1 h2 h3
   cases hc
   simp only [evOps] at he
   simp only [wpListIn]
   split at he
   ·rename_i F1 hh1 h4
    exact sim_oper hcall h1 h2 h4 S (wpListIn (FC r) 0 T.P all Q os) Q
     (fun G' a' w' _ X S'=>sim_ops hcall (os:=os) Q h3 he S' fun e a2 w2 hq=>hQ e a2 w2 (Post.trans X hq))
     (fun G' a' w' v u hx=>by cases hx)
   ·rename_i hne
    have hends:=evOper_ends he
    have hxn:x ≠ .normal:=fun hx=>hne F' h' (hx ▸ he)
    exact sim_oper hcall h1 h2 he S (wpListIn (FC r) 0 T.P all Q os) Q
     (fun G' a' w' hx=>absurd hx hxn)
     (fun G' a' w' v u hx X S' hu=>hQ _ _ _ ⟨G',X,S',by subst hx; exact ⟨u,rfl,hu⟩⟩)
  ·cases hc
end Go.Pv
/- A region that draws its order does what the evaluator does in the order of the text. Conditions: what is said of calls; lemmas. -/
namespace Go.Pv
open Go.RowKit
variable {T:Tie} {E:Env} {G:Ghost} {h:AHeap} {w:World} {F:Fr} {a:Act}
theorem opd_eq {F F':Fr} {x:SOpd} (hs:∀ t ∈ x.tmps,F'.get t = F.get t):opd E F' x = opd E F x:=by
 cases x with
 | tmp t=>exact hs t (by simp [SOpd.tmps])
 | const v=>rfl
 | glob g=>rfl
theorem opt_eq {F F':Fr} {x:Option SOpd} (hs:∀ t ∈ oTmps x,F'.get t = F.get t):x.map (opd E F') = x.map (opd E F):=by
 cases x with
 | none=>rfl
 | some x=>exact congrArg some (opd_eq hs)
theorem opl_eq {F F':Fr}:∀ {xs:List SOpd},(∀ t ∈ lTmps xs,F'.get t = F.get t)→xs.map (opd E F') = xs.map (opd E F)
 | [],_=>rfl
 | x :: xs,hs=>by
  simp only [lTmps,List.mem_append] at hs
  simp only [List.map_cons,opd_eq (E:=E) fun t ht=>hs t (.inl ht),opl_eq fun t ht=>hs t (.inr ht)]
theorem opp_eq {F F':Fr}:∀ {ps:List (Nat × Nat × SOpd)},(∀ t ∈ pTmps ps,F'.get t = F.get t)→(ps.map fun p=>(p.1,p.2.1,opd E F' p.2.2)) = ps.map fun p=>(p.1,p.2.1,opd E F p.2.2)
 | [],_=>rfl
 | p :: ps,hs=>by
  simp only [pTmps,List.mem_append] at hs
  simp only [List.map_cons,opd_eq (E:=E) fun t ht=>hs t (.inl ht),opp_eq fun t ht=>hs t (.inr ht)]
theorem ev1_eq {F F':Fr} {op:SOp} (hs:∀ t ∈ reads op,F'.get t = F.get t) (h:AHeap):ev1 E F' h op = ev1 E F h op:=by
 cases op <;> simp only [reads,List.mem_append] at hs
 case mov x=>simp only [ev1,opd_eq (E:=E) hs]
 case pick c a b=>simp only [ev1,opd_eq (E:=E) fun t ht=>hs t (.inl (.inl ht)),opd_eq (E:=E) fun t ht=>hs t (.inl (.inr ht)),opd_eq (E:=E) fun t ht=>hs t (.inr ht)]
 case alloc z=>rfl
 case box n x=>simp only [ev1,opd_eq (E:=E) hs]
 case build z ps=>simp only [ev1,opp_eq (E:=E) hs]
 case buildSlice l z ps=>simp only [ev1,opp_eq (E:=E) hs]
 case load g n x=>simp only [ev1,opd_eq (E:=E) hs]
 case store n a x=>simp only [ev1,opd_eq (E:=E) fun t ht=>hs t (.inl ht),opd_eq (E:=E) fun t ht=>hs t (.inr ht)]
 case nilCheck x=>simp only [ev1,opd_eq (E:=E) hs]
 case bin op ek a x=>simp only [ev1,opd_eq (E:=E) fun t ht=>hs t (.inl ht),opd_eq (E:=E) fun t ht=>hs t (.inr ht)]
 case minmax mx a x=>simp only [ev1,opd_eq (E:=E) fun t ht=>hs t (.inl ht),opd_eq (E:=E) fun t ht=>hs t (.inr ht)]
 case un op x=>simp only [ev1,opd_eq (E:=E) hs]
 case isNil k op x=>simp only [ev1,opd_eq (E:=E) hs]
 case conv k x=>simp only [ev1,opd_eq (E:=E) hs]
 case mkIface t x=>simp only [ev1,opd_eq (E:=E) hs]
 case mkFn f a b=>simp only [ev1,opl_eq (E:=E) fun t ht=>hs t (.inl ht),opl_eq (E:=E) fun t ht=>hs t (.inr ht)]
 case mkMap=>rfl
 case mkSlice z b a x=>rfl
 case sliceStr x lo hi=>simp only [ev1,opd_eq (E:=E) fun t ht=>hs t (.inl (.inl ht)),opt_eq (E:=E) fun t ht=>hs t (.inl (.inr ht)),opt_eq (E:=E) fun t ht=>hs t (.inr ht)]
 case sliceVs n x lo hi mx=>simp only [ev1,opd_eq (E:=E) fun t ht=>hs t (.inl (.inl (.inl ht))),opt_eq (E:=E) fun t ht=>hs t (.inl (.inl (.inr ht))),opt_eq (E:=E) fun t ht=>hs t (.inl (.inr ht)),opt_eq (E:=E) fun t ht=>hs t (.inr ht)]
 case sliceArr l n x lo hi=>simp only [ev1,opd_eq (E:=E) fun t ht=>hs t (.inl (.inl ht)),opt_eq (E:=E) fun t ht=>hs t (.inl (.inr ht)),opt_eq (E:=E) fun t ht=>hs t (.inr ht)]
 case fieldAddr o x=>simp only [ev1,opd_eq (E:=E) hs]
 case field g o n x=>simp only [ev1,opd_eq (E:=E) hs]
 case indexAddrVs n a x=>simp only [ev1,opd_eq (E:=E) fun t ht=>hs t (.inl ht),opd_eq (E:=E) fun t ht=>hs t (.inr ht)]
 case indexAddrArr l n a x=>simp only [ev1,opd_eq (E:=E) fun t ht=>hs t (.inl ht),opd_eq (E:=E) fun t ht=>hs t (.inr ht)]
 case indexArr l g n a x=>simp only [ev1,opd_eq (E:=E) fun t ht=>hs t (.inl ht),opd_eq (E:=E) fun t ht=>hs t (.inr ht)]
 case indexStr a x=>simp only [ev1,opd_eq (E:=E) fun t ht=>hs t (.inl ht),opd_eq (E:=E) fun t ht=>hs t (.inr ht)]
 case lookup kk z ok a x=>simp only [ev1,opd_eq (E:=E) fun t ht=>hs t (.inl ht),opd_eq (E:=E) fun t ht=>hs t (.inr ht)]
 case mapUpdate kk m k v=>simp only [ev1,opd_eq (E:=E) fun t ht=>hs t (.inl (.inl ht)),opd_eq (E:=E) fun t ht=>hs t (.inl (.inr ht)),opd_eq (E:=E) fun t ht=>hs t (.inr ht)]
 case extract i x=>simp only [ev1,opd_eq (E:=E) hs]
 case len k x=>simp only [ev1,opd_eq (E:=E) hs]
 case lenArr n=>rfl
 case append n b a x=>simp only [ev1,opd_eq (E:=E) fun t ht=>hs t (.inl ht),opd_eq (E:=E) fun t ht=>hs t (.inr ht)]
 case appendRow n b a x=>simp only [ev1,opd_eq (E:=E) fun t ht=>hs t (.inl ht),opd_eq (E:=E) fun t ht=>hs t (.inr ht)]
 case call f as=>rfl
 case panic x=>rfl
 case defer f as=>rfl
 case typeAssert t z ok x=>simp only [ev1,opd_eq (E:=E) hs]
 case recover=>rfl
theorem quiet_ev {op:SOp} (hq:cls op = .quiet) {v:AV} {h':AHeap} (he:ev1 E F h op = some (v,h')):h' = h∧∀ h2,ev1 E F h2 op = some (v,h2):=by
 cases op
 case conv k x=>
  cases k <;> simp [cls] at hq
  all_goals
   simp only [ev1] at he ⊢
   repeat' split at he
   all_goals first | (cases he; done) | (cases he; simp_all)
 case len k x=>
  cases k <;> simp [cls] at hq
  all_goals
   simp only [ev1] at he ⊢
   repeat' split at he
   all_goals first | (cases he; done) | (cases he; simp_all)
 all_goals first
  | (simp only [cls] at hq; done)
  | (simp [cls] at hq; done)
  | skip
 all_goals simp only [ev1,Option.map_eq_some_iff] at he ⊢
 all_goals first
  | (cases he; done)
  | (cases he; exact ⟨rfl,fun _=>rfl⟩)
  | (obtain ⟨p,h1,h2⟩:=he; cases h2; exact ⟨rfl,fun _=>⟨_,h1,rfl⟩⟩)
  | skip
 all_goals
  repeat' split at he
 all_goals first
  | (cases he; done)
  | (cases he; simp_all; done)
  | (simp only [Option.map_eq_some_iff] at he; obtain ⟨p,h1,h2⟩:=he; cases h2; simp_all; done)
theorem push_get {h:AHeap} {b:Nat} {x y:ABlk} (hb:h.blks[b]? = some x):(h.push y).blks[b]? = some x:=by
 simp only [AHeap.push]
 rw [List.getElem?_append_left (List.getElem?_eq_some_iff.1 hb).1]
 exact hb
theorem peek_push {n:Nat} {p:AV} {cs:List AV} {y:ABlk} (hp:peek h n p = some cs):peek (h.push y) n p = some cs:=by
 unfold peek at hp ⊢
 split at hp
 ·split at hp
  ·rename_i hb
   rw [push_get hb]
   exact hp
  ·cases hp
 ·exact hp
 ·cases hp
theorem sliceCells_push {n:Nat} {p:AV} {r:Nat × List AV} {y:ABlk} (hp:sliceCells h n p = some r):sliceCells (h.push y) n p = some r:=by
 unfold sliceCells at hp ⊢
 split at hp
 ·exact hp
 ·split at hp
  ·rename_i hb
   rw [push_get hb]
   exact hp
  ·cases hp
 ·split at hp
  ·rename_i hb
   rw [push_get hb]
   exact hp
  ·cases hp
 ·exact hp
 ·exact hp
 ·cases hp
theorem peek_toks {n:Nat} {p:AV} (ts:List Nat):peek { h with toks:=ts } n p = peek h n p:=by
 cases p <;> rfl
theorem sliceCells_toks {n:Nat} {p:AV} (ts:List Nat):sliceCells { h with toks:=ts } n p = sliceCells h n p:=by
 cases p <;> rfl
theorem read_ev {op:SOp} (hq:cls op = .read) {v:AV} {h':AHeap} (he:ev1 E F h op = some (v,h')):h' = h∧(∀ y,ev1 E F (h.push y) op = some (v,h.push y))∧∀ ts,ev1 E F { h with toks:=ts } op = some (v,{ h with toks:=ts }):=by
 cases op
 case load g n x=>
  simp only [ev1,Option.map_eq_some_iff,Option.bind_eq_some_iff] at he ⊢
  obtain ⟨u,⟨cs,h1,h2⟩,h3⟩:=he
  cases h3
  exact ⟨rfl,fun y=>⟨_,⟨cs,peek_push h1,h2⟩,rfl⟩,fun ts=>⟨_,⟨cs,(peek_toks ts).trans h1,h2⟩,rfl⟩⟩
 case lookup kk z ok m k=>
  simp only [ev1] at he ⊢
  generalize opd E F m = mv at he ⊢
  cases mv <;> simp only at he ⊢
  case nilmap=>
   split at he
   ·cases he
   ·cases he
    exact ⟨rfl,fun y=>rfl,fun ts=>rfl⟩
  case map b=>
   cases hb:h.blks[b]? with
   | none=>rw [hb] at he; cases he
   | some blk=>
    rw [hb] at he
    cases blk <;> simp only at he
    case map es=>
     split at he
     ·cases he
     ·cases he
      refine ⟨rfl,fun y=>?_,fun ts=>?_⟩
      ·rw [push_get hb]
       simp only [*]
      ·simp only [*]
    all_goals cases he
  all_goals cases he
 case conv k x=>
  cases k <;> simp [cls] at hq
  simp only [ev1] at he ⊢
  split at he
  ·cases he
  ·rename_i hns
   split at he
   ·rename_i h1
    simp only [Option.map_eq_some_iff] at he
    obtain ⟨s,h2,h3⟩:=he
    cases h3
    refine ⟨rfl,fun y=>?_,fun ts=>?_⟩
    ·rw [sliceCells_push h1]
     simp only [h2,Option.map_some]
    ·rw [sliceCells_toks,h1]
     simp only [h2,Option.map_some]
   ·cases he
 case len k x=>
  cases k <;> simp [cls] at hq
  simp only [ev1] at he ⊢
  split at he
  ·cases he
   exact ⟨rfl,fun y=>rfl,fun ts=>rfl⟩
  ·rename_i b hb
   split at he
   ·rename_i hb2
    cases he
    refine ⟨rfl,fun y=>?_,fun ts=>?_⟩
    ·rw [push_get hb2]
    ·simp only
   ·cases he
  ·cases he
 all_goals first
  | (simp only [cls] at hq; done)
  | (simp [cls] at hq; done)
theorem app_ev {op:SOp} (hq:cls op = .app) {v:AV} {h':AHeap} (he:ev1 E F h op = some (v,h')):∃ ts,h' = { h with toks:=ts }:=by
 cases op
 case append n b s x=>
  simp only [ev1] at he
  unfold appendA at he
  split at he
  ·split at he
   ·split at he
    ·cases he
     exact ⟨h.toks,rfl⟩
    ·split at he
     ·cases he
     ·cases he
      exact ⟨_,rfl⟩
     ·split at he
      ·cases he
       exact ⟨_,rfl⟩
      ·cases he
   ·cases he
  ·cases he
 case conv k x=>cases k <;> simp [cls] at hq
 case len k x=>cases k <;> simp [cls] at hq
 all_goals first
  | (simp only [cls] at hq; done)
  | (simp [cls] at hq; done)
theorem new_ev {op:SOp} (hq:cls op = .new) {v:AV} {h':AHeap} (he:ev1 E F h op = some (v,h')):∃ y,h' = h.push y:=by
 cases op
 case conv k x=>
  cases k <;> simp [cls] at hq
  simp only [ev1] at he
  split at he
  ·split at he
   ·cases he
    exact ⟨_,rfl⟩
   ·cases he
  ·cases he
 case alloc z=>simp only [ev1] at he; cases he; exact ⟨_,rfl⟩
 case mkMap=>simp only [ev1] at he; cases he; exact ⟨_,rfl⟩
 case box n x=>
  simp only [ev1] at he
  split at he
  ·split at he
   ·cases he; exact ⟨_,rfl⟩
   ·cases he
  ·cases he
 case len k x=>cases k <;> simp [cls] at hq
 all_goals first
  | (simp only [cls] at hq; done)
  | (simp [cls] at hq; done)
end Go.Pv
/- A region that draws its order does what the evaluator does in the order of the text: the orders. Conditions: what is said of calls; lemmas. -/
namespace Go.Pv
open Go.RowKit
variable {T:Tie} {R:Nat→Bool} {E:Env} {G:Ghost} {h:AHeap} {w:World} {F:Fr} {a:Act} {cc:AV→List AV→Option AV}
theorem get_put {F:Fr} {d:Option Nat} {v:AV} {t:Nat} (hd:∀ d',d = some d'→d' ≠ t):(F.put d v).get t = F.get t:=by
 cases d with
 | none=>rfl
 | some d=>
  have:=hd d rfl
  simp only [Fr.put,Fr.get,List.getD_eq_getElem?_getD]
  rw [List.getElem?_set_ne this]
theorem put_comm {F:Fr} {d e:Option Nat} {v u:AV} (hde:∀ x,d = some x→e ≠ some x):(F.put d v).put e u = (F.put e u).put d v:=by
 cases d with
 | none=>rfl
 | some d=>
  cases e with
  | none=>rfl
  | some e=>
   have hne:d ≠ e:=fun he=>hde d rfl (he ▸ rfl)
   simp only [Fr.put]
   rw [List.set_comm _ _ hne]
theorem evDraw1_val (o:SOper) (F:Fr) (h:AHeap):evDraw1 E cc o F h = (val1 E cc o F h).map fun p=>(F.put o.dst p.1,p.2):=by
 unfold evDraw1 val1
 cases wanted o.guard F with
 | none=>rfl
 | some b=>
  cases b with
  | false=>rfl
  | true=>
   cases o.op <;> simp only [Option.map_map] <;> rfl
theorem wanted_eq {g:Option (Nat × Bool)} {F F':Fr} (hs:∀ t ∈ (match g with | some (t,_)=>[t] | none=>[]),F'.get t = F.get t):wanted g F' = wanted g F:=by
 cases g with
 | none=>rfl
 | some p=>
  obtain ⟨t,want⟩:=p
  simp only [wanted]
  rw [hs t (by simp)]
theorem val1_eq {o:SOper} {F F':Fr} (hs:∀ t ∈ o.looks,F'.get t = F.get t) (h:AHeap):val1 E cc o F' h = val1 E cc o F h:=by
 unfold SOper.looks at hs
 simp only [List.mem_append] at hs
 unfold val1
 rw [wanted_eq fun t ht=>hs t (.inl ht)]
 split
 ·rfl
 ·rfl
 ·split
  ·rename_i f args hop
   rw [hop] at hs
   simp only [reads,List.mem_append] at hs
   rw [opd_eq (E:=E) fun t ht=>hs t (.inr (.inl ht)),opl_eq (E:=E) fun t ht=>hs t (.inr (.inr ht))]
  ·exact ev1_eq (fun t ht=>hs t (.inr ht)) h
theorem val_quiet {o:SOper} (hq:cls o.op = .quiet) {v:AV} {h':AHeap} (he:val1 E cc o F h = some (v,h')):h' = h∧∀ h2,val1 E cc o F h2 = some (v,h2):=by
 unfold val1 at he ⊢
 split at he
 ·cases he
 ·cases he
  exact ⟨rfl,fun _=>rfl⟩
 ·split at he
  ·simp only [Option.map_eq_some_iff] at he ⊢
   obtain ⟨u,h1,h2⟩:=he
   cases h2
   exact ⟨rfl,fun _=>⟨_,h1,rfl⟩⟩
  ·exact quiet_ev hq he
theorem val_read {o:SOper} (hq:cls o.op = .read) {v:AV} {h':AHeap} (he:val1 E cc o F h = some (v,h')):h' = h∧(∀ y,val1 E cc o F (h.push y) = some (v,h.push y))∧∀ ts,val1 E cc o F { h with toks:=ts } = some (v,{ h with toks:=ts }):=by
 unfold val1 at he ⊢
 split at he
 ·cases he
 ·cases he
  exact ⟨rfl,fun _=>rfl,fun _=>rfl⟩
 ·split at he
  ·rename_i hop
   rw [hop] at hq
   simp [cls] at hq
  ·exact read_ev hq he
theorem val_app {o:SOper} (hq:cls o.op = .app) {v:AV} {h':AHeap} (he:val1 E cc o F h = some (v,h')):∃ ts,h' = { h with toks:=ts }:=by
 unfold val1 at he
 split at he
 ·cases he
 ·cases he
  exact ⟨h.toks,rfl⟩
 ·split at he
  ·rename_i hop
   rw [hop] at hq
   simp [cls] at hq
  ·exact app_ev hq he
theorem val_new {o:SOper} (hq:cls o.op = .new) {v:AV} {h':AHeap} (he:val1 E cc o F h = some (v,h')):h' = h∨∃ y,h' = h.push y:=by
 unfold val1 at he
 split at he
 ·cases he
 ·cases he
  exact .inl rfl
 ·split at he
  ·rename_i hop
   rw [hop] at hq
   simp [cls] at hq
  ·exact .inr (new_ev hq he)
theorem append_push {n b:Nat} {s x:AV} {y:ABlk} {v:AV} {h':AHeap} (he:appendA n b h s x = some (v,h')):∃ ts,h' = { h with toks:=ts }∧appendA n b (h.push y) s x = some (v,{ h.push y with toks:=ts }):=by
 unfold appendA at he ⊢
 cases s <;> first | (simp at he; done) | skip
 rename_i own len cells
 cases hs:sliceCells h n x with
 | none=>rw [hs] at he; cases he
 | some p=>
  obtain ⟨m,xs⟩:=p
  rw [hs] at he
  rw [sliceCells_push hs]
  simp only at he ⊢
  split at he
  ·rename_i hc
   rw [if_pos hc]
   split at he
   ·rename_i hm
    cases he
    rw [if_pos hm]
    exact ⟨h.toks,rfl,rfl⟩
   ·rename_i hm
    rw [if_neg hm]
    cases own with
    | shared=>cases he
    | full=>
     cases he
     exact ⟨_,rfl,rfl⟩
    | tok k sz=>
     simp only at he ⊢
     split at he
     ·rename_i hk
      cases he
      refine ⟨_,rfl,?_⟩
      rw [if_pos (show sz = n∧(h.push y).toks[k]? = some cells.length∧(h.push y).rot ≤ k from hk)]
      rfl
     ·cases he
  ·cases he
theorem val_app_push {o:SOper} (hq:cls o.op = .app) {v:AV} {h':AHeap} (he:val1 E cc o F h = some (v,h')):∃ ts,h' = { h with toks:=ts }∧∀ y,val1 E cc o F (h.push y) = some (v,{ h.push y with toks:=ts }):=by
 unfold val1 at he ⊢
 cases hw:wanted o.guard F with
 | none=>rw [hw] at he; cases he
 | some b=>
  rw [hw] at he
  cases b with
  | false=>cases he; exact ⟨h.toks,rfl,fun y=>rfl⟩
  | true=>
   simp only at he ⊢
   cases hop:o.op <;> rw [hop] at he hq <;> simp only [cls] at hq <;> first | (cases hq; done) | skip
   case append n b s x=>
    simp only [ev1] at he ⊢
    obtain ⟨ts,h1,_⟩:=append_push (y:=.dead) he
    refine ⟨ts,h1,fun y=>?_⟩
    obtain ⟨ts',h2,h3⟩:=append_push (y:=y) he
    have e:ts' = ts:=by
     have:=h1.symm.trans h2
     exact (AHeap.mk.inj this).2.1.symm
    rw [e] at h3
    exact h3
   case conv k x=>cases k <;> cases hq
   case len k x=>cases k <;> cases hq
theorem val_new_toks {o:SOper} (hq:cls o.op = .new) {v:AV} {h':AHeap} (he:val1 E cc o F h = some (v,h')):(h' = h∧∀ ts,val1 E cc o F { h with toks:=ts } = some (v,{ h with toks:=ts }))∨∃ y,h' = h.push y∧∀ ts,val1 E cc o F { h with toks:=ts } = some (v,AHeap.push { h with toks:=ts } y):=by
 unfold val1 at he ⊢
 cases hw:wanted o.guard F with
 | none=>rw [hw] at he; cases he
 | some b=>
  rw [hw] at he
  cases b with
  | false=>cases he; exact .inl ⟨rfl,fun ts=>rfl⟩
  | true=>
   refine .inr ?_
   simp only at he ⊢
   cases hop:o.op <;> rw [hop] at he hq <;> simp only [cls] at hq <;> first | (cases hq; done) | skip
   case alloc z=>simp only [ev1] at he ⊢; cases he; exact ⟨_,rfl,fun ts=>rfl⟩
   case mkMap=>simp only [ev1] at he ⊢; cases he; exact ⟨_,rfl,fun ts=>rfl⟩
   case box n x=>
    simp only [ev1] at he ⊢
    cases hx:(opd E F x).cells? with
    | none=>rw [hx] at he; cases he
    | some cs=>
     rw [hx] at he
     simp only at he ⊢
     split at he
     ·rename_i hc
      cases he
      exact ⟨_,rfl,fun ts=>by rw [if_pos hc]⟩
     ·cases he
   case conv k x=>
    cases k <;> simp only at hq <;> first | (cases hq; done) | skip
    simp only [ev1] at he ⊢
    cases hx:opd E F x <;> rw [hx] at he <;> simp only at he ⊢ <;> first | (cases he; done) | skip
    split at he
    ·rename_i hc
     cases he
     exact ⟨_,rfl,fun ts=>by rw [if_pos hc]⟩
    ·cases he
   case len k x=>cases k <;> cases hq
theorem swap_vals {x y:SOper} (hc:commute (cls x.op) (cls y.op) = true) {v u:AV} {h1 h2:AHeap} (hx:val1 E cc x F h = some (v,h1)) (hy:val1 E cc y F h1 = some (u,h2)):
  ∃ h3,val1 E cc y F h = some (u,h3)∧val1 E cc x F h3 = some (v,h2):=by
 cases hqx:cls x.op with
 | quiet=>
  obtain ⟨rfl,q⟩:=val_quiet hqx hx
  exact ⟨h2,hy,q h2⟩
 | read=>
  obtain ⟨rfl,q,qt⟩:=val_read hqx hx
  cases hqy:cls y.op with
  | quiet=>
   obtain ⟨rfl,q'⟩:=val_quiet hqy hy
   exact ⟨_,hy,hx⟩
  | read=>
   obtain ⟨rfl,q',_⟩:=val_read hqy hy
   exact ⟨_,hy,hx⟩
  | new=>
   rcases val_new hqy hy with rfl | ⟨b,rfl⟩
   ·exact ⟨_,hy,hx⟩
   ·exact ⟨_,hy,q b⟩
  | app=>
   obtain ⟨ts,rfl⟩:=val_app hqy hy
   exact ⟨_,hy,qt ts⟩
  | last=>rw [hqx,hqy] at hc; simp [commute] at hc
 | app=>
  cases hqy:cls y.op with
  | quiet=>
   obtain ⟨rfl,q'⟩:=val_quiet hqy hy
   exact ⟨h,q' h,hx⟩
  | read=>
   obtain ⟨ts,rfl⟩:=val_app hqx hx
   obtain ⟨rfl,_,q⟩:=val_read hqy hy
   exact ⟨h,q h.toks,hx⟩
  | new=>
   obtain ⟨ts,rfl,q⟩:=val_app_push hqx hx
   rcases val_new_toks hqy hy with ⟨rfl,q2⟩ | ⟨b,rfl,q2⟩
   ·exact ⟨h,q2 h.toks,hx⟩
   ·exact ⟨h.push b,q2 h.toks,q b⟩
  | app=>rw [hqx,hqy] at hc; simp [commute] at hc
  | last=>rw [hqx,hqy] at hc; simp [commute] at hc
 | new=>
  cases hqy:cls y.op with
  | quiet=>
   obtain ⟨rfl,q'⟩:=val_quiet hqy hy
   exact ⟨h,q' h,hx⟩
  | read=>rw [hqx,hqy] at hc; simp [commute] at hc
  | new=>rw [hqx,hqy] at hc; simp [commute] at hc
  | app=>rw [hqx,hqy] at hc; simp [commute] at hc
  | last=>rw [hqx,hqy] at hc; simp [commute] at hc
 | last=>
  cases hqy:cls y.op with
  | quiet=>
   obtain ⟨rfl,q'⟩:=val_quiet hqy hy
   exact ⟨h,q' h,hx⟩
  | read=>rw [hqx,hqy] at hc; simp [commute] at hc
  | new=>rw [hqx,hqy] at hc; simp [commute] at hc
  | app=>rw [hqx,hqy] at hc; simp [commute] at hc
  | last=>rw [hqx,hqy] at hc; simp [commute] at hc
theorem apartS_spec {a b:SOper} (h:apartS a b = true):(∀ d,a.dst = some d→d ∉ b.looks∧b.dst ≠ some d)∧(∀ d,b.dst = some d→d ∉ a.looks):=by
 unfold apartS at h
 simp only [Bool.and_eq_true] at h
 refine ⟨fun d hd=>?_,fun d hd=>?_⟩
 ·have h1:=h.1
  rw [hd] at h1
  simpa using h1
 ·have h2:=h.2
  rw [hd] at h2
  simpa using h2
theorem swap1 {x y:SOper} (hc:commute (cls x.op) (cls y.op) = true) (ha:apartS x y = true) {F2:Fr} {h2:AHeap} {F1:Fr} {h1:AHeap}
  (hx:evDraw1 E cc x F h = some (F1,h1)) (hy:evDraw1 E cc y F1 h1 = some (F2,h2)):∃ F3 h3,evDraw1 E cc y F h = some (F3,h3)∧evDraw1 E cc x F3 h3 = some (F2,h2):=by
 obtain ⟨a1,a2⟩:=apartS_spec ha
 rw [evDraw1_val] at hx hy
 simp only [Option.map_eq_some_iff] at hx hy
 obtain ⟨⟨v,hv⟩,hx1,hx2⟩:=hx
 cases hx2
 obtain ⟨⟨u,hu⟩,hy1,hy2⟩:=hy
 cases hy2
 have hy1':val1 E cc y F hv = some (u,hu):=by
  rw [← hy1]
  exact (val1_eq (fun t ht=>get_put fun d hd=>fun he=>(a1 d hd).1 (he ▸ ht)) hv).symm
 obtain ⟨h3,q1,q2⟩:=swap_vals hc hx1 hy1'
 refine ⟨F.put y.dst u,h3,?_,?_⟩
 ·rw [evDraw1_val,q1]; rfl
 ·rw [evDraw1_val]
  have:val1 E cc x (F.put y.dst u) h3 = some (v,hu):=by
   rw [← q2]
   exact val1_eq (fun t ht=>get_put fun d hd=>fun he=>a2 d hd (he ▸ ht)) h3
  rw [this]
  simp only [Option.map_some,Option.some.injEq,Prod.mk.injEq,and_true]
  exact (put_comm fun d hd=>(a1 d hd).2).symm
theorem evDraw_cons {o:SOper} {os:List SOper} {r:Fr × AHeap}:evDraw E cc (o :: os) F h = some r ↔ ∃ F1 h1,evDraw1 E cc o F h = some (F1,h1)∧evDraw E cc os F1 h1 = some r:=by
 simp only [evDraw]
 cases hq:evDraw1 E cc o F h with
 | none=>simp
 | some p=>
  obtain ⟨F1,h1⟩:=p
  simp only [Option.some.injEq,Prod.mk.injEq]
  exact ⟨fun hr=>⟨F1,h1,⟨rfl,rfl⟩,hr⟩,fun ⟨_,_,⟨e1,e2⟩,hr⟩=>e1 ▸ e2 ▸ hr⟩
theorem evDraw_move {x:SOper} {post:List SOper} {r:Fr × AHeap}:∀ {pre:List SOper} {F:Fr} {h:AHeap},(∀ y ∈ pre,commute (cls y.op) (cls x.op) = true∧apartS y x = true) →
  evDraw E cc (pre++x :: post) F h = some r→evDraw E cc (x :: (pre++post)) F h = some r
 | [],F,h,_,he=>he
 | y :: pre,F,h,hs,he=>by
  simp only [List.cons_append] at he
  obtain ⟨F1,h1,q1,q2⟩:=evDraw_cons.1 he
  have:=evDraw_move (pre:=pre) (fun z hz=>hs z (List.mem_cons_of_mem _ hz)) q2
  obtain ⟨F2,h2,q3,q4⟩:=evDraw_cons.1 this
  obtain ⟨hc,ha⟩:=hs y List.mem_cons_self
  obtain ⟨F3,h3,q5,q6⟩:=swap1 hc ha q1 q3
  exact evDraw_cons.2 ⟨F3,h3,q5,evDraw_cons.2 ⟨F2,h2,q6,q4⟩⟩
theorem drawOk_spec {ops:Array Oper} {sops:List SOper} (hd:drawOk ops sops = true) {i:Nat} {o:Oper} (hi:ops[i]? = some o):∃ b,sops[i]? = some b∧(∀ e ∈ o.after,Region.binds .any e = true→e.on < i) ∧
  ∀ j,j < i→(∃ e ∈ o.after,Region.binds .any e = true∧e.on = j)∨∃ x,sops[j]? = some x∧commute (cls x.op) (cls b.op) = true∧apartS x b = true:=by
 unfold drawOk at hd
 simp only [List.all_eq_true,List.mem_range] at hd
 have h1:=hd i (Array.getElem?_eq_some_iff.1 hi).1
 rw [hi] at h1
 split at h1
 ·rename_i o' b ho' hb
  cases ho'
  refine ⟨b,hb,?_,?_⟩
  ·intro e he hbn
   simp only [Bool.and_eq_true,Array.all_eq_true_iff_forall_mem] at h1
   have:=h1.1 e he
   simpa [hbn] using this
  ·intro j hj
   simp only [Bool.and_eq_true,List.all_eq_true,List.mem_range] at h1
   have:=h1.2 j hj
   simp only [Bool.or_eq_true] at this
   rcases this with q | q
   ·rw [← Array.any_toList,List.any_eq_true] at q
    obtain ⟨e,he,hq⟩:=q
    replace he:=Array.mem_toList_iff.1 he
    simp only [Bool.and_eq_true,beq_iff_eq] at hq
    exact .inl ⟨e,he,hq.1,hq.2⟩
   ·split at q
    ·rename_i x hx
     simp only [Bool.and_eq_true] at q
     exact .inr ⟨x,hx,q.1,q.2⟩
    ·cases q
 ·cases h1
theorem cOpers_get {all:List Oper}:∀ {os:List Oper} {sos:List SOper},cOpers T R all os = some sos→os.length = sos.length∧∀ (i:Nat) (o:Oper),os[i]? = some o→∃ so g,sos[i]? = some { dst:=o.dst,guard:=g,op:=so }∧cOp T R o = some so∧cGuard all o.guard = some g
 | [],sos,hc=>by
  simp only [cOpers] at hc
  cases hc
  exact ⟨rfl,fun i o hi=>by simp at hi⟩
 | o :: os,sos,hc=>by
  simp only [cOpers] at hc
  split at hc
  ·rename_i op g sos' h1 h2 h3
   cases hc
   obtain ⟨q1,q2⟩:=cOpers_get h3
   refine ⟨by simp [q1],fun i x hi=>?_⟩
   cases i with
   | zero=>
    simp at hi
    subst hi
    exact ⟨op,g,rfl,h1,h2⟩
   | succ i=>simpa using q2 i x (by simpa using hi)
  ·cases hc
def ClosedSim (T:Tie) (E:Env) (cc:AV→List AV→Option AV):Prop:=CallSim T E fun f args h=>(cc f args).map fun v=>(.ret v,h)
theorem draw_oper {o:SOper} {F':Fr} {h':AHeap} (he:evDraw1 E cc o F h = some (F',h')):evOper E (fun f args h=>(cc f args).map fun v=>(.ret v,h)) o F h = some (.normal,F',h'):=by
 unfold evDraw1 at he
 unfold evOper
 split at he
 ·cases he
 ·rename_i hw
  cases he
  rfl
 ·rename_i hw
  split at he
  ·rename_i f args hop
   simp only [Option.map_eq_some_iff] at he
   obtain ⟨v,h1,h2⟩:=he
   cases h2
   rw [hop]
   simp only [h1,Option.map_some]
  ·rename_i hnc
   simp only [Option.map_eq_some_iff] at he
   obtain ⟨p,h1,h2⟩:=he
   cases h2
   cases hop:o.op <;> rw [hop] at h1 <;> simp only [h1,Option.map_some]
   case call f args=>exact absurd hop (hnc f args)
   case panic x=>simp only [ev1] at h1; cases h1
   case defer f as=>simp only [ev1] at h1; cases h1
def AnyOk (ops:Array Oper) (sops:List SOper) (c:Nat):Prop:=∀ (i:Nat) (o:Oper),ops[i]? = some o→i ≠ c→∃ b,sops[i]? = some b∧(∀ e ∈ o.after,Region.binds .any e = true→e.on < i) ∧
  ∀ j,j < i→j ≠ c→(∃ e ∈ o.after,Region.binds .any e = true∧e.on = j)∨∃ x,sops[j]? = some x∧commute (cls x.op) (cls b.op) = true∧apartS x b = true
theorem ready_none {ops:Array Oper} (hedge:∀ (i:Nat) (o:Oper),ops[i]? = some o→∀ e ∈ o.after,Region.binds .any e = true→e.on < i) (l:List Nat) (listed:Array Bool) (hp:l.Pairwise (· < ·)) (hl:∀ i,i ∈ l ↔ i < ops.size∧listed.getD i true = false) (hsz:listed.size = ops.size) (hr:Region.ready .any ops listed = []):l = []:=by
 cases l with
 | nil=>rfl
 | cons k l=>
  exfalso
  obtain ⟨hk1,hk2⟩:=(hl k).1 List.mem_cons_self
  obtain ⟨o,ho⟩:∃ o,ops[k]? = some o:=⟨_,Array.getElem?_eq_getElem hk1⟩
  have:k ∈ Region.ready .any ops listed:=mem_ready.2 ⟨hk2,o,ho,fun e he hbn=>by
   have hlt:=hedge k o ho e he hbn
   have hns:e.on ∉ k :: l:=by
    intro hm
    rcases List.mem_cons.1 hm with q | q
    ·omega
    ·have:=(List.pairwise_cons.1 hp).1 _ q
     omega
   have h1:=mt (hl e.on).2 hns
   have h2:¬ (listed.getD e.on true = false):=fun q=>h1 ⟨by omega,q⟩
   have h3:e.on < listed.size:=by omega
   simp only [Array.getD,h3,dif_pos] at h2 ⊢
   simpa using h2⟩
  rw [hr] at this
  cases this
theorem sim_any (hcall:ClosedSim T E cc) {r:Option Nat} {lo:Nat} {ops:Array Oper} {sops:List SOper} (hco:cOpers T R ops.toList ops.toList = some sops) {c:Nat} (hd:AnyOk ops sops c) {F':Fr} {h':AHeap}:
  ∀ (fuel:Nat) (l:List Nat) (listed:Array Bool) (G:Ghost) (h:AHeap) (w:World) (F:Fr) (a:Act) (Q:Exit→Act→World→Prop),c ∉ l →
   l.Pairwise (· < ·)→(∀ i,i ∈ l ↔ i < ops.size∧listed.getD i true = false)→listed.size = ops.size→l.length ≤ fuel→evDraw E cc (l.filterMap (sops[·]?)) F h = some (F',h')→St T E r lo G h w F a →
   (∀ e a' w',Post T E r lo G w .normal F' h' e a' w'→Q e a' w')→wpAnyIn (FC r) 0 T.P .any ops Q fuel listed a w:=by
 intro fuel
 have hnone:∀ (l:List Nat) (listed:Array Bool),c ∉ l→l.Pairwise (· < ·)→(∀ i,i ∈ l ↔ i < ops.size∧listed.getD i true = false)→listed.size = ops.size→Region.ready .any ops listed = []→l = []:=by
  intro l listed hcl hp hl hsz hr
  cases l with
  | nil=>rfl
  | cons k l=>
   exfalso
   obtain ⟨hk1,hk2⟩:=(hl k).1 List.mem_cons_self
   obtain ⟨o,ho⟩:∃ o,ops[k]? = some o:=⟨_,Array.getElem?_eq_getElem hk1⟩
   obtain ⟨b,hb,hedge,_⟩:=hd k o ho (fun hq=>hcl (hq ▸ List.mem_cons_self))
   have:k ∈ Region.ready .any ops listed:=mem_ready.2 ⟨hk2,o,ho,fun e he hbn=>by
    have hlt:=hedge e he hbn
    have hns:e.on ∉ k :: l:=by
     intro hm
     rcases List.mem_cons.1 hm with q | q
     ·omega
     ·have:=(List.pairwise_cons.1 hp).1 _ q
      omega
    have h1:=mt (hl e.on).2 hns
    have h2:¬ (listed.getD e.on true = false):=fun q=>h1 ⟨by omega,q⟩
    have h3:e.on < listed.size:=by omega
    simp only [Array.getD,h3,dif_pos] at h2 ⊢
    simpa using h2⟩
   rw [hr] at this
   cases this
 induction fuel with
 | zero=>
  intro l listed G h w F a Q hcl hp hl hsz hlen he S hQ
  have:l = []:=List.eq_nil_of_length_eq_zero (by omega)
  subst this
  simp only [List.filterMap_nil,evDraw] at he
  cases he
  refine ⟨?_,hQ _ _ _ ⟨G,Ext.refl S.inv.vlt,S,rfl⟩⟩
  cases hr:Region.ready .any ops listed with
  | nil=>rfl
  | cons i rs=>
   exfalso
   have hi:i ∈ Region.ready .any ops listed:=by rw [hr]; exact List.mem_cons_self
   obtain ⟨h1,o,ho,_⟩:=mem_ready.1 hi
   have:=(hl i).2 ⟨(Array.getElem?_eq_some_iff.1 ho).1,h1⟩
   cases this
 | succ fuel ih=>
  intro l listed G h w F a Q hcl hp hl hsz hlen he S hQ
  refine ⟨fun hr=>?_,fun i hi=>?_⟩
  ·have:=hnone l listed hcl hp hl hsz hr
   subst this
   simp only [List.filterMap_nil,evDraw] at he
   cases he
   exact hQ _ _ _ ⟨G,Ext.refl S.inv.vlt,S,rfl⟩
  ·obtain ⟨h1,o,ho,hready⟩:=mem_ready.1 hi
   have hlt:=(Array.getElem?_eq_some_iff.1 ho).1
   have him:i ∈ l:=(hl i).2 ⟨hlt,h1⟩
   obtain ⟨pre,post,hpp⟩:=List.append_of_mem him
   subst hpp
   obtain ⟨hp1,hp2,hp3⟩:=List.pairwise_append.1 hp
   obtain ⟨b,hb,hedge,hsw⟩:=hd i o ho (fun hq=>hcl (hq ▸ him))
   have hcg:=(cOpers_get hco).2 i o (by simpa using ho)
   obtain ⟨so,g,hso,hop,hg⟩:=hcg
   rw [hb] at hso
   cases hso
   simp only [List.filterMap_append,List.filterMap_cons,hb] at he
   have hmv:=evDraw_move (fun y hy=>by
    obtain ⟨j,hj1,hj2⟩:=List.mem_filterMap.1 hy
    have hji:j < i:=hp3 j hj1 i List.mem_cons_self
    rcases hsw j hji (fun hq=>hcl (hq ▸ List.mem_append_left _ hj1)) with ⟨e,he1,he2,he3⟩ | ⟨x,hx,hx2⟩
    ·exfalso
     have:=hready e he1 he2
     rw [he3] at this
     have hjl:=((hl j).1 (List.mem_append_left _ hj1)).2
     have hjs:j < listed.size:=by omega
     simp only [Array.getD,hjs,dif_pos] at this hjl
     rw [hjl] at this
     cases this
    ·rw [hx] at hj2
     cases hj2
     exact hx2) he
   obtain ⟨F1,hh1,q1,q2⟩:=evDraw_cons.1 hmv
   unfold wpOpIn
   rw [ho]
   have hsim:=sim_oper hcall hop hg (draw_oper q1) S (wpAnyIn (FC r) 0 T.P .any ops Q fuel (listed.setIfInBounds i true)) Q
    (fun G' a' w' _ X S'=>by
     refine ih (pre++post) (listed.setIfInBounds i true) G' hh1 w' F1 a' Q (fun hm=>hcl (by rcases List.mem_append.1 hm with q | q; exact List.mem_append_left _ q; exact List.mem_append_right _ (List.mem_cons_of_mem _ q))) ?_ ?_ (by simpa using hsz) ?_ ?_ S' fun e a2 w2 hq=>hQ e a2 w2 (Post.trans X hq)
     ·exact List.pairwise_append.2 ⟨hp1,(List.pairwise_cons.1 hp2).2,fun x hx y hy=>hp3 x hx y (List.mem_cons_of_mem _ hy)⟩
     ·intro j
      have hj:=hl j
      by_cases hji:j = i
      ·subst hji
       have hjs:j < listed.size:=by omega
       constructor
       ·intro hm
        exfalso
        rcases List.mem_append.1 hm with q | q
        ·have:=hp3 j q j List.mem_cons_self; omega
        ·have:=(List.pairwise_cons.1 hp2).1 j q; omega
       ·intro hm
        have:=hm.2
        simp [Array.getD,hjs] at this
      ·rw [getD_set_ne true (Ne.symm hji)]
       rw [← hj]
       simp only [List.mem_append,List.mem_cons]
       constructor
       ·rintro (q | q)
        ·exact .inl q
        ·exact .inr (.inr q)
       ·rintro (q | q | q)
        ·exact .inl q
        ·exact absurd q hji
        ·exact .inr q
     ·simp only [List.length_append,List.length_cons] at hlen ⊢
      omega
     ·rw [List.filterMap_append]
      exact q2)
    (fun G' a' w' v u hx=>by cases hx)
   exact hsim
theorem filterMap_range' {α:Type}:∀ (l pre:List α),(List.range' pre.length l.length).filterMap ((pre++l)[·]?) = l
 | [],pre=>by simp
 | x :: l,pre=>by
  simp only [List.length_cons,List.range'_succ,List.filterMap_cons]
  have h0:(pre++x :: l)[pre.length]? = some x:=by simp
  rw [h0]
  simp only
  have:=filterMap_range' l (pre++[x])
  simp only [List.length_append,List.length_singleton,List.append_assoc,List.singleton_append] at this
  rw [this]
theorem filterMap_range {α:Type} (l:List α):(List.range l.length).filterMap (l[·]?) = l:=by
 have:=filterMap_range' l []
 simpa [List.range_eq_range'] using this
theorem sim_draw (hcall:ClosedSim T E cc) (hmix:T.P.follows .mixedOrders = true) {r:Option Nat} {lo:Nat} {id:Nat} {ops:Array Oper} {sops:List SOper} (hco:cOpers T R ops.toList ops.toList = some sops) (hd:drawOk ops sops = true) {F':Fr} {h':AHeap}
  (he:evDraw E cc sops F h = some (F',h')) (S:St T E r lo G h w F a):(Code.region id ops true).wpIn (FC r) 0 T.P (Post T E r lo G w .normal F' h') a w:=by
 refine wpIn_region_any hmix ?_
 obtain ⟨X,I⟩:=S.inv.drew
 have hlen:sops.length = ops.size:=by have:=(cOpers_get hco).1; simpa using this.symm
 refine sim_any hcall hco (c:=ops.size) (fun i o ho _=>by obtain ⟨b,q1,q2,q3⟩:=drawOk_spec hd ho; exact ⟨b,q1,q2,fun j hj _=>q3 j hj⟩) ops.size (List.range ops.size) _ G h _ F a _ (by simp) ?_ ?_ (by simp) (by simp) ?_ (S.turn X I) fun e a' w' hq=>Post.trans X hq
 ·exact List.pairwise_lt_range
 ·intro i
  simp only [List.mem_range]
  constructor
  ·intro hi
   exact ⟨hi,by simp [Array.getD,hi]⟩
  ·exact fun hi=>hi.1
 ·rw [← hlen,filterMap_range]
  exact he
end Go.Pv
/- A region that draws its order, with one call that may change the heap. Conditions: what is said of calls; lemmas. -/
namespace Go.Pv
open Go.RowKit
variable {T:Tie} {E:Env} {G:Ghost} {h:AHeap} {w:World} {F:Fr} {a:Act} {cc:AV→List AV→Option AV} {call:AV→List AV→AHeap→Option (CRes × AHeap)}
theorem val0_eq {o:SOper} {F F':Fr} (hs:∀ t ∈ o.looks,F'.get t = F.get t) (h:AHeap):val0 E o F' h = val0 E o F h:=by
 unfold SOper.looks at hs
 simp only [List.mem_append] at hs
 unfold val0
 rw [wanted_eq fun t ht=>hs t (.inl ht)]
 split
 ·rfl
 ·rfl
 ·exact ev1_eq (fun t ht=>hs t (.inr ht)) h
theorem ev1_call {f:SOpd} {as:List SOpd}:ev1 E F h (.call f as) = none:=rfl
theorem val0_val {o:SOper} {r:AV × AHeap} (he:val0 E o F h = some r):val1 E cc o F h = some r:=by
 unfold val0 at he
 unfold val1
 cases hw:wanted o.guard F with
 | none=>rw [hw] at he; cases he
 | some b=>
  rw [hw] at he
  cases b with
  | false=>exact he
  | true=>
   simp only at he ⊢
   cases hop:o.op <;> rw [hop] at he <;> first | exact he | skip
   rw [ev1_call] at he
   cases he
theorem val0_draw {o:SOper} {v:AV} {h':AHeap} (he:val0 E o F h = some (v,h')):evDraw1 E cc o F h = some (F.put o.dst v,h'):=by
 rw [evDraw1_val,val0_val he]
 rfl
theorem twin_cons {o:SOper} {os:List SOper} {h2:AHeap} {F1:Fr}:Twin E (o :: os) F h h2 F1 ↔ ∃ v,val0 E o F h = some (v,h)∧val0 E o F h2 = some (v,h2)∧Twin E os (F.put o.dst v) h h2 F1:=Iff.rfl
theorem twin_move {x:SOper} {post:List SOper} {h2:AHeap} {F1:Fr}:∀ {pre:List SOper} {F:Fr},(∀ y ∈ pre,apartS y x = true)→Twin E (pre++x :: post) F h h2 F1→Twin E (x :: (pre++post)) F h h2 F1
 | [],F,_,he=>he
 | y :: pre,F,hs,he=>by
  obtain ⟨v,q1,q2,q3⟩:=twin_cons.1 he
  have hm:=twin_move (pre:=pre) (fun z hz=>hs z (List.mem_cons_of_mem _ hz)) q3
  obtain ⟨u,q4,q5,q6⟩:=twin_cons.1 hm
  obtain ⟨a1,a2⟩:=apartS_spec (hs y List.mem_cons_self)
  have look:∀ t ∈ x.looks,(F.put y.dst v).get t = F.get t:=fun t ht=>get_put fun d hd=>fun he=>(a1 d hd).1 (he ▸ ht)
  have look2:∀ t ∈ y.looks,(F.put x.dst u).get t = F.get t:=fun t ht=>get_put fun d hd=>fun he=>a2 d hd (he ▸ ht)
  refine twin_cons.2 ⟨u,(val0_eq look h).symm.trans q4,(val0_eq look h2).symm.trans q5,twin_cons.2 ⟨v,(val0_eq look2 h).trans q1,(val0_eq look2 h2).trans q2,?_⟩⟩
  rw [← put_comm fun d hd=>(a1 d hd).2]
  exact q6
theorem twin_draw {h2:AHeap}:∀ {os:List SOper} {F F1:Fr},Twin E os F h h2 F1→evDraw E cc os F h2 = some (F1,h2)
 | [],F,F1,he=>by cases he; rfl
 | o :: os,F,F1,he=>by
  obtain ⟨v,_,q2,q3⟩:=twin_cons.1 he
  exact evDraw_cons.2 ⟨_,_,val0_draw q2,twin_draw q3⟩
theorem draw_append {xs ys:List SOper} {r:Fr × AHeap}:∀ {F:Fr} {h:AHeap},evDraw E cc (xs++ys) F h = some r ↔ ∃ F1 h1,evDraw E cc xs F h = some (F1,h1)∧evDraw E cc ys F1 h1 = some r:=by
 induction xs with
 | nil=>
  intro F h
  exact ⟨fun he=>⟨F,h,rfl,he⟩,fun ⟨_,_,he,hk⟩=>by cases he; exact hk⟩
 | cons x xs ih=>
  intro F h
  rw [List.cons_append]
  constructor
  ·intro he
   obtain ⟨F1,h1,q1,q2⟩:=evDraw_cons.1 he
   obtain ⟨F2,h2,q3,q4⟩:=ih.1 q2
   exact ⟨F2,h2,evDraw_cons.2 ⟨F1,h1,q1,q3⟩,q4⟩
  ·rintro ⟨F2,h2,q1,q2⟩
   obtain ⟨F1,h1,q3,q4⟩:=evDraw_cons.1 q1
   exact evDraw_cons.2 ⟨F1,h1,q3,ih.2 ⟨F2,h2,q4,q2⟩⟩
theorem twin_put {h2:AHeap} {d:Option Nat} {v:AV} {c:SOper} (hd:c.dst = d):∀ {os:List SOper} {F F1:Fr},(∀ y ∈ os,apartS y c = true)→Twin E os F h h2 F1→Twin E os (F.put d v) h h2 (F1.put d v)
 | [],F,F1,_,he=>by cases he; rfl
 | o :: os,F,F1,hs,he=>by
  obtain ⟨u,q1,q2,q3⟩:=twin_cons.1 he
  obtain ⟨a1,a2⟩:=apartS_spec (hs o List.mem_cons_self)
  have look:∀ t ∈ o.looks,(F.put d v).get t = F.get t:=fun t ht=>get_put fun d' hd'=>fun he=>a2 d' (hd.trans hd') (he ▸ ht)
  refine twin_cons.2 ⟨u,(val0_eq look h).trans q1,(val0_eq look h2).trans q2,?_⟩
  rw [put_comm fun x hx=>fun he=>(a1 _ he).2 (hd.trans hx)]
  exact twin_put hd (fun y hy=>hs y (List.mem_cons_of_mem _ hy)) q3
theorem twin_get {h2:AHeap} {t:Nat}:∀ {os:List SOper} {F F1:Fr},(∀ y ∈ os,y.dst ≠ some t)→Twin E os F h h2 F1→F1.get t = F.get t
 | [],F,F1,_,he=>by cases he; rfl
 | o :: os,F,F1,hs,he=>by
  obtain ⟨u,q1,q2,q3⟩:=twin_cons.1 he
  rw [twin_get (fun y hy=>hs y (List.mem_cons_of_mem _ hy)) q3]
  exact get_put fun d hd=>fun he=>hs o List.mem_cons_self (he ▸ hd)
structure MixSpec (ops:Array Oper) (sops:List SOper) (c m:Nat) (cb:SOper):Prop where
 size:c + m < ops.size
 edge:∀ (i:Nat) (o:Oper),ops[i]? = some o→∀ e ∈ o.after,Region.binds .any e = true→e.on < i
 pre:∀ i o,ops[i]? = some o→i ≠ c→i ≤ c + m→∃ b,sops[i]? = some b∧∀ j,j < i→j ≠ c→(∃ e ∈ o.after,Region.binds .any e = true∧e.on = j)∨∃ x,sops[j]? = some x∧apartS x b = true
 call:∀ o,ops[c]? = some o→sops[c]? = some cb∧(∃ f as,cb.op = .call f as)∧∀ j,j ≠ c→j ≤ c + m→(∃ e ∈ o.after,Region.binds .any e = true∧e.on = j)∨∃ x,sops[j]? = some x∧apartS x cb = true
 post:∀ i o,ops[i]? = some o→c + m < i→∃ e ∈ o.after,Region.binds .any e = true∧(e.on = c∨c + m < e.on)
 any:AnyOk ops sops c
theorem mixOk_spec {ops:Array Oper} {sops:List SOper} {c m:Nat} {cb:SOper} (hcb:sops[c]? = some cb) (hm:mixOk ops sops c m = true):MixSpec ops sops c m cb:=by
 have key:c + m < ops.size∧∀ (i:Nat) (o:Oper),ops[i]? = some o→∃ b,sops[i]? = some b∧(∀ e ∈ o.after,Region.binds .any e = true→e.on < i) ∧
   (((i ≠ c∧i ≤ c + m)∧(i < c∨apartS b cb = true))∨(i = c∧∃ f as,b.op = .call f as)∨(c + m < i∧∃ e ∈ o.after,Region.binds .any e = true∧(e.on = c∨c + m < e.on))) ∧
   ∀ j,j < i→j ≠ c→(∃ e ∈ o.after,Region.binds .any e = true∧e.on = j)∨∃ x,sops[j]? = some x∧(i = c∨commute (cls x.op) (cls b.op) = true)∧apartS x b = true:=by
  unfold mixOk at hm
  simp only [Bool.and_eq_true,decide_eq_true_eq] at hm
  obtain ⟨hsz,hm⟩:=hm
  refine ⟨hsz,?_⟩
  intro i o hi
  simp only [List.all_eq_true,List.mem_range] at hm
  have h1:=hm i (Array.getElem?_eq_some_iff.1 hi).1
  rw [hi] at h1
  split at h1
  ·rename_i o' b ho' hb
   cases ho'
   rw [hcb] at h1
   simp only [Bool.and_eq_true,Array.all_eq_true_iff_forall_mem,List.all_eq_true,List.mem_range] at h1
   obtain ⟨⟨h1,h2⟩,h3⟩:=h1
   refine ⟨b,hb,?_,?_,?_⟩
   ·intro e he hbn
    have:=h1 e he
    simpa [hbn] using this
   ·simp only [Bool.or_eq_true,Bool.and_eq_true,decide_eq_true_eq,beq_iff_eq] at h2
    rcases h2 with (h2 | h2) | h2
    ·exact .inl ⟨h2.1.1.1,h2.2⟩
    ·refine .inr (.inl ⟨h2.1,?_⟩)
     have:=h2.2
     split at this
     ·rename_i f as hop
      exact ⟨f,as,hop⟩
     ·cases this
    ·refine .inr (.inr ⟨h2.1,?_⟩)
     have:=h2.2
     rw [← Array.any_toList,List.any_eq_true] at this
     obtain ⟨e,he,hq⟩:=this
     simp only [Bool.and_eq_true,Bool.or_eq_true,beq_iff_eq,decide_eq_true_eq] at hq
     exact ⟨e,Array.mem_toList_iff.1 he,hq.1,hq.2⟩
   ·intro j hj hjc
    have:=h3 j hj
    simp only [Bool.or_eq_true,beq_iff_eq] at this
    rcases this with (q | q) | q
    ·exact absurd q hjc
    ·rw [← Array.any_toList,List.any_eq_true] at q
     obtain ⟨e,he,hq⟩:=q
     simp only [Bool.and_eq_true,beq_iff_eq] at hq
     exact .inl ⟨e,Array.mem_toList_iff.1 he,hq.1,hq.2⟩
    ·split at q
     ·rename_i x hx
      simp only [Bool.and_eq_true,Bool.or_eq_true,beq_iff_eq] at q
      exact .inr ⟨x,hx,q.1,q.2⟩
     ·cases q
  ·cases h1
 obtain ⟨hsz,key⟩:=key
 refine ⟨hsz,fun i o hi=>?_,fun i o hi hne hle=>?_,fun o hi=>?_,fun i o hi hlt=>?_,fun i o hi hne=>?_⟩
 ·obtain ⟨b,_,h1,_⟩:=key i o hi
  exact h1
 ·obtain ⟨b,hb,h1,h2,h3⟩:=key i o hi
  refine ⟨b,hb,fun j hj hjc=>?_⟩
  rcases h3 j hj hjc with q | ⟨x,q1,_,q2⟩
  ·exact .inl q
  ·exact .inr ⟨x,q1,q2⟩
 ·obtain ⟨b,hb,h1,h2,h3⟩:=key c o hi
  rw [hcb] at hb
  cases hb
  refine ⟨hcb,?_,fun j hjc hj=>?_⟩
  ·rcases h2 with q | ⟨_,q⟩ | q
   ·exact absurd rfl q.1.1
   ·exact q
   ·omega
  ·rcases Nat.lt_or_ge j c with hlt | hge
   ·rcases h3 j hlt hjc with q | ⟨x,q1,_,q2⟩
    ·exact .inl q
    ·exact .inr ⟨x,q1,q2⟩
   ·obtain ⟨b',hb',_,k2,_⟩:=key j _ (Array.getElem?_eq_getElem (by omega))
    rcases k2 with q | q | q
    ·rcases q.2 with q | q
     ·omega
     ·exact .inr ⟨b',hb',q⟩
    ·exact absurd q.1 hjc
    ·omega
 ·obtain ⟨b,hb,h1,h2,h3⟩:=key i o hi
  rcases h2 with q | q | q
  ·omega
  ·omega
  ·exact q.2
 ·obtain ⟨b,hb,h1,h2,h3⟩:=key i o hi
  refine ⟨b,hb,h1,fun j hj hjc=>?_⟩
  rcases h3 j hj hjc with q | ⟨x,q1,q2,q3⟩
  ·exact .inl q
  ·exact .inr ⟨x,q1,q2.resolve_left hne,q3⟩
theorem call_oper {b:SOper} {f:SOpd} {as:List SOpd} (hop:b.op = .call f as) {F2:Fr} {h2:AHeap} (he:evOper E call b F h = some (.normal,F2,h2)):
  (∃ v,F2 = F.put b.dst v)∧∀ F',(∀ t ∈ b.looks,F'.get t = F.get t)→∃ v,F2 = F.put b.dst v∧evOper E call b F' h = some (.normal,F'.put b.dst v,h2):=by
 have main:∃ v,F2 = F.put b.dst v∧∀ F',(∀ t ∈ b.looks,F'.get t = F.get t)→evOper E call b F' h = some (.normal,F'.put b.dst v,h2):=by
  unfold evOper at he
  split at he
  ·cases he
  ·rename_i hw
   cases he
   refine ⟨_,rfl,fun F' hs=>?_⟩
   unfold SOper.looks at hs
   unfold evOper
   rw [wanted_eq fun t ht=>hs t (List.mem_append_left _ ht),hw]
  ·rename_i hw
   rw [hop] at he
   simp only at he
   split at he
   ·cases he
   ·rename_i v h1 hv
    cases he
    refine ⟨_,rfl,fun F' hs=>?_⟩
    unfold SOper.looks at hs
    rw [hop] at hs
    simp only [reads,List.mem_append] at hs
    unfold evOper
    rw [wanted_eq fun t ht=>hs t (.inl ht),hw,hop]
    simp only
    rw [opd_eq (E:=E) fun t ht=>hs t (.inr (.inl ht)),opl_eq (E:=E) fun t ht=>hs t (.inr (.inr ht)),hv]
   ·cases he
 obtain ⟨v,h1,h3⟩:=main
 exact ⟨⟨v,h1⟩,fun F' hs=>⟨v,h1,h3 F' hs⟩⟩
end Go.Pv
namespace Go.Pv
open Go.RowKit
variable {T:Tie} {R:Nat→Bool} {E:Env} {cc:AV→List AV→Option AV} {call:AV→List AV→AHeap→Option (CRes × AHeap)}
theorem listed_set {ops:Array Oper} {l pre post:List Nat} {i:Nat} {listed:Array Bool} (hsz:listed.size = ops.size) (hlt:i < ops.size) (hl:∀ j,j ∈ l ↔ j < ops.size∧listed.getD j true = false) (hpp:l = pre++i :: post) (hn:i ∉ pre∧i ∉ post):
  ∀ j,j ∈ pre++post ↔ j < ops.size∧(listed.setIfInBounds i true).getD j true = false:=by
 subst hpp
 intro j
 have hj:=hl j
 by_cases hji:j = i
 ·subst hji
  have hjs:j < listed.size:=by omega
  constructor
  ·intro hm
   exfalso
   rcases List.mem_append.1 hm with q | q
   ·exact hn.1 q
   ·exact hn.2 q
  ·intro hm
   have:=hm.2
   simp [Array.getD,hjs] at this
 ·rw [getD_set_ne true (Ne.symm hji)]
  rw [← hj]
  simp only [List.mem_append,List.mem_cons]
  constructor
  ·rintro (q | q)
   ·exact .inl q
   ·exact .inr (.inr q)
  ·rintro (q | q | q)
   ·exact .inl q
   ·exact absurd q hji
   ·exact .inr q
theorem not_ready {ops:Array Oper} {l:List Nat} {listed:Array Bool} (hsz:listed.size = ops.size) (hl:∀ j,j ∈ l ↔ j < ops.size∧listed.getD j true = false) {j:Nat} (hj:j ∈ l) (h:listed.getD j false = true):False:=by
 have hjl:=((hl j).1 hj)
 have hjs:j < listed.size:=by omega
 have h2:=hjl.2
 simp only [Array.getD,hjs,dif_pos] at h h2
 rw [h2] at h
 cases h
theorem ready_ex {ops:Array Oper} (hedge:∀ (i:Nat) (o:Oper),ops[i]? = some o→∀ e ∈ o.after,Region.binds .any e = true→e.on < i) {l:List Nat} {listed:Array Bool} (hl:∀ i,i ∈ l ↔ i < ops.size∧listed.getD i true = false) (hsz:listed.size = ops.size) (hr:Region.ready .any ops listed = []):∀ i,i ∉ l:=by
 intro i
 induction i using Nat.strongRecOn with
 | ind k ih=>
  intro hk
  obtain ⟨hk1,hk2⟩:=(hl k).1 hk
  obtain ⟨o,ho⟩:∃ o,ops[k]? = some o:=⟨_,Array.getElem?_eq_getElem hk1⟩
  have:k ∈ Region.ready .any ops listed:=mem_ready.2 ⟨hk2,o,ho,fun e he hbn=>by
   have hlt:=hedge k o ho e he hbn
   have h1:=mt (hl e.on).2 (ih e.on hlt)
   have h2:¬ (listed.getD e.on true = false):=fun q=>h1 ⟨by omega,q⟩
   have h3:e.on < listed.size:=by omega
   simp only [Array.getD,h3,dif_pos] at h2 ⊢
   simpa using h2⟩
  rw [hr] at this
  cases this
theorem sim_mix (hclosed:ClosedSim T E cc) (hcall:CallSim T E call) {r:Option Nat} {lo:Nat} {ops:Array Oper} {sops:List SOper} (hco:cOpers T R ops.toList ops.toList = some sops) {c m:Nat} {cb:SOper} (M:MixSpec ops sops c m cb)
  {h h2:AHeap} {F1 F2 F':Fr} {h':AHeap} (hev:evOper E call cb F1 h = some (.normal,F2,h2)) (hpost:evDraw E cc ((List.range' (c + 1 + m) (ops.size - (c + 1 + m))).filterMap (sops[·]?)) F2 h2 = some (F',h')):
  ∀ (fuel:Nat) (lp:List Nat) (listed:Array Bool) (G:Ghost) (w:World) (F:Fr) (a:Act) (Q:Exit→Act→World→Prop),
   lp.Pairwise (· < ·)→(∀ j ∈ lp,j ≠ c∧j ≤ c + m)→(∀ i,i ∈ lp++c :: List.range' (c + 1 + m) (ops.size - (c + 1 + m)) ↔ i < ops.size∧listed.getD i true = false)→listed.size = ops.size→(lp++c :: List.range' (c + 1 + m) (ops.size - (c + 1 + m))).length ≤ fuel →
   Twin E (lp.filterMap (sops[·]?)) F h h2 F1→St T E r lo G h w F a→(∀ e a' w',Post T E r lo G w .normal F' h' e a' w'→Q e a' w')→wpAnyIn (FC r) 0 T.P .any ops Q fuel listed a w:=by
 intro fuel
 induction fuel with
 | zero=>
  intro lp listed G w F a Q hp hlt hl hsz hlen
  simp at hlen
 | succ fuel ih=>
  intro lp listed G w F a Q hp hlt hl hsz hlen hT S hQ
  refine ⟨fun hr=>?_,fun i hi=>?_⟩
  ·exact (ready_ex M.edge hl hsz hr c (List.mem_append_right _ List.mem_cons_self)).elim
  ·obtain ⟨h1,o,ho,hready⟩:=mem_ready.1 hi
   have hilt:=(Array.getElem?_eq_some_iff.1 ho).1
   have him:=(hl i).2 ⟨hilt,h1⟩
   have hedge:=M.edge i o ho
   have hstop:∀ e ∈ o.after,Region.binds .any e = true→e.on ∈ lp++c :: List.range' (c + 1 + m) (ops.size - (c + 1 + m))→False:=fun e he hb hm=>not_ready hsz hl hm (hready e he hb)
   obtain ⟨so,g,hso,hop,hg⟩:=(cOpers_get hco).2 i o (by simpa using ho)
   unfold wpOpIn
   rw [ho]
   by_cases hic:i = c
   ·-- the call
    subst hic
    obtain ⟨hb,⟨f,as,hfc⟩,hap⟩:=M.call o ho
    rw [hso] at hb
    cases hb
    have hapl:∀ y ∈ lp.filterMap (sops[·]?),apartS y { dst:=o.dst,guard:=g,op:=so } = true:=by
     intro y hy
     obtain ⟨j,hj1,hj2⟩:=List.mem_filterMap.1 hy
     rcases hap j (hlt j hj1).1 (hlt j hj1).2 with ⟨e,he1,he2,he3⟩ | ⟨x,hx,hx2⟩
     ·exact (hstop e he1 he2 (by rw [he3]; exact List.mem_append_left _ hj1)).elim
     ·rw [hx] at hj2
      cases hj2
      exact hx2
    obtain ⟨_,hcs2⟩:=call_oper (E:=E) (call:=call) hfc hev
    obtain ⟨v,hF2,hev2⟩:=hcs2 F (fun t ht=>(twin_get (fun y hy hq=>((apartS_spec (hapl y hy)).1 t hq).1 ht) hT).symm)
    refine sim_oper hcall hop hg hev2 S (wpAnyIn (FC r) 0 T.P .any ops Q fuel (listed.setIfInBounds i true)) Q ?_ (fun G' a' w' v u hx=>by cases hx)
    intro G' a' w' _ X S'
    have hnl:i ∉ lp:=fun q=>(hlt i q).1 rfl
    have hnr:i ∉ List.range' (i + 1 + m) (ops.size - (i + 1 + m)):=fun q=>by have:=List.mem_range'_1.1 q; omega
    refine sim_any hclosed hco M.any fuel (lp++List.range' (i + 1 + m) (ops.size - (i + 1 + m))) (listed.setIfInBounds i true) G' h2 w' _ a' Q ?_ ?_ ?_ (by simpa using hsz) ?_ ?_ S' fun e a2 w2 hq=>hQ e a2 w2 (Post.trans X hq)
    ·intro q
     rcases List.mem_append.1 q with q | q
     ·exact hnl q
     ·exact hnr q
    ·refine List.pairwise_append.2 ⟨hp,List.pairwise_lt_range',fun x hx y hy=>?_⟩
     have h1:=(hlt x hx).2
     have:=List.mem_range'_1.1 hy
     omega
    ·exact listed_set hsz hilt hl rfl ⟨hnl,hnr⟩
    ·simp only [List.length_append,List.length_cons] at hlen ⊢
     omega
    ·rw [List.filterMap_append]
     exact draw_append.2 ⟨_,_,twin_draw (twin_put rfl hapl hT),by rw [hF2] at hpost; exact hpost⟩
   rcases Nat.lt_or_ge (c + m) i with him2 | him2
   ·-- one behind it
    exfalso
    obtain ⟨e,he1,he2,he3⟩:=M.post i o ho him2
    have:=hedge e he1 he2
    refine hstop e he1 he2 (List.mem_append_right _ ?_)
    rcases he3 with q | q
    ·rw [q]
     exact List.mem_cons_self
    ·exact List.mem_cons_of_mem _ (List.mem_range'_1.2 ⟨by omega,by omega⟩)
   ·-- one of those that look
    have hilp:i ∈ lp:=by
     rcases List.mem_append.1 him with q | q
     ·exact q
     ·rcases List.mem_cons.1 q with q | q
      ·exact absurd q hic
      ·have:=List.mem_range'_1.1 q
       omega
    obtain ⟨pre,post,hpp⟩:=List.append_of_mem hilp
    subst hpp
    obtain ⟨hp1,hp2,hp3⟩:=List.pairwise_append.1 hp
    obtain ⟨b,hb,hap⟩:=M.pre i o ho hic him2
    rw [hso] at hb
    cases hb
    simp only [List.filterMap_append,List.filterMap_cons,hso] at hT
    have hmv:=twin_move (fun y hy=>by
     obtain ⟨j,hj1,hj2⟩:=List.mem_filterMap.1 hy
     rcases hap j (hp3 j hj1 i List.mem_cons_self) (hlt j (List.mem_append_left _ hj1)).1 with ⟨e,he1,he2,he3⟩ | ⟨x,hx,hx2⟩
     ·exact (hstop e he1 he2 (by rw [he3]; exact List.mem_append_left _ (List.mem_append_left _ hj1))).elim
     ·rw [hx] at hj2
      cases hj2
      exact hx2) hT
    obtain ⟨v,q1,q2,q3⟩:=twin_cons.1 hmv
    refine sim_oper hclosed hop hg (draw_oper (val0_draw q1)) S (wpAnyIn (FC r) 0 T.P .any ops Q fuel (listed.setIfInBounds i true)) Q ?_ (fun G' a' w' v u hx=>by cases hx)
    intro G' a' w' _ X S'
    refine ih (pre++post) (listed.setIfInBounds i true) G' w' _ a' Q ?_ ?_ ?_ (by simpa using hsz) ?_ ?_ S' fun e a2 w2 hq=>hQ e a2 w2 (Post.trans X hq)
    ·exact List.pairwise_append.2 ⟨hp1,(List.pairwise_cons.1 hp2).2,fun x hx y hy=>hp3 x hx y (List.mem_cons_of_mem _ hy)⟩
    ·intro j hj
     refine hlt j ?_
     rcases List.mem_append.1 hj with q | q
     ·exact List.mem_append_left _ q
     ·exact List.mem_append_right _ (List.mem_cons_of_mem _ q)
    ·have:=listed_set (pre:=pre) (post:=post++c :: List.range' (c + 1 + m) (ops.size - (c + 1 + m))) hsz hilt hl (by simp) ⟨fun q=>by have:=hp3 i q i List.mem_cons_self; omega,fun q=>by
      rcases List.mem_append.1 q with q | q
      ·have:=(List.pairwise_cons.1 hp2).1 i q; omega
      ·rcases List.mem_cons.1 q with q | q
       ·exact hic q
       ·have:=List.mem_range'_1.1 q; omega⟩
     intro j
     rw [List.append_assoc]
     exact this j
    ·simp only [List.length_append,List.length_cons] at hlen ⊢
     omega
    ·rw [List.filterMap_append]
     exact q3
theorem filterMap_mid {α:Type} (post:List α):∀ (mid pre:List α),(List.range' pre.length mid.length).filterMap ((pre++(mid++post))[·]?) = mid
 | [],pre=>by simp
 | x :: mid,pre=>by
  simp only [List.length_cons,List.range'_succ,List.filterMap_cons]
  have h0:(pre++(x :: mid++post))[pre.length]? = some x:=by simp
  rw [h0]
  simp only
  have:=filterMap_mid post mid (pre++[x])
  simp only [List.length_append,List.length_singleton,List.append_assoc,List.singleton_append] at this
  rw [List.cons_append]
  rw [this]
theorem filterMap_take {α:Type} (l:List α) {c:Nat} (hc:c ≤ l.length):(List.range' 0 c).filterMap (l[·]?) = l.take c:=by
 have:=filterMap_mid (l.drop c) (l.take c) []
 simp only [List.nil_append,List.take_append_drop,List.length_nil,List.length_take,Nat.min_eq_left hc] at this
 exact this
theorem filterMap_drop {α:Type} (l:List α) (c:Nat):(List.range' c (l.length - c)).filterMap (l[·]?) = l.drop c:=by
 rcases Nat.lt_or_ge l.length c with h | h
 ·rw [List.drop_of_length_le (by omega),Nat.sub_eq_zero_of_le (by omega)]
  rfl
 ·have:=filterMap_range' (l.drop c) (l.take c)
  rw [List.take_append_drop,List.length_take,List.length_drop,Nat.min_eq_left h] at this
  exact this
theorem sim_mixed (hclosed:ClosedSim T E cc) (hcall:CallSim T E call) (hmix:T.P.follows .mixedOrders = true) {r:Option Nat} {lo:Nat} {id:Nat} {ops:Array Oper} {sops:List SOper} (hco:cOpers T R ops.toList ops.toList = some sops) {c m:Nat} {cb:SOper} (hcb:sops[c]? = some cb) (hm:mixOk ops sops c m = true)
  {G:Ghost} {h:AHeap} {w:World} {F:Fr} {a:Act} {x:AExit} {F':Fr} {h':AHeap}
  (he:evMixed E cc call (sops.take c++(sops.drop (c + 1)).take m) cb (sops.drop (c + 1 + m)) F h = some (x,F',h')) (S:St T E r lo G h w F a):(Code.region id ops true).wpIn (FC r) 0 T.P (Post T E r lo G w x F' h') a w:=by
 have hlen:sops.length = ops.size:=by have:=(cOpers_get hco).1; simpa using this.symm
 have M:=mixOk_spec hcb hm
 have hsz:=M.size
 unfold evMixed at he
 split at he
 ·cases he
 ·rename_i F1 h1 hd
  split at he
  ·rename_i F2 h2 hev
   split at he
   ·rename_i hT
    simp only [Option.map_eq_some_iff] at he
    obtain ⟨p,hp,hq⟩:=he
    cases hq
    refine wpIn_region_any hmix ?_
    obtain ⟨X,I⟩:=S.inv.drew
    refine sim_mix hclosed hcall hco M (F1:=F1) (F2:=F2) (h2:=h2) hev ?_ ops.size (List.range' 0 c++List.range' (c + 1) m) _ G _ F a _ ?_ ?_ ?_ (by simp) ?_ ?_ (S.turn X I) fun e a' w' hq=>Post.trans X hq
    ·rw [← hlen,filterMap_drop]
     exact hp
    ·refine List.pairwise_append.2 ⟨List.pairwise_lt_range',List.pairwise_lt_range',fun x hx y hy=>?_⟩
     have h1:=List.mem_range'_1.1 hx
     have h2:=List.mem_range'_1.1 hy
     omega
    ·intro j hj
     rcases List.mem_append.1 hj with q | q <;> have:=List.mem_range'_1.1 q <;> omega
    ·intro i
     simp only [List.mem_append,List.mem_cons,List.mem_range'_1]
     constructor
     ·intro hi
      have hi':i < ops.size:=by omega
      exact ⟨hi',by simp [Array.getD,hi']⟩
     ·intro hi
      have:=hi.1
      omega
    ·simp only [List.length_append,List.length_cons,List.length_range']
     omega
    ·rw [List.filterMap_append,filterMap_take sops (by omega)]
     have h1:=filterMap_mid ((sops.drop (c + 1)).drop m) ((sops.drop (c + 1)).take m) (sops.take (c + 1))
     rw [List.take_append_drop,List.take_append_drop,List.length_take,List.length_take,List.length_drop,Nat.min_eq_left (by omega),Nat.min_eq_left (by omega)] at h1
     rw [h1]
     exact hT
   ·cases he
  ·cases he
end Go.Pv
/- A region that draws its order, with reads that may stand behind later stores. Conditions: what is said of calls; lemmas. -/
namespace Go.Pv
open Go.RowKit
variable {T:Tie} {R:Nat→Bool} {E:Env} {G:Ghost} {h:AHeap} {w:World} {F:Fr} {a:Act} {cc:AV→List AV→Option AV} {r:Fr × AHeap}
theorem st_cons {o:SOper} {k:Nat} {os:List (SOper × Nat)} {pend:List (Nat × (AHeap→Prop))}:StP E cc ((o,k) :: os) pend F h r ↔ ∃ v h',val1 E cc o F h = some (v,h')∧(o.op.isStore = true→∀ p ∈ pend,0 < p.1→p.2 h')∧StP E cc os (nextP E o k F v pend) (F.put o.dst v) h' r:=Iff.rfl
def PLe (p2 p1:List (Nat × (AHeap→Prop))):Prop:=∀ k P,0 < k→(k,P) ∈ p2→(k,P) ∈ p1
theorem ple_map {p1 p2:List (Nat × (AHeap→Prop))} (hp:PLe p2 p1):PLe (p2.map fun p=>(p.1 - 1,p.2)) (p1.map fun p=>(p.1 - 1,p.2)):=by
 intro k P hk hm
 obtain ⟨⟨k',P'⟩,h1,h2⟩:=List.mem_map.1 hm
 simp only [Prod.mk.injEq] at h2
 obtain ⟨h2,rfl⟩:=h2
 exact List.mem_map.2 ⟨(k',P'),hp _ _ (by omega) h1,by simp [h2]⟩
theorem ple_next {p1 p2:List (Nat × (AHeap→Prop))} (hp:PLe p2 p1) (o:SOper) (k:Nat) (F:Fr) (v:AV):PLe (nextP E o k F v p2) (nextP E o k F v p1):=by
 unfold nextP
 split
 ·exact ple_map hp
 ·split
  ·intro k' P hk hm
   rcases List.mem_cons.1 hm with q | q
   ·exact List.mem_cons.2 (.inl q)
   ·exact List.mem_cons_of_mem _ (hp _ _ hk q)
  ·exact hp
theorem st_less:∀ {os:List (SOper × Nat)} {p1 p2:List (Nat × (AHeap→Prop))} {F:Fr} {h:AHeap},PLe p2 p1→StP E cc os p1 F h r→StP E cc os p2 F h r
 | [],_,_,_,_,_,he=>he
 | (o,k) :: os,p1,p2,F,h,hp,he=>by
  obtain ⟨v,h',q1,q2,q3⟩:=st_cons.1 he
  exact st_cons.2 ⟨v,h',q1,fun hs p hm hk=>q2 hs p (hp _ _ hk hm) hk,st_less (ple_next hp o k F v) q3⟩
theorem store_last {o:SOp} (h:o.isStore = true):cls o = .last:=by
 cases o <;> simp [SOp.isStore] at h
 rfl
theorem next_store {o:SOper} {k:Nat} {v:AV} {pend:List (Nat × (AHeap→Prop))} (h:o.op.isStore = true):nextP E o k F v pend = pend.map fun p=>(p.1 - 1,p.2):=by simp [nextP,h]
theorem next_zero {o:SOper} {v:AV} {pend:List (Nat × (AHeap→Prop))} (h:o.op.isStore = false):nextP E o 0 F v pend = pend:=by simp [nextP,h]
theorem next_look {o:SOper} {k:Nat} {v:AV} {pend:List (Nat × (AHeap→Prop))} (h:o.op.isStore = false) (hk:0 < k):nextP E o k F v pend = (k,fun h2=>val0 E o F h2 = some (v,h2)) :: pend:=by simp [nextP,h,hk]
theorem st_swap {x y:SOper} {kx ky:Nat} {os:List (SOper × Nat)} {pend:List (Nat × (AHeap→Prop))} (ha:apartS y x = true)
  (hc:commute (cls y.op) (cls x.op) = true∨(cls y.op = .read∧x.op.isStore = true∧0 < ky)) (hy:0 < ky→cls y.op = .read) (hx:0 < kx→cls x.op = .read)
  (he:StP E cc ((y,ky) :: (x,kx) :: os) pend F h r):StP E cc ((x,kx) :: (y,if x.op.isStore then ky - 1 else ky) :: os) pend F h r:=by
 obtain ⟨vy,h1,q1,q2,q3⟩:=st_cons.1 he
 obtain ⟨vx,h2,q4,q5,q6⟩:=st_cons.1 q3
 obtain ⟨a1,a2⟩:=apartS_spec ha
 have lookx:∀ t ∈ x.looks,(F.put y.dst vy).get t = F.get t:=fun t ht=>get_put fun d hd=>fun he=>(a1 d hd).1 (he ▸ ht)
 have looky:∀ t ∈ y.looks,(F.put x.dst vx).get t = F.get t:=fun t ht=>get_put fun d hd=>fun he=>a2 d hd (he ▸ ht)
 have fr:(F.put y.dst vy).put x.dst vx = (F.put x.dst vx).put y.dst vy:=put_comm fun d hd=>(a1 d hd).2
 rw [val1_eq lookx] at q4
 have px:(fun h2=>val0 E x (F.put y.dst vy) h2 = some (vx,h2)) = fun h2=>val0 E x F h2 = some (vx,h2):=by
  funext g
  rw [val0_eq lookx]
 have py:(fun h2=>val0 E y (F.put x.dst vx) h2 = some (vy,h2)) = fun h2=>val0 E y F h2 = some (vy,h2):=by
  funext g
  rw [val0_eq looky]
 rw [fr] at q6
 cases hxs:x.op.isStore with
 | false=>
  have hc:=hc.resolve_right fun q=>by rw [hxs] at q; cases q.2.1
  obtain ⟨h3,q7,q8⟩:=swap_vals hc q1 q4
  cases hys:y.op.isStore with
  | true=>
   have hq:cls x.op = .quiet:=by
    rw [store_last hys] at hc
    cases hcx:cls x.op <;> rw [hcx] at hc <;> first | rfl | cases hc
   have hk:kx = 0:=by
    rcases Nat.eq_zero_or_pos kx with q | q
    ·exact q
    ·rw [hx q] at hq; cases hq
   subst hk
   obtain ⟨rfl,_⟩:=val_quiet hq q4
   obtain ⟨rfl,_⟩:=val_quiet hq q7
   rw [next_store hys,next_zero hxs] at q6
   refine st_cons.2 ⟨vx,_,q7,(fun q=>by rw [hxs] at q; cases q),?_⟩
   rw [next_zero hxs]
   refine st_cons.2 ⟨vy,_,(val1_eq looky _).trans q1,fun _=>q2 hys,?_⟩
   rw [next_store hys]
   exact q6
  | false=>
   refine st_cons.2 ⟨vx,h3,q7,(fun q=>by rw [hxs] at q; cases q),st_cons.2 ⟨vy,h2,(val1_eq looky _).trans q8,(fun q=>by rw [hys] at q; cases q),st_less ?_ q6⟩⟩
   simp only [Bool.false_eq_true,if_false]
   unfold nextP
   rw [hxs,hys]
   simp only [Bool.false_eq_true,if_false,px,py]
   intro k P hk hm
   split at hm <;> split at hm <;> rename_i k1 k2 <;> simp only [k1,k2,if_true,if_false,List.mem_cons] at hm ⊢
   ·rcases hm with q | q | q
    ·exact .inr (.inl q)
    ·exact .inl q
    ·exact .inr (.inr q)
   all_goals exact hm
 | true=>
  have hys:y.op.isStore = false:=by
   cases hys:y.op.isStore with
   | false=>rfl
   | true=>
    exfalso
    rcases hc with q | q
    ·rw [store_last hys,store_last hxs] at q; cases q
    ·rw [store_last hys] at q; cases q.1
  rcases hc with hc | ⟨hr,_,hk⟩
  ·have hq:cls y.op = .quiet:=by
    rw [store_last hxs] at hc
    cases hcy:cls y.op <;> rw [hcy] at hc <;> first | rfl | cases hc
   have hk:ky = 0:=by
    rcases Nat.eq_zero_or_pos ky with q | q
    ·exact q
    ·rw [hy q] at hq; cases hq
   subst hk
   obtain ⟨rfl,qa⟩:=val_quiet hq q1
   rw [next_zero hys] at q5 q6
   rw [next_store hxs] at q6
   refine st_cons.2 ⟨vx,h2,q4,q5,st_cons.2 ⟨vy,h2,(val1_eq looky _).trans (qa h2),(fun q=>by rw [hys] at q; cases q),?_⟩⟩
   simp only [if_true,Nat.zero_sub]
   rw [next_zero hys,next_store hxs]
   exact q6
  ·obtain ⟨rfl,_,_⟩:=val_read hr q1
   rw [next_look hys hk] at q5 q6
   rw [next_store hxs] at q6
   have qy:=q5 hxs _ List.mem_cons_self hk
   refine st_cons.2 ⟨vx,h2,q4,fun hs p hm=>q5 hs p (List.mem_cons_of_mem _ hm),st_cons.2 ⟨vy,h2,(val1_eq looky _).trans (val0_val qy),(fun q=>by rw [hys] at q; cases q),st_less ?_ q6⟩⟩
   simp only [if_true]
   rw [next_store hxs]
   unfold nextP
   rw [hys]
   simp only [Bool.false_eq_true,if_false,py,List.map_cons]
   intro k P hk' hm
   split at hm
   ·exact hm
   ·exact List.mem_cons_of_mem _ hm
def decS (x:SOper) (y:SOper × Nat):SOper × Nat:=(y.1,if x.op.isStore then y.2 - 1 else y.2)
theorem st_move {x:SOper} {kx:Nat} (hx:0 < kx→cls x.op = .read) {post:List (SOper × Nat)}:∀ {pre:List (SOper × Nat)} {pend:List (Nat × (AHeap→Prop))} {F:Fr} {h:AHeap},
  (∀ y ∈ pre,apartS y.1 x = true∧(commute (cls y.1.op) (cls x.op) = true∨(cls y.1.op = .read∧x.op.isStore = true∧0 < y.2))∧(0 < y.2→cls y.1.op = .read)) →
  StP E cc (pre++(x,kx) :: post) pend F h r→StP E cc ((x,kx) :: (pre.map (decS x)++post)) pend F h r
 | [],_,_,_,_,he=>he
 | (y,ky) :: pre,pend,F,h,hs,he=>by
  obtain ⟨v,h',q1,q2,q3⟩:=st_cons.1 he
  have hm:=st_move hx (pre:=pre) (fun z hz=>hs z (List.mem_cons_of_mem _ hz)) q3
  obtain ⟨b1,b2,b3⟩:=hs (y,ky) List.mem_cons_self
  exact st_swap b1 b2 b3 hx (st_cons.2 ⟨v,h',q1,q2,hm⟩)
theorem stOk_spec {ops:Array Oper} {sops:List SOper} (hd:stOk ops sops = true) {i:Nat} {o:Oper} (hi:ops[i]? = some o):∃ b,sops[i]? = some b∧(∀ e ∈ o.after,Region.binds .any e = true→e.on < i) ∧
  ∀ j,j < i→ordF ops 2 i j = true∨∃ x,sops[j]? = some x∧(commute (cls x.op) (cls b.op) = true∨(cls x.op = .read∧b.op.isStore = true))∧apartS x b = true:=by
 unfold stOk at hd
 simp only [List.all_eq_true,List.mem_range] at hd
 have h1:=hd i (Array.getElem?_eq_some_iff.1 hi).1
 rw [hi] at h1
 split at h1
 ·rename_i o' b ho' hb
  cases ho'
  refine ⟨b,hb,?_,?_⟩
  ·intro e he hbn
   simp only [Bool.and_eq_true,Array.all_eq_true_iff_forall_mem] at h1
   have:=h1.1 e he
   simpa [hbn] using this
  ·intro j hj
   simp only [Bool.and_eq_true,List.all_eq_true,List.mem_range] at h1
   have:=h1.2 j hj
   simp only [Bool.or_eq_true] at this
   rcases this with q | q
   ·exact .inl q
   ·split at q
    ·rename_i x hx
     simp only [Bool.and_eq_true,Bool.or_eq_true,decide_eq_true_eq] at q
     exact .inr ⟨x,hx,q.1,q.2⟩
    ·cases q
 ·cases h1
theorem ordF_listed {ops:Array Oper} {listed:Array Bool} (hdc:∀ (k:Nat) (o:Oper),ops[k]? = some o→listed.getD k true = true→∀ e ∈ o.after,Region.binds .any e = true→listed.getD e.on true = true):
  ∀ (n i j:Nat),ordF ops n i j = true→(∀ (o:Oper),ops[i]? = some o→∀ e ∈ o.after,Region.binds .any e = true→listed.getD e.on true = true)→listed.getD j true = true
 | 0,_,_,h,_=>by cases h
 | n + 1,i,j,h,hp=>by
  unfold ordF at h
  split at h
  ·rename_i o ho
   rw [← Array.any_toList,List.any_eq_true] at h
   obtain ⟨e,he,hq⟩:=h
   replace he:=Array.mem_toList_iff.1 he
   simp only [Bool.and_eq_true,Bool.or_eq_true,beq_iff_eq] at hq
   have h1:=hp o ho e he hq.1
   rcases hq.2 with q | q
   ·rw [← q]
    exact h1
   ·exact ordF_listed hdc n e.on j q fun o' ho'=>hdc e.on o' ho' h1
  ·cases h
theorem markS_read {ops:Array Oper} {sops:List SOper} {l:List Nat} {j:Nat} {b:SOper} (hb:sops[j]? = some b) (h:0 < markS ops sops l j):cls b.op = .read:=by
 unfold markS at h
 obtain ⟨i,hi⟩:=List.exists_mem_of_length_pos h
 have:=(List.mem_filter.1 hi).2
 unfold flagS at this
 rw [hb] at this
 simp only [Bool.and_eq_true] at this
 obtain ⟨_,q⟩:=this
 split at q
 ·rename_i a b' o e1 e2 e3
  cases e1
  simp only [Bool.and_eq_true,decide_eq_true_eq] at q
  exact q.1.1
 ·cases q
theorem markS_split {ops:Array Oper} {sops:List SOper} (pre post:List Nat) (i j:Nat):markS ops sops (pre++i :: post) j = markS ops sops (pre++post) j + if flagS ops sops j i then 1 else 0:=by
 unfold markS
 rw [List.filter_append,List.filter_append,List.length_append,List.length_append,List.filter_cons]
 split <;> simp <;> omega
theorem flagS_of {ops:Array Oper} {sops:List SOper} {j i:Nat} {s b:SOper} {o:Oper} (hj:sops[j]? = some s) (hi:sops[i]? = some b) (ho:ops[i]? = some o) (hlt:j < i) (hno:¬ ∃ e ∈ o.after,Region.binds .any e = true∧e.on = j):
  flagS ops sops j i = (decide (cls s.op = .read) && b.op.isStore):=by
 have h0:(o.after.any fun e=>Region.binds .any e && e.on == j) = false:=by
  rw [Bool.eq_false_iff]
  intro q
  rw [← Array.any_toList,List.any_eq_true] at q
  obtain ⟨e,he,hq⟩:=q
  simp only [Bool.and_eq_true,beq_iff_eq] at hq
  exact hno ⟨e,Array.mem_toList_iff.1 he,hq.1,hq.2⟩
 unfold flagS
 rw [hj,hi,ho]
 simp [hlt,h0]
theorem flagS_late {ops:Array Oper} {sops:List SOper} {j i:Nat} (hlt:¬ j < i):flagS ops sops j i = false:=by
 unfold flagS
 simp [hlt]
theorem marked_pre {ops:Array Oper} {sops:List SOper} {pre post:List Nat} {i:Nat} {b:SOper} {o:Oper} (hi:sops[i]? = some b) (ho:ops[i]? = some o) (hlt:∀ j ∈ pre,j < i) (hno:∀ j ∈ pre,¬ ∃ e ∈ o.after,Region.binds .any e = true∧e.on = j):
  (markedS ops sops (pre++i :: post) pre).map (decS b) = markedS ops sops (pre++post) pre:=by
 have key:∀ l:List Nat,(∀ j ∈ l,j ∈ pre)→(markedS ops sops (pre++i :: post) l).map (decS b) = markedS ops sops (pre++post) l:=by
  intro l
  induction l with
  | nil=>intro _; rfl
  | cons j l ih=>
   intro hl
   have hj:=hl j List.mem_cons_self
   have ih:=ih fun k hk=>hl k (List.mem_cons_of_mem _ hk)
   unfold markedS at ih ⊢
   rw [List.filterMap_cons,List.filterMap_cons]
   cases hs:sops[j]? with
   | none=>exact ih
   | some s=>
    simp only [Option.map_some,List.map_cons,ih]
    congr 1
    have hf:=flagS_of hs hi ho (hlt j hj) (hno j hj)
    unfold decS
    rw [markS_split,hf]
    simp only [Prod.mk.injEq,true_and]
    cases hb:b.op.isStore with
    | false=>simp
    | true=>
     simp only [if_true,Bool.and_true]
     by_cases hr:cls s.op = .read
     ·simp [hr]
     ·have:markS ops sops (pre++post) j = 0:=by
       rcases Nat.eq_zero_or_pos (markS ops sops (pre++post) j) with q | q
       ·exact q
       ·exact absurd (markS_read hs q) hr
      simp [hr,this]
 exact key pre fun _ h=>h
theorem marked_post {ops:Array Oper} {sops:List SOper} {pre post:List Nat} {i:Nat} (hlt:∀ j ∈ post,¬ j < i):markedS ops sops (pre++i :: post) post = markedS ops sops (pre++post) post:=by
 have key:∀ l:List Nat,(∀ j ∈ l,j ∈ post)→markedS ops sops (pre++i :: post) l = markedS ops sops (pre++post) l:=by
  intro l
  induction l with
  | nil=>intro _; rfl
  | cons j l ih=>
   intro hl
   have hj:=hl j List.mem_cons_self
   have ih:=ih fun k hk=>hl k (List.mem_cons_of_mem _ hk)
   unfold markedS at ih ⊢
   rw [List.filterMap_cons,List.filterMap_cons,ih,markS_split,flagS_late (hlt j hj)]
   simp
 exact key post fun _ h=>h
theorem marked_app {ops:Array Oper} {sops:List SOper} {l0 a b:List Nat}:markedS ops sops l0 (a++b) = markedS ops sops l0 a++markedS ops sops l0 b:=by
 unfold markedS
 rw [List.filterMap_append]
theorem marked_cons {ops:Array Oper} {sops:List SOper} {l0 l:List Nat} {i:Nat} {b:SOper} (hb:sops[i]? = some b):markedS ops sops l0 (i :: l) = (b,markS ops sops l0 i) :: markedS ops sops l0 l:=by
 unfold markedS
 rw [List.filterMap_cons,hb]
 rfl
theorem sim_st (hcall:ClosedSim T E cc) {r:Option Nat} {lo:Nat} {ops:Array Oper} {sops:List SOper} (hco:cOpers T R ops.toList ops.toList = some sops) (hd:stOk ops sops = true) {F':Fr} {h':AHeap}:
  ∀ (fuel:Nat) (l:List Nat) (listed:Array Bool) (pend:List (Nat × (AHeap→Prop))) (G:Ghost) (h:AHeap) (w:World) (F:Fr) (a:Act) (Q:Exit→Act→World→Prop),
   l.Pairwise (· < ·)→(∀ i,i ∈ l ↔ i < ops.size∧listed.getD i true = false)→listed.size = ops.size→(∀ (k:Nat) (o:Oper),ops[k]? = some o→listed.getD k true = true→∀ e ∈ o.after,Region.binds .any e = true→listed.getD e.on true = true)→l.length ≤ fuel→StP E cc (markedS ops sops l l) pend F h (F',h')→St T E r lo G h w F a →
   (∀ e a' w',Post T E r lo G w .normal F' h' e a' w'→Q e a' w')→wpAnyIn (FC r) 0 T.P .any ops Q fuel listed a w:=by
 have hedge:∀ (i:Nat) (o:Oper),ops[i]? = some o→∀ e ∈ o.after,Region.binds .any e = true→e.on < i:=by
  intro i o hi
  obtain ⟨b,_,h1,_⟩:=stOk_spec hd hi
  exact h1
 intro fuel
 induction fuel with
 | zero=>
  intro l listed pend G h w F a Q hp hl hsz hdc hlen he S hQ
  have:l = []:=List.eq_nil_of_length_eq_zero (by omega)
  subst this
  have he':(F',h') = (F,h):=he
  cases he'
  refine ⟨?_,hQ _ _ _ ⟨G,Ext.refl S.inv.vlt,S,rfl⟩⟩
  cases hr:Region.ready .any ops listed with
  | nil=>rfl
  | cons i rs=>
   exfalso
   have hi:i ∈ Region.ready .any ops listed:=by rw [hr]; exact List.mem_cons_self
   obtain ⟨h1,o,ho,_⟩:=mem_ready.1 hi
   have:=(hl i).2 ⟨(Array.getElem?_eq_some_iff.1 ho).1,h1⟩
   cases this
 | succ fuel ih=>
  intro l listed pend G h w F a Q hp hl hsz hdc hlen he S hQ
  refine ⟨fun hr=>?_,fun i hi=>?_⟩
  ·have:=ready_none hedge l listed hp hl hsz hr
   subst this
   have he':(F',h') = (F,h):=he
   cases he'
   exact hQ _ _ _ ⟨G,Ext.refl S.inv.vlt,S,rfl⟩
  ·obtain ⟨h1,o,ho,hready⟩:=mem_ready.1 hi
   have hlt:=(Array.getElem?_eq_some_iff.1 ho).1
   have him:i ∈ l:=(hl i).2 ⟨hlt,h1⟩
   obtain ⟨pre,post,hpp⟩:=List.append_of_mem him
   subst hpp
   obtain ⟨hp1,hp2,hp3⟩:=List.pairwise_append.1 hp
   obtain ⟨b,hb,_,hsw⟩:=stOk_spec hd ho
   have hcg:=(cOpers_get hco).2 i o (by simpa using ho)
   obtain ⟨so,g,hso,hop,hg⟩:=hcg
   rw [hb] at hso
   cases hso
   have hpre:∀ j ∈ pre,j < i:=fun j hj=>hp3 j hj i List.mem_cons_self
   have hpr:∀ (o':Oper),ops[i]? = some o'→∀ e ∈ o'.after,Region.binds .any e = true→listed.getD e.on true = true:=by
    intro o' ho' e he hbn
    rw [ho] at ho'
    cases ho'
    have hlt2:=hedge i o ho e he hbn
    have:=hready e he hbn
    have hjs:e.on < listed.size:=by omega
    simp only [Array.getD,hjs,dif_pos] at this ⊢
    exact this
   have hord:∀ j ∈ pre,¬ ordF ops 2 i j = true:=by
    intro j hj q
    have:=ordF_listed hdc 2 i j q hpr
    have hjl:=((hl j).1 (List.mem_append_left _ hj)).2
    rw [hjl] at this
    cases this
   have hno:∀ j ∈ pre,¬ ∃ e ∈ o.after,Region.binds .any e = true∧e.on = j:=by
    rintro j hj ⟨e,he1,he2,he3⟩
    have:=hready e he1 he2
    rw [he3] at this
    have hjl:=((hl j).1 (List.mem_append_left _ hj)).2
    have hji:=hpre j hj
    have hjs:j < listed.size:=by omega
    simp only [Array.getD,hjs,dif_pos] at this hjl
    rw [hjl] at this
    cases this
   have hpost:∀ j ∈ post,¬ j < i:=fun j hj=>by
    have:=(List.pairwise_cons.1 hp2).1 j hj
    omega
   rw [marked_app,marked_cons hb] at he
   have hmv:=st_move (fun q=>markS_read hb q) (fun y hy=>by
    unfold markedS at hy
    obtain ⟨j,hj1,hj2⟩:=List.mem_filterMap.1 hy
    cases hs:sops[j]? with
    | none=>rw [hs] at hj2; cases hj2
    | some s=>
     rw [hs] at hj2
     cases hj2
     refine ⟨?_,?_,fun q=>markS_read hs q⟩
     ·rcases hsw j (hpre j hj1) with q | ⟨x,hx,_,hx2⟩
      ·exact absurd q (hord j hj1)
      ·rw [hs] at hx
       cases hx
       exact hx2
     ·rcases hsw j (hpre j hj1) with q | ⟨x,hx,hx1,_⟩
      ·exact absurd q (hord j hj1)
      ·rw [hs] at hx
       cases hx
       rcases hx1 with q | ⟨q1,q2⟩
       ·exact .inl q
       ·refine .inr ⟨q1,q2,?_⟩
        rw [markS_split,flagS_of hs hb ho (hpre j hj1) (hno j hj1)]
        simp [q1,q2]) he
   rw [marked_pre hb ho hpre hno,marked_post hpost,← marked_app] at hmv
   obtain ⟨v,hh1,q1,_,q2⟩:=st_cons.1 hmv
   have q1':evDraw1 E cc { dst:=o.dst,guard:=g,op:=so } F h = some (F.put o.dst v,hh1):=by
    rw [evDraw1_val,q1]
    rfl
   unfold wpOpIn
   rw [ho]
   have hsim:=sim_oper hcall hop hg (draw_oper q1') S (wpAnyIn (FC r) 0 T.P .any ops Q fuel (listed.setIfInBounds i true)) Q
    (fun G' a' w' _ X S'=>by
     refine ih (pre++post) (listed.setIfInBounds i true) _ G' hh1 w' _ a' Q ?_ ?_ (by simpa using hsz) ?_ ?_ q2 S' fun e a2 w2 hq=>hQ e a2 w2 (Post.trans X hq)
     ·exact List.pairwise_append.2 ⟨hp1,(List.pairwise_cons.1 hp2).2,fun x hx y hy=>hp3 x hx y (List.mem_cons_of_mem _ hy)⟩
     ·intro j
      have hj:=hl j
      by_cases hji:j = i
      ·subst hji
       have hjs:j < listed.size:=by omega
       constructor
       ·intro hm
        exfalso
        rcases List.mem_append.1 hm with q | q
        ·have:=hp3 j q j List.mem_cons_self; omega
        ·have:=(List.pairwise_cons.1 hp2).1 j q; omega
       ·intro hm
        have:=hm.2
        simp [Array.getD,hjs] at this
      ·rw [getD_set_ne true (Ne.symm hji)]
       rw [← hj]
       simp only [List.mem_append,List.mem_cons]
       constructor
       ·rintro (q | q)
        ·exact .inl q
        ·exact .inr (.inr q)
       ·rintro (q | q | q)
        ·exact .inl q
        ·exact absurd q hji
        ·exact .inr q
     ·intro k o' ho' hk e hee hbn
      have hks:=(Array.getElem?_eq_some_iff.1 ho').1
      by_cases hei:e.on = i
      ·rw [hei]
       have his:i < listed.size:=by omega
       simp [Array.getD,his]
      ·rw [getD_set_ne true (Ne.symm hei)]
       by_cases hki:k = i
       ·subst hki
        exact hpr o' ho' e hee hbn
       ·rw [getD_set_ne true (Ne.symm hki)] at hk
        exact hdc k o' ho' hk e hee hbn
     ·simp only [List.length_append,List.length_cons] at hlen ⊢
      omega)
    (fun G' a' w' v u hx=>by cases hx)
   exact hsim
theorem sim_stored (hcall:ClosedSim T E cc) (hmix:T.P.follows .mixedOrders = true) {r:Option Nat} {lo:Nat} {id:Nat} {ops:Array Oper} {sops:List SOper} (hco:cOpers T R ops.toList ops.toList = some sops) (hd:stOk ops sops = true) {x:AExit} {F':Fr} {h':AHeap}
  (he:evStored E cc (markedS ops sops (List.range ops.size) (List.range ops.size)) F h = some (x,F',h')) (S:St T E r lo G h w F a):(Code.region id ops true).wpIn (FC r) 0 T.P (Post T E r lo G w x F' h') a w:=by
 unfold evStored at he
 split at he
 ·cases he
 ·split at he
  ·rename_i hst
   cases he
   refine wpIn_region_any hmix ?_
   obtain ⟨X,I⟩:=S.inv.drew
   refine sim_st hcall hco hd ops.size (List.range ops.size) _ [] G h _ F a _ ?_ ?_ (by simp) ?_ (by simp) hst (S.turn X I) fun e a' w' hq=>Post.trans X hq
   ·exact List.pairwise_lt_range
   ·intro i
    simp only [List.mem_range]
    constructor
    ·intro hi
     exact ⟨hi,by simp [Array.getD,hi]⟩
    ·exact fun hi=>hi.1
   ·intro k o ho hk
    have hks:=(Array.getElem?_eq_some_iff.1 ho).1
    simp [Array.getD,hks] at hk
  ·cases he
end Go.Pv
/- How calls, rounds and frames end. Conditions: none; lemmas. -/
namespace Go.Pv
open Go.RowKit
variable {T:Tie} {E:Env} {G:Ghost} {h:AHeap} {w:World} {F:Fr} {a:Act}
def resF (a:Act):ResultVar→Sem Value
 | .tmp t=>pure (a.tmps.getD t undef)
 | .cell c t=>do loadVar t (← asAddr (a.tmps.getD c undef))
theorem results_list (I:Inv T E G h w) (hF:RepL T G w F.t a.tmps.toList):∀ {rs:List ResultVar} {srs:List SRes} {vs:List AV},cResults T rs = some srs→resultsA h F srs = some vs →
  ∃ l,(rs.mapM (resF a)).run T.P w = .ok l w∧RepL T G w vs l
 | [],srs,vs,hc,he=>by
  simp only [cResults] at hc
  cases hc
  simp only [resultsA] at he
  cases he
  exact ⟨[],rfl,by simp only [RepL]⟩
 | r :: rs,srs,vs,hc,he=>by
  simp only [cResults] at hc
  split at hc
  ·rename_i sr srs' h1 h2
   cases hc
   cases r with
   | tmp t=>
    simp only [cResult] at h1
    cases h1
    simp only [resultsA,Option.map_eq_some_iff] at he
    obtain ⟨vs',h3,rfl⟩:=he
    obtain ⟨l,q1,q2⟩:=results_list I hF h2 h3
    have hv:=opd_rep (E:=E) I hF (x:=.tmp t) (s:=.tmp t) rfl
    refine ⟨a.tmps.getD t undef :: l,?_,?_⟩
    ·have:resF a (.tmp t) = pure (a.tmps.getD t undef):=rfl
     simp only [List.mapM_cons,this,Sem.run_bind,Sem.run_pure,Result.andThen,q1]
    ·simp only [RepL]
     exact ⟨_,_,rfl,hv,q2⟩
   | cell c t=>
    simp only [cResult,Option.map_eq_some_iff] at h1
    obtain ⟨p,hn,rfl⟩:=h1
    simp only [resultsA] at he
    split at he
    ·rename_i v vs' h3 h4
     cases he
     obtain ⟨l,q1,q2⟩:=results_list I hF h2 h4
     simp only [Option.bind_eq_some_iff] at h3
     obtain ⟨cs,p1,p2⟩:=h3
     have hv:=opd_rep (E:=E) I hF (x:=.tmp c) (s:=.tmp c) rfl
     obtain ⟨r,off,l0,hu,hl,hrl,hcell⟩:=peek_rep I p1 hv
     have hu':a.tmps.getD c undef = .pointer (some ⟨r,off,none⟩):=hu
     obtain ⟨u,p3,p4,p5⟩:=run_loadVar (g:=p.1) (n:=p.2) hn w r off l0 hl hcell
     refine ⟨u :: l,?_,?_⟩
     ·have:(resF a (.cell c t)).run T.P w = .ok u w:=by simp only [resF,hu',asAddr,Sem.run_bind,Sem.run_pure,Result.andThen,p3]
      simp only [List.mapM_cons,Sem.run_bind,Sem.run_pure,Result.andThen,q1,this]
     ·simp only [RepL]
      exact ⟨_,_,rfl,whole_rep p2 hrl p4 p5,q2⟩
    ·cases he
  ·cases hc
theorem oneOf_rep {vs:List AV} {l:List Value} (hl:RepL T G w vs l):RepV T G w (oneOf vs) (if h:(⟨l⟩:Array Value).size = 1 then (⟨l⟩:Array Value)[0] else .tuple ⟨l⟩):=by
 match vs,l,hl with
 | [],l,hl=>simp only [RepL] at hl; subst hl; simp [oneOf,RepV,RepL]
 | [v],l,hl=>
  simp only [RepL] at hl
  obtain ⟨x,xs,rfl,h1,rfl⟩:=hl
  simpa [oneOf] using h1
 | v :: v2 :: vs,l,hl=>
  have hl':=hl
  simp only [RepL] at hl
  obtain ⟨x,xs,rfl,h1,y,ys,rfl,h2,h3⟩:=hl
  simp only [oneOf,List.size_toArray,List.length_cons,RepV]
  rw [dif_neg (by omega)]
  exact ⟨_,rfl,hl'⟩
theorem results_rep (I:Inv T E G h w) (hF:RepL T G w F.t a.tmps.toList) {fn:Func} {srs:List SRes} {vs:List AV} (hc:cResults T fn.results.toList = some srs) (he:resultsA h F srs = some vs):
  ∃ u,(results fn a.tmps).run T.P w = .ok u w∧RepV T G w (oneOf vs) u:=by
 obtain ⟨l,q1,q2⟩:=results_list I hF hc he
 refine ⟨_,?_,oneOf_rep q2⟩
 have hdef:results fn a.tmps = (do let vs ← fn.results.mapM (resF a); pure (if h:vs.size = 1 then vs[0] else .tuple vs)):=rfl
 rw [hdef,Array.mapM_eq_mapM_toList]
 simp only [Sem.run_bind,Sem.run_map,q1,Result.andThen,Sem.run_pure]
structure Shut (G G':Ghost) (nn tt:Nat):Prop where
 vals:∀ b m,G.vals b = some m→∃ m',G'.vals b = some m'∧m ≤ m'
 mu:∀ (b r:Nat),b < nn→G.mu[b]? = some r→G'.mu[b]? = some r
 tau:∀ k n b,k < tt→G.tau k n = some b→G'.tau k n = some b
theorem shutL_length {nn tt:Nat}:∀ {vs vs':List AV},shutL nn tt vs = some vs'→vs'.length = vs.length
 | [],vs',hs=>by simp only [shutL] at hs; cases hs; rfl
 | v :: vs,vs',hs=>by
  simp only [shutL] at hs
  split at hs
  ·rename_i x xs h1 h2
   cases hs
   simp [shutL_length h2]
  ·cases hs
mutual
theorem shut_rep {G':Ghost} {nn tt:Nat} (hv:Shut G G' nn tt):∀ (v v':AV) (u:Value),shut nn tt v = some v'→RepV T G w v u→RepV T G' w v' u
 | .junk,v',u,hs,hr=>by simp only [shut] at hs; cases hs; simp only [RepV]
 | .bool b,v',u,hs,hr=>by simp only [shut] at hs; cases hs; simpa only [RepV] using hr
 | .int k i,v',u,hs,hr=>by simp only [shut] at hs; cases hs; simpa only [RepV] using hr
 | .str s,v',u,hs,hr=>by simp only [shut] at hs; cases hs; simpa only [RepV] using hr
 | .nilp,v',u,hs,hr=>by simp only [shut] at hs; cases hs; simpa only [RepV] using hr
 | .ref b off,v',u,hs,hr=>by
  simp only [shut] at hs
  split at hs
  ·rename_i hb
   cases hs
   simp only [RepV] at hr ⊢
   obtain ⟨r,h1,h2⟩:=hr
   exact ⟨r,hv.mu b r hb h1,h2⟩
  ·cases hs
 | .pin cs,v',u,hs,hr=>by
  simp only [shut,Option.map_eq_some_iff] at hs
  obtain ⟨cs',h1,rfl⟩:=hs
  simp only [RepV] at hr ⊢
  obtain ⟨r,off,m,rfl,h2,h3,h4⟩:=hr
  obtain ⟨m',q1,q2⟩:=hv.vals r m h2
  have hlen:=shutL_length h1
  exact ⟨r,off,m',rfl,q1,by omega,shutM_rep hv _ _ _ _ h1 h4⟩
 | .vs own len cs,v',u,hs,hr=>by
  simp only [shut,Option.map_eq_some_iff] at hs
  obtain ⟨cs',h1,rfl⟩:=hs
  have hlen:=shutL_length h1
  simp only [RepV] at hr ⊢
  obtain ⟨ad,cap,rfl,h2,h3,h4,h5,h6,h7⟩:=hr
  refine ⟨ad,cap,rfl,h2,?_,h4,?_,?_,?_⟩
  ·intro ho
   cases own with
   | shared=>cases ho
   | full=>exact h3 rfl
   | tok k sz=>
    simp only at ho
    split at ho <;> cases ho
  ·intro k sz ho
   cases own with
   | shared=>cases ho
   | full=>cases ho
   | tok k' sz'=>
    simp only at ho
    split at ho
    ·rename_i hk
     cases ho
     obtain ⟨q1,r,c,e,fz,q2,q3,q4,q5⟩:=h5 _ _ rfl
     rw [hlen]
     exact ⟨q1,r,c,e,fz,q2,hv.tau _ _ _ hk q3,q4,q5⟩
    ·cases ho
  ·intro hne
   have hne':cs ≠ []:=fun hc=>hne (by subst hc; simp only [shutL] at h1; cases h1; rfl)
   obtain ⟨r,off,m,q1,q2,q3,q4⟩:=h6 hne'
   obtain ⟨m',q5,q6⟩:=hv.vals r m q2
   exact ⟨r,off,m',q1,q5,by omega,shutM_rep hv _ _ _ _ h1 q4⟩
  ·intro h0
   have:=h7 h0
   subst this
   simp only [shutL] at h1
   cases h1
   rfl
 | .rs b off len,v',u,hs,hr=>by
  simp only [shut] at hs
  split at hs
  ·rename_i hb
   cases hs
   simp only [RepV] at hr ⊢
   obtain ⟨r,cap,h1,h2⟩:=hr
   exact ⟨r,cap,hv.mu b r hb h1,h2⟩
  ·cases hs
 | .row b sz len,v',u,hs,hr=>by
  simp only [shut] at hs
  split at hs
  ·rename_i hb
   cases hs
   simp only [RepV] at hr ⊢
   obtain ⟨r,cap,c,e,fz,h1,h2⟩:=hr
   exact ⟨r,cap,c,e,fz,hv.mu b r hb h1,h2⟩
  ·cases hs
 | .nils,v',u,hs,hr=>by simp only [shut] at hs; cases hs; simpa only [RepV] using hr
 | .nilmap,v',u,hs,hr=>by simp only [shut] at hs; cases hs; simpa only [RepV] using hr
 | .map b,v',u,hs,hr=>by
  simp only [shut] at hs
  split at hs
  ·rename_i hb
   cases hs
   simp only [RepV] at hr ⊢
   obtain ⟨r,h1,h2⟩:=hr
   exact ⟨r,hv.mu b r hb h1,h2⟩
  ·cases hs
 | .fn (.func f) x y,v',u,hs,hr=>by
  simp only [shut] at hs
  split at hs
  ·rename_i x' y' h1 h2
   cases hs
   simp only [RepV] at hr ⊢
   obtain ⟨p,q,rfl,h3,h4⟩:=hr
   exact ⟨p,q,rfl,shutL_rep hv _ _ _ h1 h3,shutL_rep hv _ _ _ h2 h4⟩
  ·cases hs
 | .fn (.yield l) x y,v',u,hs,hr=>by
  simp only [shut] at hs
  split at hs
  ·rename_i x' y' h1 h2
   split at hs
   ·rename_i hb
    cases hs
    simp only [RepV] at hr ⊢
    obtain ⟨r,p,q,h0,rfl,h3,h4⟩:=hr
    exact ⟨r,p,q,hv.mu l r hb h0,rfl,shutL_rep hv _ _ _ h1 h3,shutL_rep hv _ _ _ h2 h4⟩
   ·cases hs
  ·cases hs
 | .nilfn,v',u,hs,hr=>by simp only [shut] at hs; cases hs; simpa only [RepV] using hr
 | .iface t x,v',u,hs,hr=>by
  simp only [shut,Option.map_eq_some_iff] at hs
  obtain ⟨x',h1,rfl⟩:=hs
  simp only [RepV] at hr ⊢
  obtain ⟨y,rfl,h2⟩:=hr
  exact ⟨y,rfl,shut_rep hv _ _ _ h1 h2⟩
 | .niliface,v',u,hs,hr=>by simp only [shut] at hs; cases hs; simpa only [RepV] using hr
 | .agg cs,v',u,hs,hr=>by
  simp only [shut,Option.map_eq_some_iff] at hs
  obtain ⟨cs',h1,rfl⟩:=hs
  simp only [RepV] at hr ⊢
  obtain ⟨l,rfl,h2⟩:=hr
  exact ⟨l,rfl,shutL_rep hv _ _ _ h1 h2⟩
 | .tuple cs,v',u,hs,hr=>by
  simp only [shut,Option.map_eq_some_iff] at hs
  obtain ⟨cs',h1,rfl⟩:=hs
  simp only [RepV] at hr ⊢
  obtain ⟨l,rfl,h2⟩:=hr
  exact ⟨l,rfl,shutL_rep hv _ _ _ h1 h2⟩
theorem shutL_rep {G':Ghost} {nn tt:Nat} (hv:Shut G G' nn tt):∀ (vs vs':List AV) (l:List Value),shutL nn tt vs = some vs'→RepL T G w vs l→RepL T G' w vs' l
 | [],vs',l,hs,hr=>by simp only [shutL] at hs; cases hs; simpa only [RepL] using hr
 | v :: vs,vs',l,hs,hr=>by
  simp only [shutL] at hs
  split at hs
  ·rename_i x xs h1 h2
   cases hs
   simp only [RepL] at hr ⊢
   obtain ⟨y,ys,rfl,h3,h4⟩:=hr
   exact ⟨y,ys,rfl,shut_rep hv _ _ _ h1 h3,shutL_rep hv _ _ _ h2 h4⟩
  ·cases hs
theorem shutM_rep {G':Ghost} {nn tt:Nat} (hv:Shut G G' nn tt):∀ (vs vs':List AV) (r off:Nat),shutL nn tt vs = some vs'→RepM T G w r off vs→RepM T G' w r off vs'
 | [],vs',r,off,hs,hr=>by simp only [shutL] at hs; cases hs; simp only [RepM]
 | v :: vs,vs',r,off,hs,hr=>by
  simp only [shutL] at hs
  split at hs
  ·rename_i x xs h1 h2
   cases hs
   simp only [RepM] at hr ⊢
   obtain ⟨⟨u,h3,h4⟩,h5⟩:=hr
   exact ⟨⟨u,h3,shut_rep hv _ _ _ h1 h4⟩,shutM_rep hv _ _ _ _ h2 h5⟩
  ·cases hs
end
structure Grown (w w':World):Prop where
 size:w.heap.size ≤ w'.heap.size
 heap:∀ b,b < w.heap.size→w'.heap[b]? = w.heap[b]?
 os:w'.os = w.os
 tape:w'.tape = w.tape
 output:w'.output = w.output
theorem Inv.grown (I:Inv T E G h w) {w':World} (g:Grown w w'):Ext G w G w'∧Inv T E G h w':=by
 have hX:Ext G w G w':={
  mu:=⟨[],by simp⟩,mulate:=by simp,ro:=rfl,rot:=rfl,size:=g.size,vlt:=I.vlt,vals:=fun b m h=>⟨m,h,Nat.le_refl _⟩,valsfix:=fun b m h _=>h,valsfresh:=fun b m h=>.inl ⟨m,h⟩,
  cells:=fun b m hb i _=>cell_of_heap (g.heap b (I.vlt b m hb)) i,tau:=fun _ _ _ h=>h,taufresh:=fun k n b h=>.inl ⟨n,h⟩,taufix:=fun k n b _ h=>h,frame:=fun b hb _ _=>g.heap b hb,
  shape:=fun b c e fz hb=>⟨c,fz,by rw [g.heap b (heap_lt hb)]; exact hb,rfl⟩,loops:=fun b L hb=>⟨L,by rw [g.heap b (heap_lt hb)]; exact hb⟩,os:=g.os,tape:=g.tape,output:=g.output }
 have hK:=hX.keep
 exact ⟨hX,{
  len:=I.len,inj:=I.inj,lt:=fun r hr=>Nat.lt_of_lt_of_le (I.lt r hr) g.size
  blk:=fun j b r hj hr=>RepB.mono hK (g.heap r (I.lt r (List.mem_of_getElem? hr))) (I.blk j b r hj hr)
  vlt:=fun b m hb=>Nat.lt_of_lt_of_le (I.vlt b m hb) g.size
  vmu:=I.vmu
  vcell:=fun b m hb=>by
   obtain ⟨c,e,fz,h1,h2⟩:=I.vcell b m hb
   exact ⟨c,e,fz,by rw [g.heap b (I.vlt b m hb)]; exact h1,h2⟩
  tlt:=fun k n b hb=>by
   obtain ⟨h1,h2,h3⟩:=I.tlt k n b hb
   exact ⟨Nat.lt_of_lt_of_le h1 g.size,h2,h3⟩
  tok:=fun k n hk=>by
   obtain ⟨b,c,e,fz,h1,h2,h3,h4,h5⟩:=I.tok k n hk
   have hl:=g.heap b (heap_lt h2)
   exact ⟨b,c,e,fz,h1,by rw [hl]; exact h2,h3,h4,fun i a b'=>(frozen_of_heap hl i).trans (h5 i a b')⟩
  tmax:=I.tmax,tdisj:=I.tdisj
  glob:=fun g' cs hg=>GlobOk.mono hK (I.glob g' cs hg),ro:=I.ro,rot:=I.rot,rle:=I.rle,rtle:=I.rtle }⟩
def ExtOk (T:Tie) (E:Env) (j:Nat) (g:List AV→Option AV):Prop:=
 ∀ (vs:List AV) (v:AV),g vs = some v→∀ (G:Ghost) (w:World) (l:List Value),(∀ g cs,E.glob g = some cs→GlobOk T G w g cs)→RepL T G w vs l→CallsIn (FC none) 0 T.P (T.fnum j) ⟨l⟩ w fun e w'=>Grown w w'∧∃ u,e = .returned u∧∀ G' w',RepV T G' w' v u
structure EnvOk (T:Tie) (E:Env):Prop where
 mix:T.P.follows .mixedOrders = true
 fn:∀ (j:Nat) (sf:SFunc),E.fn j = some sf→∃ K f,T.P.funcs[T.fnum j]? = some f∧cFunc T K sf.mode f = some sf
 glob:∀ (g:Nat) (cs:List AV),E.glob g = some cs→shutL 0 0 cs = some cs
 ext : ∀ (j : Nat) (g : List AV → Option AV), E.ext j = some g → ∃ f c, T.P.funcs[T.fnum j]? = some f ∧ f.body = some c ∧ f.name ≠ "runtime.NumGoroutine" ∧ ExtOk T E j g
def Ghost.own (G:Ghost):Ghost:={ mu:=[],vals:=G.vals,tau:=fun _ _=>none,ro:=0,rot:=0 }
theorem shut_own {G G':Ghost} (hv:∀ b m,G.vals b = some m→∃ m',G'.vals b = some m'∧m ≤ m'):Shut G G' 0 0:=⟨hv,fun b r hb=>by omega,fun k n b hk=>by omega⟩
theorem Inv.own (O:EnvOk T E) (I:Inv T E G h w):Inv T E G.own heap0 w where
 len:=rfl
 inj:=fun i j r h=>by simp [Ghost.own] at h
 lt:=fun r hr=>by cases hr
 blk:=fun i b r hb=>by simp [heap0] at hb
 vlt:=I.vlt
 vmu:=fun b m _ hm=>by cases hm
 vcell:=I.vcell
 tlt:=fun k n b hb=>by simp [Ghost.own] at hb
 tok:=fun k n hk=>by simp [heap0] at hk
 tmax:=fun k n b N hb=>by simp [Ghost.own] at hb
 tdisj:=fun k n b k' n' hb=>by simp [Ghost.own] at hb
 glob:=fun g cs hg=>⟨shut_rep (G:=G) (G':=G.own) (shut_own fun b m hb=>⟨m,hb,Nat.le_refl _⟩) (.pin cs) (.pin cs) _ (by simp only [shut,O.glob g cs hg,Option.map_some]) (I.glob g cs hg).1,(I.glob g cs hg).2⟩
 ro:=rfl
 rot:=rfl
 rle:=Nat.le_refl _
 rtle:=Nat.le_refl _
def Ghost.still (G:Ghost) (h:AHeap):Ghost:={ G with ro:=h.blks.length,rot:=h.toks.length }
theorem Inv.still (I:Inv T E G h w):Inv T E (G.still h) h.still w:=
 have hK:Keep G w (G.still h) w:={ mu:=fun _ _ h=>h,vals:=fun _b m h=>⟨m,h,Nat.le_refl _⟩,cells:=fun _ _ _ _ _=>rfl,tau:=fun _ _ _ h=>h,shape:=fun _ c _ fz hb=>⟨c,fz,hb,rfl⟩ }
 {len:=I.len,inj:=I.inj,lt:=I.lt,blk:=fun i b r hb hr=>RepB.mono hK rfl (I.blk i b r hb hr),vlt:=I.vlt,vmu:=I.vmu,vcell:=I.vcell,tlt:=I.tlt,tok:=I.tok,tmax:=I.tmax,tdisj:=I.tdisj
  glob:=fun g cs hg=>GlobOk.mono hK (I.glob g cs hg),ro:=rfl,rot:=rfl,rle:=Nat.le_refl _,rtle:=Nat.le_refl _ }
theorem RepL.still {as:List AV} {l:List Value} (hl:RepL T G w as l):RepL T (G.still h) w as l:=
 have hK:Keep G w (G.still h) w:={ mu:=fun _ _ h=>h,vals:=fun _b m h=>⟨m,h,Nat.le_refl _⟩,cells:=fun _ _ _ _ _=>rfl,tau:=fun _ _ _ h=>h,shape:=fun _ c _ fz hb=>⟨c,fz,hb,rfl⟩ }
 RepL.mono hK _ _ hl
def Ghost.back (G G1:Ghost):Ghost:={ mu:=G.mu,vals:=G1.vals,tau:=G.tau,ro:=G.ro,rot:=G.rot }
theorem Inv.backOf (O:EnvOk T E) (I:Inv T E G h w) {Gx G1:Ghost} {h1:AHeap} {w1:World} (hvx:Gx.vals = G.vals) (X:Ext Gx w G1 w1) (I1:Inv T E G1 h1 w1) (hfr:∀ b,b < w.heap.size→w1.heap[b]? = w.heap[b]?)
  (hvf:∀ b m,G.vals b = some m→G1.vals b = some m):Ext G w (G.back G1) w1∧Inv T E (G.back G1) h w1:=by
 have hX:Ext G w (G.back G1) w1:={
  mu:=⟨[],by simp [Ghost.back]⟩,mulate:=by simp [Ghost.back],ro:=rfl,rot:=rfl,size:=X.size,vlt:=I.vlt,vals:=fun b m hb=>⟨m,hvf b m hb,Nat.le_refl _⟩
  valsfix:=fun b m hb _=>hvf b m hb
  valsfresh:=fun b m hb=>by
   rcases X.valsfresh b m hb with ⟨m0,q⟩ | q
   ·exact .inl ⟨m0,by rw [← hvx]; exact q⟩
   ·exact .inr q
  cells:=fun b m hb i _=>cell_of_heap (hfr b (I.vlt b m hb)) i,tau:=fun _ _ _ h=>h,taufresh:=fun k n b h=>.inl ⟨n,h⟩,taufix:=fun k n b _ h=>h
  frame:=fun b hb _ _=>hfr b hb,shape:=X.shape,loops:=X.loops,os:=X.os,tape:=X.tape,output:=X.output }
 refine ⟨hX,?_⟩
 have hK:=hX.keep
 exact {
  len:=I.len,inj:=I.inj,lt:=fun r hr=>Nat.lt_of_lt_of_le (I.lt r hr) X.size
  blk:=fun i b r hb hr=>RepB.mono hK (hfr r (I.lt r (List.mem_of_getElem? hr))) (I.blk i b r hb hr)
  vlt:=I1.vlt
  vmu:=fun b m hb hm=>by
   rcases hX.valsfresh b m hb with ⟨m0,q⟩ | q
   ·exact I.vmu b m0 q hm
   ·have:=I.lt b hm; omega
  vcell:=I1.vcell
  tlt:=fun k n b hb=>by
   obtain ⟨q1,q2,q3⟩:=I.tlt k n b hb
   exact ⟨Nat.lt_of_lt_of_le q1 X.size,q2,q3⟩
  tok:=fun k n hk=>by
   obtain ⟨b,c,e,fz,q1,q2,q3,q4,q5⟩:=I.tok k n hk
   have hb:=heap_lt q2
   exact ⟨b,c,e,fz,q1,(hfr b hb).trans q2,q3,hvf b n q4,fun i x y=>(frozen_of_heap (hfr b hb) i).trans (q5 i x y)⟩
  tmax:=I.tmax,tdisj:=I.tdisj
  glob:=fun g cs hg=>⟨shut_rep (G:=G1) (G':=G.back G1) (shut_own fun b m hb=>⟨m,hb,Nat.le_refl _⟩) (.pin cs) (.pin cs) _ (by simp only [shut,O.glob g cs hg,Option.map_some]) (I1.glob g cs hg).1,(I1.glob g cs hg).2⟩
  ro:=I.ro,rot:=I.rot,rle:=I.rle,rtle:=I.rtle }
theorem Inv.back (O:EnvOk T E) (I:Inv T E G h w) {G1:Ghost} {h1:AHeap} {w1:World} (X:Ext G.own w G1 w1) (I1:Inv T E G1 h1 w1):Ext G w (G.back G1) w1∧Inv T E (G.back G1) h w1:=
 I.backOf O (Gx:=G.own) rfl X I1 (fun b hb=>X.frame b hb (by simp [Ghost.own]) (by simp [Ghost.own])) (fun b m hb=>X.valsfix b m hb (by simp [Ghost.own]))
theorem Inv.backStill (O:EnvOk T E) (I:Inv T E G h w) {G1:Ghost} {h1:AHeap} {w1:World} (X:Ext (G.still h) w G1 w1) (I1:Inv T E G1 h1 w1):Ext G w (G.back G1) w1∧Inv T E (G.back G1) h w1:=by
 have hm:∀ b,b ∉ (G.still h).mu.drop (G.still h).ro:=fun b hb=>by
  simp only [Ghost.still,← I.len,List.drop_length] at hb
  cases hb
 have ht:∀ b k n,(G.still h).rot ≤ k→(G.still h).tau k n ≠ some b:=fun b k n hk he=>by
  have:=(I.tlt k n b he).2.2
  simp only [Ghost.still] at hk
  omega
 exact I.backOf O (Gx:=G.still h) rfl X I1 (fun b hb=>X.frame b hb (hm b) (ht b)) (fun b m hb=>X.valsfix b m hb (ht b))
theorem shut_still (I:Inv T E G h w) {G1:Ghost} {w1:World} (X:Ext (G.still h) w G1 w1):Shut G1 (G.back G1) h.blks.length h.toks.length where
 vals:=fun b m hb=>⟨m,hb,Nat.le_refl _⟩
 mu:=fun b r hb hr=>by
  obtain ⟨l,hl⟩:=X.mu
  rw [hl,List.getElem?_append_left (by rw [show (G.still h).mu = G.mu from rfl,I.len]; exact hb)] at hr
  exact hr
 tau:=fun k n b hk hb=>X.taufix k n b hk hb
theorem setAll_rep:∀ {ps:List Nat} {as:List AV} {l:List Value} {ts:List AV} {tl:Array Value},ps.length = as.length→RepL T G w as l→RepL T G w ts tl.toList →
  RepL T G w (setAll ps as ts) ((ps.zip l).foldl (fun tmps x=>tmps.setIfInBounds x.1 x.2) tl).toList
 | [],[],l,ts,tl,_,hl,ht=>by
  simp only [RepL] at hl
  subst hl
  simpa [setAll] using ht
 | p :: ps,x :: as,l,ts,tl,hlen,hl,ht=>by
  simp only [RepL] at hl
  obtain ⟨y,ys,rfl,h1,h2⟩:=hl
  have:=setAll_rep (ps:=ps) (ts:=ts.set p x) (tl:=tl.setIfInBounds p y) (by simpa using hlen) h2 (by rw [Array.toList_setIfInBounds]; exact RepL.set p ht h1)
  simp only [setAll]
  simpa using this
 | [],x :: as,l,ts,tl,hlen,_,_=>by simp at hlen
 | p :: ps,[],l,ts,tl,hlen,_,_=>by simp at hlen
theorem wpIn_scope {c:Code} {Fc:Fence} {n:Nat} {P:Program} {Q:Exit→Act→World→Prop} {a:Act} {w:World} (hc:c.wpIn Fc n P (Exit.noGoto Q) a w):(Code.scope c).wpIn Fc n P Q a w:=by
 intro b k cs hro hb hr
 have h0:(lone (b.atR a (.code (.scope c) :: k)) cs w).fenced P Fc:=fenced_calm hb hr rfl
 have s0:step P (lone (b.atR a (.code (.scope c) :: k)) cs w) = .next (lone (b.atR a (.code c :: .inScope c :: k)) cs w):=step_lone_go (by simp [stepG,stepG.exec,Frame.atR])
 have s1:∀ a w,step P (lone (b.atR a (.inScope c :: k)) cs w) = .next (lone (b.atR a k) cs w):=fun a w=>step_lone_go (by simp [stepG,stepG.exec,Frame.atR])
 obtain ⟨e,a₁,w₁,hq,harr⟩:=hc b (.inScope c :: k) cs hro hb hr
 have hx:∀ id,exitTo id (.inScope c :: k) = exitTo id k:=fun id=>by simp [exitTo]
 cases e with
 | normal=>exact ⟨.normal,a₁,w₁,hq,.head h0 s0 (StepsIn.trans harr (.one (fenced_calm hb hr rfl) (s1 _ _)))⟩
 | exit id=>exact ⟨.exit id,a₁,w₁,hq,fun k' hk=>.head h0 s0 (harr.1 k' (by rw [hx]; exact hk)),fun hr' hk=>let ⟨k₁,h1,h2⟩:=harr.2 hr' (by rw [hx]; exact hk); ⟨k₁,h1,.head h0 s0 h2⟩⟩
 | goto l=>exact hq.elim
 | ret=>exact ⟨_,a₁,w₁,hq,.of_steps (.one h0 s0) harr⟩
 | panic ch=>exact ⟨_,a₁,w₁,hq,.of_steps (.one h0 s0) harr⟩
 | outgrown=>exact ⟨_,a₁,w₁,hq,.of_steps (.one h0 s0) harr⟩
end Go.Pv
