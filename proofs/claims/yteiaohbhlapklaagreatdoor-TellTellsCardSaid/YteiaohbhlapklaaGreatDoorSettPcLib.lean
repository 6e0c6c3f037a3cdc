/- A part of the proof: functions of the program in the evaluator's code, and what they come to. Conditions: none; definitions and theorems that the statement's proof uses. -/
import Derived.Test.YteiaohbhlapklaaGreatDoorSettPvHas
import Derived.KernelRfl
/- Lemmas for working out functions in the evaluator: slices of equal pieces, loops, numbers. Conditions: none; lemmas. -/
namespace Go.Pv
variable {E:Env}
theorem w64 {n:Int} (h1:-9223372036854775808 ≤ n:=by omega) (h2:n ≤ 9223372036854775807:=by omega):IntKind.i64.wrap n = n:=wrap_i64 h1 h2
theorem fm_len {α:Type} {f:α→List AV} {n:Nat} (hf:∀ a,(f a).length = n):∀ (l:List α),(l.flatMap f).length = l.length * n
 | []=>by simp
 | x :: l=>by
  rw [List.flatMap_cons,List.length_append,fm_len hf l,hf x,List.length_cons,Nat.add_mul]
  omega
theorem fm_drop {α:Type} {f:α→List AV} {n:Nat} (hf:∀ a,(f a).length = n):∀ (l:List α) (i:Nat),(l.flatMap f).drop (i * n) = (l.drop i).flatMap f
 | l,0=>by simp
 | [],i + 1=>by simp
 | x :: l,i + 1=>by
  rw [List.flatMap_cons,Nat.add_mul,Nat.one_mul,Nat.add_comm,← List.drop_drop,← hf x,List.drop_left,hf x,fm_drop hf l i]
  rfl
theorem fm_at {α:Type} {f:α→List AV} {n:Nat} (hf:∀ a,(f a).length = n) {l:List α} {i off m:Nat} (hi:i < l.length) (hm:off + m ≤ n):((l.flatMap f).drop (i * n + off)).take m = ((f l[i]).drop off).take m:=by
 rw [← List.drop_drop,fm_drop hf,List.drop_eq_getElem_cons hi,List.flatMap_cons,List.drop_append_of_le_length (by rw [hf]; omega),List.take_append_of_le_length (by rw [List.length_drop,hf]; omega)]
theorem fm_at0 {α:Type} {f:α→List AV} {n:Nat} (hf:∀ a,(f a).length = n) {l:List α} {i m:Nat} (hi:i < l.length) (hm:m ≤ n):((l.flatMap f).drop (i * n)).take m = (f l[i]).take m:=by
 have:=fm_at hf (off:=0) hi (by simpa using hm)
 simpa using this
theorem fm_el {α:Type} {f:α→List AV} {n:Nat} (hf:∀ a,(f a).length = n) {l:List α} {i:Nat} (hi:i < l.length):((l.flatMap f).drop (i * n)).take n = f l[i]:=by
 rw [fm_at0 hf hi (Nat.le_refl _),List.take_of_length_le (by rw [hf]; exact Nat.le_refl _)]
theorem fm_take {α:Type} {f:α→List AV} {n:Nat} (hf:∀ a,(f a).length = n) (l:List α) (i:Nat):(l.flatMap f).take (i * n) = (l.take i).flatMap f:=by
 induction l generalizing i with
 | nil=>simp
 | cons x l ih=>
  cases i with
  | zero=>simp
  | succ i=>
   rw [List.flatMap_cons,Nat.add_mul,Nat.one_mul,Nat.add_comm,List.take_add,List.take_left' (hf x),List.drop_left' (hf x),ih]
   rfl
theorem le_off {n len k sz off:Nat} (h:k < len) (h2:off + n ≤ sz):n ≤ len * sz - (k * sz + off):=by
 have:(k + 1) * sz ≤ len * sz:=Nat.mul_le_mul_right sz h
 rw [Nat.add_mul] at this
 omega
theorem le_at {n len k sz:Nat} (h:k < len) (h2:n ≤ sz):n ≤ len * sz - k * sz:=by
 have:=le_off (off:=0) h (by omega:0 + n ≤ sz)
 simpa using this
theorem lt_off {len k sz off:Nat} (h:k < len) (h2:off < sz):off < len * sz - k * sz:=by
 have:(k + 1) * sz ≤ len * sz:=Nat.mul_le_mul_right sz h
 rw [Nat.add_mul] at this
 omega
theorem lt_at {len k sz:Nat} (h:k < len) (h2:0 < sz):k * sz < len * sz:=Nat.mul_lt_mul_of_pos_right h h2
theorem map_at {α:Type} {f:α→AV} {l:List α} {i:Nat} (hi:i < l.length):((l.map f).drop i).take 1 = [f l[i]]:=by
 rw [List.drop_eq_getElem_cons (by simpa using hi)]
 simp
@[simp] theorem ic_int (k:IntKind) (n:Int):(AV.int k n).isCell = true:=id rfl
@[simp] theorem ic_str (s:List UInt8):(AV.str s).isCell = true:=id rfl
@[simp] theorem ic_bool (b:Bool):(AV.bool b).isCell = true:=id rfl
@[simp] theorem ic_fn (f:AFn) (a b:List AV):(AV.fn f a b).isCell = true:=id rfl
@[simp] theorem ic_ref (b o:Nat):(AV.ref b o).isCell = true:=id rfl
@[simp] theorem ic_nilp:AV.nilp.isCell = true:=id rfl
@[simp] theorem ic_nils:AV.nils.isCell = true:=id rfl
@[simp] theorem ic_vs (o:Own) (n:Nat) (l:List AV):(AV.vs o n l).isCell = true:=id rfl
@[simp] theorem ic_pin (l:List AV):(AV.pin l).isCell = true:=id rfl
@[simp] theorem ic_map (b:Nat):(AV.map b).isCell = true:=id rfl
@[simp] theorem ic_iface (t:Nat) (v:AV):(AV.iface t v).isCell = true:=id rfl
@[simp] theorem ic_niliface:AV.niliface.isCell = true:=id rfl
@[simp] theorem ic_nilfn:AV.nilfn.isCell = true:=id rfl
theorem take_map_len {α β:Type} (f:α→β) (l:List α):(l.map f).take l.length = l.map f:=List.take_of_length_le (by simp)
theorem via {α β:Type} {x r:β} {f:α→β} (hg:x = r) (h:∃ a,x = f a):∃ a,r = f a:=hg ▸ h
theorem push_set (h:AHeap) (x y:ABlk):(h.push x).setBlk h.blks.length y = h.push y:=by
 simp [AHeap.push,AHeap.setBlk]
theorem push_setk {h:AHeap} {x y:ABlk} {k:Nat} (hk:k = h.blks.length):(h.push x).setBlk k y = h.push y:=by
 subst hk
 exact push_set h x y
theorem setCells_app:∀ (cs l pre:List AV),cs.length = l.length→setCells pre.length cs (pre++l) = pre++cs
 | [],l,pre,h=>by
  have:l = []:=List.eq_nil_of_length_eq_zero (by simpa using h.symm)
  simp [setCells,this]
 | c :: cs,x :: l,pre,h=>by
  simp only [setCells]
  have:=setCells_app cs l (pre++[c]) (by simpa using h)
  simp only [List.length_append,List.length_singleton,List.append_assoc,List.singleton_append] at this
  rw [List.set_append_right _ _ (Nat.le_refl _)]
  simpa using this
 | c :: cs,[],pre,h=>by simp at h
theorem setCells_full {cs l:List AV} (h:cs.length = l.length):setCells 0 cs l = cs:=by
 have:=setCells_app cs l [] h
 simpa using this
theorem shutL_append {n t:Nat}:∀ {a b a' b':List AV},shutL n t a = some a'→shutL n t b = some b'→shutL n t (a++b) = some (a'++b')
 | [],b,a',b',h1,h2=>by simp only [shutL] at h1; cases h1; simpa using h2
 | v :: a,b,a',b',h1,h2=>by
  simp only [shutL] at h1
  split at h1
  ·rename_i x xs q1 q2
   cases h1
   simp only [List.cons_append,shutL,q1,shutL_append q2 h2]
  ·cases h1
theorem shutL_flat {n t:Nat} {α:Type} {f:α→List AV} (hf:∀ a,shutL n t (f a) = some (f a)):∀ (l:List α),shutL n t (l.flatMap f) = some (l.flatMap f)
 | []=>by simp [shutL]
 | x :: l=>by
  rw [List.flatMap_cons]
  exact shutL_append (hf x) (shutL_flat hf l)
theorem shutL_map {n t:Nat} {α:Type} {f:α→AV} (hf:∀ a,shut n t (f a) = some (f a)):∀ (l:List α),shutL n t (l.map f) = some (l.map f)
 | []=>by simp [shutL]
 | x :: l=>by simp only [List.map_cons,shutL,hf x,shutL_map hf l]
theorem all_flat {α:Type} {f:α→List AV} (hf:∀ a,(f a).all AV.isCell = true) (l:List α):(l.flatMap f).all AV.isCell = true:=by
 simp only [List.all_flatMap,List.all_eq_true]
 intro a _
 exact List.all_eq_true.1 (hf a)
def idxV {α:Type} (p:α→Bool) (L:List α):Int:=if L.any p then (L.findIdx p:Nat) else -1
theorem idxV_cons {α:Type} (p:α→Bool) (a:α) (L:List α):idxV p (a :: L) = if p a then 0 else if idxV p L = -1 then -1 else idxV p L + 1:=by
 unfold idxV
 cases ha:p a
 ·cases hL:L.any p
  ·simp [ha,hL]
  ·simp only [List.any_cons,ha,hL,Bool.or_true,if_true,List.findIdx_cons,cond_false,Bool.false_eq_true,if_false]
   rw [if_neg (by omega)]
   omega
 ·simp [ha,List.findIdx_cons]
theorem idxV_range {α:Type} (p:α→Bool) (L:List α):idxV p L = -1∨∃ i:Nat,i < L.length∧idxV p L = i:=by
 unfold idxV
 split
 ·rename_i h
  exact .inr ⟨_,List.findIdx_lt_length.2 (by simpa using h),rfl⟩
 ·exact .inl rfl
def extE (E:Env) (tab:List (Nat × SFunc)) (gt:List (Nat × List AV)) (xt:List (Nat × (List AV→Option AV))):Env:=
 {fn:=fun j=>match tab.lookup j with | some f=>some f | none=>E.fn j,glob:=fun g=>match gt.lookup g with | some c=>some c | none=>E.glob g,
  ext:=fun j=>match tab.lookup j with | some _=>none | none=>match xt.lookup j with | some g=>some g | none=>E.ext j }
theorem ext_eq {E:Env} {tab:List (Nat × SFunc)} {gt:List (Nat × List AV)} {xt:List (Nat × (List AV→Option AV))} (h:∀ p ∈ tab,E.code p.1 = some p.2) (hg:∀ p ∈ gt,E.glob p.1 = some p.2) (hx:∀ p ∈ xt,E.ext p.1 = some p.2):extE E tab gt xt = E:=by
 have lk:∀ {β:Type} (l:List (Nat × β)) (j:Nat) (b:β),l.lookup j = some b→(j,b) ∈ l:=by
  intro β l
  induction l with
  | nil=>intro j b hb; simp at hb
  | cons p l ih=>
   intro j b hb
   simp only [List.lookup] at hb
   split at hb
   ·rename_i hj
    have:=eq_of_beq hj
    cases hb
    subst this
    exact List.mem_cons_self
   ·exact List.mem_cons_of_mem _ (ih j b hb)
 unfold extE
 congr 1
 ·funext j
  split
  ·rename_i f hf
   exact (code_spec (h _ (lk _ _ _ hf))).2.symm
  ·rfl
 ·funext g
  split
  ·rename_i c hc
   exact (hg _ (lk _ _ _ hc)).symm
  ·rfl
 ·funext j
  split
  ·rename_i f hf
   exact (code_spec (h _ (lk _ _ _ hf))).1.symm
  ·split
   ·rename_i g hg
    exact (hx _ (lk _ _ _ hg)).symm
   ·rfl
end Go.Pv
/- What the functions of the package style come to, and the reference's. Conditions: the functions' codes; theorems. -/
namespace Go.Pv
variable {E:Env}
structure Sty where
 fold:Bool
 mul:UInt8
 div:UInt8
 pow:UInt8
 opn:UInt8
 cls:UInt8
 deriving DecidableEq
def sty0:Sty:=⟨false,0,0,0,0,0⟩
def styL:List Sty:=[⟨false,46,47,0,123,125⟩,⟨true,46,47,0,123,125⟩,⟨false,42,47,94,60,62⟩,⟨true,46,47,0,0,0⟩,⟨false,46,47,94,0,0⟩]
def isN (x:Int):Bool:=decide (1 ≤ x) && decide (x ≤ 5)
def sty (x:Int):Sty:=if isN x then styL.getD (x - 1).toNat sty0 else sty0
abbrev b8 (c:UInt8):AV:=.int .u8 (c.toNat:Int)
def Sty.cs (s:Sty):List AV:=[.bool s.fold,b8 s.mul,b8 s.div,b8 s.pow,b8 s.opn,b8 s.cls]
theorem isN_cases {x:Int} (h:isN x = true):x = 1∨x = 2∨x = 3∨x = 4∨x = 5:=by
 simp only [isN,Bool.and_eq_true,decide_eq_true_eq] at h
 omega
theorem of_eq (H:Has 44 E) (x:Int):EvClosed E (.fn (.func 44) [] []) [.int .i64 x] = some (.tuple [.agg (sty x).cs,.bool (isN x)]):=by
 rw [EvClosed_eq H.c44 rfl (vs:=[.int .i64 x]) (by simp),EvFn_eq]
 have hg:=H.v1
 simp only [globAll,g1] at hg
 cases hx:isN x
 ·by_cases h1:x < 1
  ·simp [f44,start,h1,sty,hx,Sty.cs,sty0]
  ·have h2:5 < x:=by simp [isN] at hx; omega
   simp [f44,start,h1,h2,sty,hx,Sty.cs,sty0]
 ·rcases isN_cases hx with rfl | rfl | rfl | rfl | rfl <;> simp [f44,start,hg,sty,hx,Sty.cs,styL,w64]
def isLet (m:Nat):Bool:=(decide (97 ≤ m) && decide (m ≤ 122)) || (decide (65 ≤ m) && decide (m ≤ 90)) || m == 37 || m == 39 || m == 95 || m == 91 || m == 93
def isDig (m:Nat):Bool:=decide (48 ≤ m) && decide (m ≤ 57)
def kindS (s:Sty) (m:Nat):Int:=
 if m == 0 then 0 else if isLet m then 1 else if isDig m then 2 else if m == 43 || m == 45 then 3 else if m == 40 then 7 else if m == 41 then 8 else
 if m == s.mul.toNat then 4 else if m == s.div.toNat then 5 else if m == s.pow.toNat then 6 else if m == s.opn.toNat then 9 else if m == s.cls.toNat then 10 else 0
def kind (x:Int) (c:UInt8):Int:=if isN x then kindS (sty x) c.toNat else 0
theorem idx_marks_all:((List.range 256).all fun (m:Nat)=>decide (0 ≤ idxByte [37,39,95,91,93] (m:Int)) == (m == 37 || m == 39 || m == 95 || m == 91 || m == 93)) = true:=by kernel_rfl
theorem idx_marks (c:UInt8):decide (0 ≤ idxByte [37,39,95,91,93] (c.toNat:Int)) = (c.toNat == 37 || c.toNat == 39 || c.toNat == 95 || c.toNat == 91 || c.toNat == 93):=by
 have:=List.all_eq_true.1 idx_marks_all c.toNat (by simp; exact c.toNat_lt)
 simpa using this
theorem kindS_int (s:Sty) (m:Nat):kindS s m = if (m:Int) == 0 then 0 else if (decide ((97:Int) ≤ m) && decide ((m:Int) ≤ 122)) || (decide ((65:Int) ≤ m) && decide ((m:Int) ≤ 90)) || (m == 37 || m == 39 || m == 95 || m == 91 || m == 93) then 1 else if decide ((48:Int) ≤ m) && decide ((m:Int) ≤ 57) then 2 else
     if (m:Int) == 43 then 3 else if (m:Int) == 45 then 3 else if (m:Int) == 40 then 7 else if (m:Int) == 41 then 8 else if (m:Int) == s.mul.toNat then 4 else if (m:Int) == s.div.toNat then 5 else if (m:Int) == s.pow.toNat then 6 else
     if (m:Int) == s.opn.toNat then 9 else if (m:Int) == s.cls.toNat then 10 else 0:=by
 have e:∀ k:Nat,((m:Int) == (k:Int)) = (m == k):=fun k=>by
  rw [Bool.eq_iff_iff]
  simp only [beq_iff_eq]
  omega
 have l:∀ k:Nat,decide ((k:Int) ≤ (m:Int)) = decide (k ≤ m):=fun k=>decide_eq_decide.2 (by omega)
 have g:∀ k:Nat,decide ((m:Int) ≤ (k:Int)) = decide (m ≤ k):=fun k=>decide_eq_decide.2 (by omega)
 have e0:((m:Int) == 0) = (m == 0):=e 0
 have e43:((m:Int) == 43) = (m == 43):=e 43
 have e45:((m:Int) == 45) = (m == 45):=e 45
 have e40:((m:Int) == 40) = (m == 40):=e 40
 have e41:((m:Int) == 41) = (m == 41):=e 41
 have l97:decide ((97:Int) ≤ (m:Int)) = decide (97 ≤ m):=l 97
 have l65:decide ((65:Int) ≤ (m:Int)) = decide (65 ≤ m):=l 65
 have l48:decide ((48:Int) ≤ (m:Int)) = decide (48 ≤ m):=l 48
 have g122:decide ((m:Int) ≤ 122) = decide (m ≤ 122):=g 122
 have g90:decide ((m:Int) ≤ 90) = decide (m ≤ 90):=g 90
 have g57:decide ((m:Int) ≤ 57) = decide (m ≤ 57):=g 57
 simp only [kindS,isLet,isDig,e0,e43,e45,e40,e41,l97,l65,l48,g122,g90,g57,e,Bool.or_assoc]
 cases h43:(m == 43) <;> simp
set_option maxHeartbeats 4000000 in
theorem kind_eq (H:Has 62 E) (x:Int) (c:UInt8):EvClosed E (.fn (.func 62) [] []) [.int .i64 x,b8 c] = some (.int .i64 (kind x c)):=by
 rw [EvClosed_eq H.c62 rfl (vs:=[.int .i64 x,b8 c]) (by simp),EvFn_eq]
 have ho:=of_eq (H.to 44) x
 simp only [Sty.cs] at ho
 cases hx:isN x
 ·rw [hx] at ho
  simp [f62,start,EvCall_closed H.c44 rfl,ho,kind,hx]
 ·rw [hx] at ho
  have hib:EvClosed E (.fn (.func 66) [] []) [.str [37,39,95,91,93],b8 c] = some (.int .i64 (idxByte [37,39,95,91,93] c.toNat)):=by
   rw [EvClosed_eq H.c66 rfl (vs:=[.str [37,39,95,91,93],b8 c]) (by simp),EvFn_eq]
   simp [f66,start,EvCall_ext H.x81,EvClosed_ext H.x81,extIB,(by have:=c.toNat_lt; omega:(c.toNat:Int) ≤ 255)]
  simp only [kind,hx,if_true,kindS_int]
  rw [← idx_marks c]
  have main:∀ (a1 a2 b1 b2 d1 d2 mk:Bool),decide ((97:Int) ≤ c.toNat) = a1→decide ((c.toNat:Int) ≤ 122) = a2→decide ((65:Int) ≤ c.toNat) = b1→decide ((c.toNat:Int) ≤ 90) = b2→decide ((48:Int) ≤ c.toNat) = d1→decide ((c.toNat:Int) ≤ 57) = d2 →
    decide (0 ≤ idxByte [37,39,95,91,93] c.toNat) = mk→((c.toNat:Int) == 0) = false →
    closedEnd (endFn f62 (EvDef E) (EvCode E f62.body (start f62 [.int .i64 x,b8 c]) heap0)) = some (.int .i64 (if (a1 && a2) || (b1 && b2) || mk then 1 else if d1 && d2 then 2 else
     if (c.toNat:Int) == 43 then 3 else if (c.toNat:Int) == 45 then 3 else if (c.toNat:Int) == 40 then 7 else if (c.toNat:Int) == 41 then 8 else if (c.toNat:Int) == (sty x).mul.toNat then 4 else if (c.toNat:Int) == (sty x).div.toNat then 5 else if (c.toNat:Int) == (sty x).pow.toNat then 6 else
     if (c.toNat:Int) == (sty x).opn.toNat then 9 else if (c.toNat:Int) == (sty x).cls.toNat then 10 else 0)):=by
   intro a1 a2 b1 b2 d1 d2 mk h1 h2 h3 h4 h5 h6 h7 h8
   by_cases hL:((a1 && a2) || (b1 && b2) || mk) = true
   ·rw [if_pos hL]
    cases a1 <;> cases b1 <;> cases a2 <;> cases b2 <;> cases mk <;> simp at hL <;> simp [f62,start,EvCall_closed H.c44 rfl,EvCall_closed H.c66 rfl,ho,hib,h1,h2,h3,h4,h7,h8]
   ·rw [if_neg hL]
    simp only [Bool.or_eq_true,Bool.and_eq_true,not_or,not_and,Bool.not_eq_true] at hL
    obtain ⟨⟨k1,k2⟩,k3⟩:=hL
    subst k3
    by_cases hD:(d1 && d2) = true
    ·rw [if_pos hD]
     simp only [Bool.and_eq_true] at hD
     obtain ⟨rfl,rfl⟩:=hD
     have q:(c.toNat:Int) ≤ 57:=of_decide_eq_true h6
     have e1:a1 = false:=by rw [← h1]; exact decide_eq_false (by omega)
     have e2:b1 = false:=by rw [← h3]; exact decide_eq_false (by omega)
     subst e1
     subst e2
     simp [f62,start,EvCall_closed H.c44 rfl,EvCall_closed H.c66 rfl,ho,hib,h1,h3,h5,h6,h7,h8]
    ·rw [if_neg hD]
     have hr:(c.toNat < 48∧d1 = false∧a1 = false∧b1 = false)∨(d1 = true∧d2 = false∧a1 = false∧b1 = false)∨(d1 = true∧d2 = false∧a1 = false∧b1 = true∧b2 = false)∨(d1 = true∧d2 = false∧a1 = true∧a2 = false∧b1 = true∧b2 = false):=by
      cases a1 <;> cases a2 <;> cases b1 <;> cases b2 <;> cases d1 <;> cases d2 <;> simp at h1 h2 h3 h4 h5 h6 k1 k2 hD ⊢ <;> omega
     rcases hr with ⟨_,rfl,rfl,rfl⟩ | ⟨rfl,rfl,rfl,rfl⟩ | ⟨rfl,rfl,rfl,rfl,rfl⟩ | ⟨rfl,rfl,rfl,rfl,rfl,rfl⟩
     ·cases e1:((c.toNat:Int) == 43) <;> cases e2:((c.toNat:Int) == 45) <;> simp [f62,start,EvCall_closed H.c44 rfl,EvCall_closed H.c66 rfl,ho,hib,e1,e2,h1,h3,h5,h7,h8] <;> (repeat' split) <;> rfl
     ·cases e1:((c.toNat:Int) == 43) <;> cases e2:((c.toNat:Int) == 45) <;> simp [f62,start,EvCall_closed H.c44 rfl,EvCall_closed H.c66 rfl,ho,hib,e1,e2,h1,h3,h5,h6,h7,h8] <;> (repeat' split) <;> rfl
     ·cases e1:((c.toNat:Int) == 43) <;> cases e2:((c.toNat:Int) == 45) <;> simp [f62,start,EvCall_closed H.c44 rfl,EvCall_closed H.c66 rfl,ho,hib,e1,e2,h1,h3,h4,h5,h6,h7,h8] <;> (repeat' split) <;> rfl
     ·cases e1:((c.toNat:Int) == 43) <;> cases e2:((c.toNat:Int) == 45) <;> simp [f62,start,EvCall_closed H.c44 rfl,EvCall_closed H.c66 rfl,ho,hib,e1,e2,h1,h2,h3,h4,h5,h6,h7,h8] <;> (repeat' split) <;> rfl
  by_cases h0:((c.toNat:Int) == 0) = true
  ·rw [if_pos h0]
   simp [f62,start,EvCall_closed H.c44 rfl,ho,h0]
  ·rw [if_neg h0]
   exact main _ _ _ _ _ _ _ rfl rfl rfl rfl rfl rfl rfl (by simpa using h0)
end Go.Pv
/- What the reference's functions of chapter 7 come to: of, kind. Conditions: the functions' codes; theorems. -/
namespace Go.Pv
variable {E:Env}
theorem refOf_eq (H:Has 19 E) (x:Int):EvClosed E (.fn (.func 19) [] []) [.int .i64 x] = some (.agg (sty x).cs):=by
 rw [EvClosed_eq H.c19 rfl (vs:=[.int .i64 x]) (by simp),EvFn_eq]
 cases hx:isN x
 ·have h1:(x == 1) = false:=by simp [isN] at hx ⊢; omega
  have h2:(x == 2) = false:=by simp [isN] at hx ⊢; omega
  have h3:(x == 3) = false:=by simp [isN] at hx ⊢; omega
  have h4:(x == 4) = false:=by simp [isN] at hx ⊢; omega
  have h5:(x == 5) = false:=by simp [isN] at hx ⊢; omega
  simp [f19,start,h1,h2,h3,h4,h5,sty,hx,Sty.cs,sty0]
 ·rcases isN_cases hx with rfl | rfl | rfl | rfl | rfl <;> simp [f19,start,sty,hx,Sty.cs,styL]
theorem sty_mul (x:Int):(((sty x).mul.toNat:Int) == 0) = !isN x:=by
 cases hx:isN x
 ·simp [sty,hx,sty0]
 ·rcases isN_cases hx with rfl | rfl | rfl | rfl | rfl <;> simp [sty,hx,styL]
set_option maxHeartbeats 4000000 in
theorem refKind_eq (H:Has 193 E) (x:Int) (c:UInt8):EvClosed E (.fn (.func 193) [] []) [.int .i64 x,b8 c] = some (.int .i64 (kind x c)):=by
 rw [EvClosed_eq H.c193 rfl (vs:=[.int .i64 x,b8 c]) (by simp),EvFn_eq]
 have ho:=refOf_eq (H.to 19) x
 have hmul:=sty_mul x
 simp only [Sty.cs] at ho
 cases hx:isN x
 ·rw [hx] at hmul
  simp only [Bool.not_false] at hmul
  simp [f193,start,EvCall_closed H.c19 rfl,ho,kind,hx,hmul]
 ·rw [hx] at hmul
  simp only [Bool.not_true] at hmul
  simp only [kind,hx,if_true,kindS_int]
  by_cases h0:((c.toNat:Int) == 0) = true
  ·rw [if_pos h0]
   simp [f193,start,EvCall_closed H.c19 rfl,ho,h0,hmul]
  ·rw [if_neg h0]
   have h0':((c.toNat:Int) == 0) = false:=by simpa using h0
   have F:∀ k:Int,(c.toNat:Int) ≠ k→((c.toNat:Int) == k) = false:=fun k hk=>by simpa using hk
   have B:∀ k:Nat,c.toNat ≠ k→(c.toNat == k) = false:=fun k hk=>by simpa using hk
   have D:∀ {p:Prop} [Decidable p],p→decide p = true:=fun hp=>decide_eq_true hp
   have N:∀ {p:Prop} [Decidable p],¬ p→decide p = false:=fun hp=>decide_eq_false hp
   have hc:=c.toNat_lt
   have hcl:(97 ≤ c.toNat∧c.toNat ≤ 122)∨(65 ≤ c.toNat∧c.toNat ≤ 90)∨c.toNat = 37∨c.toNat = 39∨c.toNat = 95∨c.toNat = 91∨c.toNat = 93∨(48 ≤ c.toNat∧c.toNat ≤ 57)∨(c.toNat < 48∧c.toNat ≠ 37∧c.toNat ≠ 39)∨(58 ≤ c.toNat∧c.toNat ≤ 64)∨(91 ≤ c.toNat∧c.toNat ≤ 96∧c.toNat ≠ 91∧c.toNat ≠ 93∧c.toNat ≠ 95)∨123 ≤ c.toNat:=by omega
   rcases hcl with h | h | h | h | h | h | h | h | h | h | h | h
   ·simp [f193,start,EvCall_closed H.c19 rfl,ho,h0',hmul,D (p:=(97:Int) ≤ c.toNat) (by omega),D (p:=(c.toNat:Int) ≤ 122) (by omega)]
   ·simp [f193,start,EvCall_closed H.c19 rfl,ho,h0',hmul,N (p:=(97:Int) ≤ c.toNat) (by omega),D (p:=(65:Int) ≤ c.toNat) (by omega),D (p:=(c.toNat:Int) ≤ 90) (by omega)]
   ·simp [f193,start,EvCall_closed H.c19 rfl,ho,hmul,h]
   ·simp [f193,start,EvCall_closed H.c19 rfl,ho,hmul,h]
   ·simp [f193,start,EvCall_closed H.c19 rfl,ho,hmul,h]
   ·simp [f193,start,EvCall_closed H.c19 rfl,ho,hmul,h]
   ·simp [f193,start,EvCall_closed H.c19 rfl,ho,hmul,h]
   ·simp [f193,start,EvCall_closed H.c19 rfl,ho,h0',hmul,N (p:=(97:Int) ≤ c.toNat) (by omega),N (p:=(65:Int) ≤ c.toNat) (by omega),F 37 (by omega),F 39 (by omega),F 95 (by omega),F 91 (by omega),F 93 (by omega),D (p:=(48:Int) ≤ c.toNat) (by omega),D (p:=(c.toNat:Int) ≤ 57) (by omega),B 37 (by omega),B 39 (by omega),B 95 (by omega),B 91 (by omega),B 93 (by omega)]
   ·cases e1:((c.toNat:Int) == 43) <;> cases e2:((c.toNat:Int) == 45) <;> simp [f193,start,EvCall_closed H.c19 rfl,ho,h0',hmul,e1,e2,N (p:=(97:Int) ≤ c.toNat) (by omega),N (p:=(65:Int) ≤ c.toNat) (by omega),F 37 (by omega),F 39 (by omega),F 95 (by omega),F 91 (by omega),F 93 (by omega),N (p:=(48:Int) ≤ c.toNat) (by omega),B 37 (by omega),B 39 (by omega),B 95 (by omega),B 91 (by omega),B 93 (by omega)] <;> (repeat' split) <;> rfl
   ·cases e1:((c.toNat:Int) == 43) <;> cases e2:((c.toNat:Int) == 45) <;> simp [f193,start,EvCall_closed H.c19 rfl,ho,h0',hmul,e1,e2,N (p:=(97:Int) ≤ c.toNat) (by omega),N (p:=(65:Int) ≤ c.toNat) (by omega),F 37 (by omega),F 39 (by omega),F 95 (by omega),F 91 (by omega),F 93 (by omega),D (p:=(48:Int) ≤ c.toNat) (by omega),N (p:=(c.toNat:Int) ≤ 57) (by omega),B 37 (by omega),B 39 (by omega),B 95 (by omega),B 91 (by omega),B 93 (by omega)] <;> (repeat' split) <;> rfl
   ·cases e1:((c.toNat:Int) == 43) <;> cases e2:((c.toNat:Int) == 45) <;> simp [f193,start,EvCall_closed H.c19 rfl,ho,h0',hmul,e1,e2,N (p:=(97:Int) ≤ c.toNat) (by omega),D (p:=(65:Int) ≤ c.toNat) (by omega),N (p:=(c.toNat:Int) ≤ 90) (by omega),F 37 (by omega),F 39 (by omega),F 95 (by omega),F 91 (by omega),F 93 (by omega),D (p:=(48:Int) ≤ c.toNat) (by omega),N (p:=(c.toNat:Int) ≤ 57) (by omega),B 37 (by omega),B 39 (by omega),B 95 (by omega),B 91 (by omega),B 93 (by omega)] <;> (repeat' split) <;> rfl
   ·cases e1:((c.toNat:Int) == 43) <;> cases e2:((c.toNat:Int) == 45) <;> simp [f193,start,EvCall_closed H.c19 rfl,ho,h0',hmul,e1,e2,D (p:=(97:Int) ≤ c.toNat) (by omega),N (p:=(c.toNat:Int) ≤ 122) (by omega),D (p:=(65:Int) ≤ c.toNat) (by omega),N (p:=(c.toNat:Int) ≤ 90) (by omega),F 37 (by omega),F 39 (by omega),F 95 (by omega),F 91 (by omega),F 93 (by omega),D (p:=(48:Int) ≤ c.toNat) (by omega),N (p:=(c.toNat:Int) ≤ 57) (by omega),B 37 (by omega),B 39 (by omega),B 95 (by omega),B 91 (by omega),B 93 (by omega)] <;> (repeat' split) <;> rfl
end Go.Pv
