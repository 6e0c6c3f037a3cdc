/- A part of the proof: functions of the program in the evaluator's code, and what they come to. Conditions: none; definitions and theorems that the statement's proof uses. -/
import Derived.Test.YtamopjeecnhfaaaGreatDoorSetwPvHas
import Derived.Test.YtamopjeecnhfaaaGreatDoorSetwPv1
/- Lemmas for working out functions in the evaluator: slices of equal pieces, loops, numbers. Conditions: none; lemmas. -/
namespace Go.Pv
variable {E:Env}
theorem w64 {n:Int} (h1:-9223372036854775808 ≤ n:=by omega) (h2:n ≤ 9223372036854775807:=by omega):IntKind.i64.wrap n = n:=wrap_i64 h1 h2
theorem fm_len {α:Type} {f:α→List AV} {n:Nat} (hf:∀ a,(f a).length = n):∀ (l:List α),(l.flatMap f).length = l.length * n
 | []=>by simp
 | x :: l=>by
  rw [List.flatMap_cons,List.length_append,fm_len hf l,hf x,List.length_cons,Nat.add_mul]
  omega
theorem fm_drop {α:Type} {f:α→List AV} {n:Nat} (hf:∀ a,(f a).length = n):∀ (l:List α) (i:Nat),(l.flatMap f).drop (i * n) = (l.drop i).flatMap f
 | l,0=>by simp
 | [],i + 1=>by simp
 | x :: l,i + 1=>by
  rw [List.flatMap_cons,Nat.add_mul,Nat.one_mul,Nat.add_comm,← List.drop_drop,← hf x,List.drop_left,hf x,fm_drop hf l i]
  rfl
theorem fm_at {α:Type} {f:α→List AV} {n:Nat} (hf:∀ a,(f a).length = n) {l:List α} {i off m:Nat} (hi:i < l.length) (hm:off + m ≤ n):((l.flatMap f).drop (i * n + off)).take m = ((f l[i]).drop off).take m:=by
 rw [← List.drop_drop,fm_drop hf,List.drop_eq_getElem_cons hi,List.flatMap_cons,List.drop_append_of_le_length (by rw [hf]; omega),List.take_append_of_le_length (by rw [List.length_drop,hf]; omega)]
theorem fm_at0 {α:Type} {f:α→List AV} {n:Nat} (hf:∀ a,(f a).length = n) {l:List α} {i m:Nat} (hi:i < l.length) (hm:m ≤ n):((l.flatMap f).drop (i * n)).take m = (f l[i]).take m:=by
 have:=fm_at hf (off:=0) hi (by simpa using hm)
 simpa using this
theorem fm_el {α:Type} {f:α→List AV} {n:Nat} (hf:∀ a,(f a).length = n) {l:List α} {i:Nat} (hi:i < l.length):((l.flatMap f).drop (i * n)).take n = f l[i]:=by
 rw [fm_at0 hf hi (Nat.le_refl _),List.take_of_length_le (by rw [hf]; exact Nat.le_refl _)]
theorem fm_take {α:Type} {f:α→List AV} {n:Nat} (hf:∀ a,(f a).length = n) (l:List α) (i:Nat):(l.flatMap f).take (i * n) = (l.take i).flatMap f:=by
 induction l generalizing i with
 | nil=>simp
 | cons x l ih=>
  cases i with
  | zero=>simp
  | succ i=>
   rw [List.flatMap_cons,Nat.add_mul,Nat.one_mul,Nat.add_comm,List.take_add,List.take_left' (hf x),List.drop_left' (hf x),ih]
   rfl
theorem le_off {n len k sz off:Nat} (h:k < len) (h2:off + n ≤ sz):n ≤ len * sz - (k * sz + off):=by
 have:(k + 1) * sz ≤ len * sz:=Nat.mul_le_mul_right sz h
 rw [Nat.add_mul] at this
 omega
theorem le_at {n len k sz:Nat} (h:k < len) (h2:n ≤ sz):n ≤ len * sz - k * sz:=by
 have:=le_off (off:=0) h (by omega:0 + n ≤ sz)
 simpa using this
theorem lt_off {len k sz off:Nat} (h:k < len) (h2:off < sz):off < len * sz - k * sz:=by
 have:(k + 1) * sz ≤ len * sz:=Nat.mul_le_mul_right sz h
 rw [Nat.add_mul] at this
 omega
theorem lt_at {len k sz:Nat} (h:k < len) (h2:0 < sz):k * sz < len * sz:=Nat.mul_lt_mul_of_pos_right h h2
theorem map_at {α:Type} {f:α→AV} {l:List α} {i:Nat} (hi:i < l.length):((l.map f).drop i).take 1 = [f l[i]]:=by
 rw [List.drop_eq_getElem_cons (by simpa using hi)]
 simp
@[simp] theorem ic_int (k:IntKind) (n:Int):(AV.int k n).isCell = true:=id rfl
@[simp] theorem ic_str (s:List UInt8):(AV.str s).isCell = true:=id rfl
@[simp] theorem ic_bool (b:Bool):(AV.bool b).isCell = true:=id rfl
@[simp] theorem ic_fn (f:AFn) (a b:List AV):(AV.fn f a b).isCell = true:=id rfl
@[simp] theorem ic_ref (b o:Nat):(AV.ref b o).isCell = true:=id rfl
@[simp] theorem ic_nilp:AV.nilp.isCell = true:=id rfl
@[simp] theorem ic_nils:AV.nils.isCell = true:=id rfl
@[simp] theorem ic_vs (o:Own) (n:Nat) (l:List AV):(AV.vs o n l).isCell = true:=id rfl
@[simp] theorem ic_pin (l:List AV):(AV.pin l).isCell = true:=id rfl
@[simp] theorem ic_map (b:Nat):(AV.map b).isCell = true:=id rfl
@[simp] theorem ic_iface (t:Nat) (v:AV):(AV.iface t v).isCell = true:=id rfl
@[simp] theorem ic_niliface:AV.niliface.isCell = true:=id rfl
@[simp] theorem ic_nilfn:AV.nilfn.isCell = true:=id rfl
theorem take_map_len {α β:Type} (f:α→β) (l:List α):(l.map f).take l.length = l.map f:=List.take_of_length_le (by simp)
theorem via {α β:Type} {x r:β} {f:α→β} (hg:x = r) (h:∃ a,x = f a):∃ a,r = f a:=hg ▸ h
theorem push_set (h:AHeap) (x y:ABlk):(h.push x).setBlk h.blks.length y = h.push y:=by
 simp [AHeap.push,AHeap.setBlk]
theorem push_setk {h:AHeap} {x y:ABlk} {k:Nat} (hk:k = h.blks.length):(h.push x).setBlk k y = h.push y:=by
 subst hk
 exact push_set h x y
theorem setCells_app:∀ (cs l pre:List AV),cs.length = l.length→setCells pre.length cs (pre++l) = pre++cs
 | [],l,pre,h=>by
  have:l = []:=List.eq_nil_of_length_eq_zero (by simpa using h.symm)
  simp [setCells,this]
 | c :: cs,x :: l,pre,h=>by
  simp only [setCells]
  have:=setCells_app cs l (pre++[c]) (by simpa using h)
  simp only [List.length_append,List.length_singleton,List.append_assoc,List.singleton_append] at this
  rw [List.set_append_right _ _ (Nat.le_refl _)]
  simpa using this
 | c :: cs,[],pre,h=>by simp at h
theorem setCells_full {cs l:List AV} (h:cs.length = l.length):setCells 0 cs l = cs:=by
 have:=setCells_app cs l [] h
 simpa using this
theorem shutL_append {n t:Nat}:∀ {a b a' b':List AV},shutL n t a = some a'→shutL n t b = some b'→shutL n t (a++b) = some (a'++b')
 | [],b,a',b',h1,h2=>by simp only [shutL] at h1; cases h1; simpa using h2
 | v :: a,b,a',b',h1,h2=>by
  simp only [shutL] at h1
  split at h1
  ·rename_i x xs q1 q2
   cases h1
   simp only [List.cons_append,shutL,q1,shutL_append q2 h2]
  ·cases h1
theorem shutL_flat {n t:Nat} {α:Type} {f:α→List AV} (hf:∀ a,shutL n t (f a) = some (f a)):∀ (l:List α),shutL n t (l.flatMap f) = some (l.flatMap f)
 | []=>by simp [shutL]
 | x :: l=>by
  rw [List.flatMap_cons]
  exact shutL_append (hf x) (shutL_flat hf l)
theorem shutL_map {n t:Nat} {α:Type} {f:α→AV} (hf:∀ a,shut n t (f a) = some (f a)):∀ (l:List α),shutL n t (l.map f) = some (l.map f)
 | []=>by simp [shutL]
 | x :: l=>by simp only [List.map_cons,shutL,hf x,shutL_map hf l]
theorem all_flat {α:Type} {f:α→List AV} (hf:∀ a,(f a).all AV.isCell = true) (l:List α):(l.flatMap f).all AV.isCell = true:=by
 simp only [List.all_flatMap,List.all_eq_true]
 intro a _
 exact List.all_eq_true.1 (hf a)
def idxV {α:Type} (p:α→Bool) (L:List α):Int:=if L.any p then (L.findIdx p:Nat) else -1
theorem idxV_cons {α:Type} (p:α→Bool) (a:α) (L:List α):idxV p (a :: L) = if p a then 0 else if idxV p L = -1 then -1 else idxV p L + 1:=by
 unfold idxV
 cases ha:p a
 ·cases hL:L.any p
  ·simp [ha,hL]
  ·simp only [List.any_cons,ha,hL,Bool.or_true,if_true,List.findIdx_cons,cond_false,Bool.false_eq_true,if_false]
   rw [if_neg (by omega)]
   omega
 ·simp [ha,List.findIdx_cons]
theorem idxV_range {α:Type} (p:α→Bool) (L:List α):idxV p L = -1∨∃ i:Nat,i < L.length∧idxV p L = i:=by
 unfold idxV
 split
 ·rename_i h
  exact .inr ⟨_,List.findIdx_lt_length.2 (by simpa using h),rfl⟩
 ·exact .inl rfl
def extE (E:Env) (tab:List (Nat × SFunc)) (gt:List (Nat × List AV)) (xt:List (Nat × (List AV→Option AV))):Env:=
 {fn:=fun j=>match tab.lookup j with | some f=>some f | none=>E.fn j,glob:=fun g=>match gt.lookup g with | some c=>some c | none=>E.glob g,
  ext:=fun j=>match tab.lookup j with | some _=>none | none=>match xt.lookup j with | some g=>some g | none=>E.ext j }
theorem ext_eq {E:Env} {tab:List (Nat × SFunc)} {gt:List (Nat × List AV)} {xt:List (Nat × (List AV→Option AV))} (h:∀ p ∈ tab,E.code p.1 = some p.2) (hg:∀ p ∈ gt,E.glob p.1 = some p.2) (hx:∀ p ∈ xt,E.ext p.1 = some p.2):extE E tab gt xt = E:=by
 have lk:∀ {β:Type} (l:List (Nat × β)) (j:Nat) (b:β),l.lookup j = some b→(j,b) ∈ l:=by
  intro β l
  induction l with
  | nil=>intro j b hb; simp at hb
  | cons p l ih=>
   intro j b hb
   simp only [List.lookup] at hb
   split at hb
   ·rename_i hj
    have:=eq_of_beq hj
    cases hb
    subst this
    exact List.mem_cons_self
   ·exact List.mem_cons_of_mem _ (ih j b hb)
 unfold extE
 congr 1
 ·funext j
  split
  ·rename_i f hf
   exact (code_spec (h _ (lk _ _ _ hf))).2.symm
  ·rfl
 ·funext g
  split
  ·rename_i c hc
   exact (hg _ (lk _ _ _ hc)).symm
  ·rfl
 ·funext j
  split
  ·rename_i f hf
   exact (code_spec (h _ (lk _ _ _ hf))).1.symm
  ·split
   ·rename_i g hg
    exact (hx _ (lk _ _ _ hg)).symm
   ·rfl
end Go.Pv
/- Whole numbers and fractions, plain: taking twos and fives out, products, forms. Conditions: none; definitions and theorems. -/
namespace Go.Pv
def splF (p:Nat):Nat→Nat→Nat × Nat
 | 0,n=>(0,n)
 | f + 1,n=>if n % p = 0 then ((splF p f (n / p)).1 + 1,(splF p f (n / p)).2) else (0,n)
def spl (p n:Nat):Nat × Nat:=splF p 64 n
theorem splF_spec {p:Nat} (hp:2 ≤ p):∀ f n,0 < n→n < 2 ^ f→n = p ^ (splF p f n).1 * (splF p f n).2∧(splF p f n).2 % p ≠ 0∧(splF p f n).1 < f:=by
 intro f
 induction f with
 | zero=>intro n h0 h; simp at h; omega
 | succ f ih=>
  intro n h0 h
  unfold splF
  by_cases hd:n % p = 0
  ·simp only [hd,if_true]
   have hm:=Nat.div_add_mod n p
   rw [hd,Nat.add_zero] at hm
   have hq:0 < n / p:=by
    rcases Nat.eq_zero_or_pos (n / p) with h' | h'
    ·rw [h'] at hm; simp at hm; omega
    ·exact h'
   have hlt:n / p < 2 ^ f:=by
    have h2:2 * (n / p) ≤ p * (n / p):=Nat.mul_le_mul_right _ hp
    rw [hm] at h2
    rw [Nat.pow_succ] at h
    omega
   obtain ⟨a,b,c⟩:=ih _ hq hlt
   refine ⟨?_,b,by omega⟩
   rw [Nat.pow_succ,Nat.mul_comm (p ^ _) p,Nat.mul_assoc,← a,hm]
  ·simp only [hd,if_false]
   refine ⟨by simp,hd,by omega⟩
theorem splF_is {p:Nat} (hp:2 ≤ p):∀ k f m,m % p ≠ 0→p ^ k * m < 2 ^ f→splF p f (p ^ k * m) = (k,m):=by
 intro k
 induction k with
 | zero=>
  intro f m hm h
  cases f with
  | zero=>simp at h; subst h; simp at hm
  | succ f=>simp [splF,hm]
 | succ k ih=>
  intro f m hm h
  have hm0:0 < m:=by
   rcases Nat.eq_zero_or_pos m with h' | h'
   ·subst h'; simp at hm
   ·exact h'
  cases f with
  | zero=>
   have:0 < p ^ (k + 1) * m:=Nat.mul_pos (Nat.pow_pos (by omega)) hm0
   simp at h; omega
  | succ f=>
   have e:p ^ (k + 1) * m = p * (p ^ k * m):=by rw [Nat.pow_succ,Nat.mul_comm (p ^ k) p,Nat.mul_assoc]
   have hlt:p ^ k * m < 2 ^ f:=by
    rw [e] at h
    have h2:2 * (p ^ k * m) ≤ p * (p ^ k * m):=Nat.mul_le_mul_right _ hp
    rw [Nat.pow_succ] at h
    omega
   unfold splF
   rw [e,Nat.mul_mod_right,if_pos rfl,Nat.mul_div_cancel_left _ (by omega:0 < p),ih f m hm hlt]
def two5 (n:Nat):Nat × Nat × Nat:=((spl 2 n).1,(spl 5 (spl 2 n).2).1,(spl 5 (spl 2 n).2).2)
theorem spl_spec {p n:Nat} (hp:2 ≤ p) (h0:0 < n) (h:n ≤ 9223372036854775807):n = p ^ (spl p n).1 * (spl p n).2∧(spl p n).2 % p ≠ 0∧(spl p n).1 < 64∧0 < (spl p n).2∧(spl p n).2 ≤ n:=by
 obtain ⟨a,b,c⟩:=splF_spec hp 64 n h0 (by omega)
 have hm:0 < (spl p n).2:=by
  rcases Nat.eq_zero_or_pos (spl p n).2 with h' | h'
  ·unfold spl at h'; rw [h'] at b; simp at b
  ·exact h'
 refine ⟨a,b,c,hm,?_⟩
 have h1:0 < p ^ (spl p n).1:=Nat.pow_pos (by omega)
 have h2:(spl p n).2 ≤ p ^ (spl p n).1 * (spl p n).2:=Nat.le_mul_of_pos_left _ h1
 have a':n = p ^ (spl p n).1 * (spl p n).2:=a
 omega
structure Two5 (n:Nat):Prop where
 eq:n = 2 ^ (two5 n).1 * (5 ^ (two5 n).2.1 * (two5 n).2.2)
 b2:(two5 n).1 < 64
 b5:(two5 n).2.1 < 64
 n2:(two5 n).2.2 % 2 ≠ 0
 n5:(two5 n).2.2 % 5 ≠ 0
 pos:0 < (two5 n).2.2
 le:(two5 n).2.2 ≤ n
theorem two5_spec {n:Nat} (h0:0 < n) (h:n ≤ 9223372036854775807):Two5 n:=by
 obtain ⟨a,b,c,d,e⟩:=spl_spec (p:=2) (by omega) h0 h
 obtain ⟨a',b',c',d',e'⟩:=spl_spec (p:=5) (n:=(spl 2 n).2) (by omega) d (by omega)
 refine ⟨?_,c,c',?_,b',d',by show (spl 5 (spl 2 n).2).2 ≤ n; omega⟩
 ·show n = 2 ^ (spl 2 n).1 * (5 ^ (spl 5 (spl 2 n).2).1 * (spl 5 (spl 2 n).2).2)
  rw [← a',← a]
 ·show (spl 5 (spl 2 n).2).2 % 2 ≠ 0
  intro h2
  apply b
  rw [a',Nat.mul_mod,h2,Nat.mul_zero,Nat.zero_mod]
theorem odd_pow5:∀ k,5 ^ k % 2 = 1:=by
 intro k
 induction k with
 | zero=>rfl
 | succ k ih=>rw [Nat.pow_succ,Nat.mul_mod,ih]
theorem two5_is {a b m:Nat} (h2:m % 2 ≠ 0) (h5:m % 5 ≠ 0) (h:2 ^ a * (5 ^ b * m) < 2 ^ 64):two5 (2 ^ a * (5 ^ b * m)) = (a,b,m):=by
 have hb:(5 ^ b * m) % 2 ≠ 0:=by
  have:m % 2 = 1:=by omega
  rw [Nat.mul_mod,odd_pow5,this]; decide
 have e:spl 2 (2 ^ a * (5 ^ b * m)) = (a,5 ^ b * m):=splF_is (by omega) a 64 _ hb h
 have hp:0 < 2 ^ a:=Nat.pow_pos (by omega)
 have hle:5 ^ b * m ≤ 2 ^ a * (5 ^ b * m):=Nat.le_mul_of_pos_left _ hp
 have e5:spl 5 (5 ^ b * m) = (b,m):=splF_is (by omega) b 64 _ h5 (by omega)
 unfold two5
 rw [e]
 show (a,(spl 5 (5 ^ b * m)).1,(spl 5 (5 ^ b * m)).2) = _
 rw [e5]
structure Lo where
 s:Int
 p:Nat
 q:Nat
 two:Int
 five:Int
deriving DecidableEq
structure Fc where
 num:Int
 den:Nat
 ten:Int
deriving DecidableEq
def loosen (n d:Int):Lo:=
  ⟨n.sign * d.sign,(two5 n.natAbs).2.2 / Nat.gcd (two5 n.natAbs).2.2 (two5 d.natAbs).2.2,(two5 d.natAbs).2.2 / Nat.gcd (two5 n.natAbs).2.2 (two5 d.natAbs).2.2,
   ((two5 n.natAbs).1:Int) - (two5 d.natAbs).1,((two5 n.natAbs).2.1:Int) - (two5 d.natAbs).2.1⟩
def timesL (x y:Lo):Option Lo:=
 if (x.p / Nat.gcd x.p y.q) * (y.p / Nat.gcd y.p x.q) ≤ 9223372036854775807∧(x.q / Nat.gcd y.p x.q) * (y.q / Nat.gcd x.p y.q) ≤ 9223372036854775807 then
  some ⟨x.s * y.s,(x.p / Nat.gcd x.p y.q) * (y.p / Nat.gcd y.p x.q),(x.q / Nat.gcd y.p x.q) * (y.q / Nat.gcd x.p y.q),x.two + y.two,x.five + y.five⟩
 else none
def invL (x:Lo):Lo:=⟨x.s,x.q,x.p,-x.two,-x.five⟩
def formN (x:Lo):Nat:=x.p * 2 ^ (x.two - min x.two x.five).toNat * 5 ^ (x.five - min x.two x.five).toNat
def formL (x:Lo) (ten:Int):Option Fc:=
 if formN x ≤ 9223372036854775807∧-1000 ≤ ten + min x.two x.five∧ten + min x.two x.five ≤ 1000 then
  some ⟨x.s * formN x,x.q,ten + min x.two x.five⟩
 else none
structure LoOk (x:Lo):Prop where
 s:x.s = 1∨x.s = -1
 p0:0 < x.p
 q0:0 < x.q
 p2:x.p % 2 ≠ 0
 p5:x.p % 5 ≠ 0
 q2:x.q % 2 ≠ 0
 q5:x.q % 5 ≠ 0
 co:Nat.Coprime x.p x.q
 pt:x.p ≤ 9223372036854775807
 qt:x.q ≤ 9223372036854775807
theorem dvd_mod {a b p:Nat} (h:a ∣ b) (hb:b % p ≠ 0):a % p ≠ 0:=by
 intro ha
 obtain ⟨c,rfl⟩:=h
 apply hb
 rw [Nat.mul_mod,ha,Nat.zero_mul,Nat.zero_mod]
theorem div_dvd {g a:Nat} (h:g ∣ a):a / g ∣ a:=Nat.div_dvd_of_dvd h
theorem div_pos' {g a:Nat} (h:g ∣ a) (ha:0 < a):0 < a / g:=Nat.div_pos (Nat.le_of_dvd ha h) (Nat.pos_of_dvd_of_pos h ha)
theorem sign_pm {n:Int} (h:n ≠ 0):n.sign = 1∨n.sign = -1:=by
 rcases Int.lt_trichotomy n 0 with h' | h' | h'
 ·exact Or.inr (Int.sign_eq_neg_one_of_neg h')
 ·exact absurd h' h
 ·exact Or.inl (Int.sign_eq_one_of_pos h')
theorem loosen_ok {n d:Int} (hn:n ≠ 0) (hd:d ≠ 0) (hn':n.natAbs ≤ 9223372036854775807) (hd':d.natAbs ≤ 9223372036854775807):
  LoOk (loosen n d)∧(-63 ≤ (loosen n d).two∧(loosen n d).two ≤ 63∧-63 ≤ (loosen n d).five∧(loosen n d).five ≤ 63):=by
 have A:=two5_spec (n:=n.natAbs) (by omega) hn'
 have B:=two5_spec (n:=d.natAbs) (by omega) hd'
 have ga:=Nat.gcd_dvd_left (two5 n.natAbs).2.2 (two5 d.natAbs).2.2
 have gb:=Nat.gcd_dvd_right (two5 n.natAbs).2.2 (two5 d.natAbs).2.2
 have hs:=sign_pm hn
 have ht:=sign_pm hd
 have la:=Nat.div_le_self (two5 n.natAbs).2.2 (Nat.gcd (two5 n.natAbs).2.2 (two5 d.natAbs).2.2)
 have lb:=Nat.div_le_self (two5 d.natAbs).2.2 (Nat.gcd (two5 n.natAbs).2.2 (two5 d.natAbs).2.2)
 have:=A.b2; have:=A.b5; have:=B.b2; have:=B.b5; have:=A.le; have:=B.le
 refine ⟨⟨?_,div_pos' ga A.pos,div_pos' gb B.pos,dvd_mod (div_dvd ga) A.n2,dvd_mod (div_dvd ga) A.n5,dvd_mod (div_dvd gb) B.n2,dvd_mod (div_dvd gb) B.n5,?_,?_,?_⟩,?_⟩
 ·show n.sign * d.sign = 1∨n.sign * d.sign = -1
  rcases hs with h | h <;> rcases ht with h' | h' <;> rw [h,h'] <;> simp
 ·exact Nat.coprime_div_gcd_div_gcd (Nat.pos_of_dvd_of_pos ga A.pos)
 ·show (two5 n.natAbs).2.2 / _ ≤ _
  omega
 ·show (two5 d.natAbs).2.2 / _ ≤ _
  omega
 ·simp only [loosen]
  omega
theorem invL_ok {x:Lo} (h:LoOk x):LoOk (invL x):=⟨h.s,h.q0,h.p0,h.q2,h.q5,h.p2,h.p5,h.co.symm,h.qt,h.pt⟩
theorem mul_mod2 {a b:Nat} (ha:a % 2 ≠ 0) (hb:b % 2 ≠ 0):a * b % 2 ≠ 0:=by
 have:a % 2 = 1:=by omega
 have:b % 2 = 1:=by omega
 rw [Nat.mul_mod,‹a % 2 = 1›,‹b % 2 = 1›]; decide
theorem mul_mod5 {a b:Nat} (ha:a % 5 ≠ 0) (hb:b % 5 ≠ 0):a * b % 5 ≠ 0:=by
 have h1:a % 5 = 1∨a % 5 = 2∨a % 5 = 3∨a % 5 = 4:=by omega
 have h2:b % 5 = 1∨b % 5 = 2∨b % 5 = 3∨b % 5 = 4:=by omega
 rw [Nat.mul_mod]
 rcases h1 with h | h | h | h <;> rcases h2 with h' | h' | h' | h' <;> rw [h,h'] <;> decide
theorem mul_mod5_2 {a:Nat} (ha:a % 5 ≠ 0):∀ k,a * 2 ^ k % 5 ≠ 0:=by
 intro k
 induction k with
 | zero=>simpa using ha
 | succ k ih=>rw [Nat.pow_succ,← Nat.mul_assoc]; exact mul_mod5 ih (by decide)
theorem mul_mod2_5 {a:Nat} (ha:a % 2 ≠ 0):∀ k,a * 5 ^ k % 2 ≠ 0:=by
 intro k
 induction k with
 | zero=>simpa using ha
 | succ k ih=>rw [Nat.pow_succ,← Nat.mul_assoc]; exact mul_mod2 ih (by decide)
theorem timesL_ok {x y z:Lo} (hx:LoOk x) (hy:LoOk y) (h:timesL x y = some z):LoOk z:=by
 unfold timesL at h
 split at h
 ·rename_i hc
  cases h
  have g1:=Nat.gcd_dvd_left x.p y.q
  have g2:=Nat.gcd_dvd_right x.p y.q
  have h1:=Nat.gcd_dvd_left y.p x.q
  have h2:=Nat.gcd_dvd_right y.p x.q
  have c1:=Nat.coprime_div_gcd_div_gcd (Nat.pos_of_dvd_of_pos g1 hx.p0)
  have c2:=Nat.coprime_div_gcd_div_gcd (Nat.pos_of_dvd_of_pos h1 hy.p0)
  have c3:Nat.Coprime (x.p / Nat.gcd x.p y.q) (x.q / Nat.gcd y.p x.q):=Nat.Coprime.coprime_dvd_left (div_dvd g1) (Nat.Coprime.coprime_dvd_right (div_dvd h2) hx.co)
  have c4:Nat.Coprime (y.p / Nat.gcd y.p x.q) (y.q / Nat.gcd x.p y.q):=Nat.Coprime.coprime_dvd_left (div_dvd h1) (Nat.Coprime.coprime_dvd_right (div_dvd g2) hy.co)
  refine ⟨?_,Nat.mul_pos (div_pos' g1 hx.p0) (div_pos' h1 hy.p0),Nat.mul_pos (div_pos' h2 hx.q0) (div_pos' g2 hy.q0),
   mul_mod2 (dvd_mod (div_dvd g1) hx.p2) (dvd_mod (div_dvd h1) hy.p2),mul_mod5 (dvd_mod (div_dvd g1) hx.p5) (dvd_mod (div_dvd h1) hy.p5),
   mul_mod2 (dvd_mod (div_dvd h2) hx.q2) (dvd_mod (div_dvd g2) hy.q2),mul_mod5 (dvd_mod (div_dvd h2) hx.q5) (dvd_mod (div_dvd g2) hy.q5),?_,hc.1,hc.2⟩
  ·show x.s * y.s = 1∨x.s * y.s = -1
   rcases hx.s with h | h <;> rcases hy.s with h' | h' <;> rw [h,h'] <;> simp
  ·exact Nat.Coprime.mul_left (Nat.Coprime.mul_right c3 c1) (Nat.Coprime.mul_right c2 c4)
 ·exact absurd h (by simp)
theorem timesL_comm (x y:Lo):timesL x y = timesL y x:=by
 unfold timesL
 rw [Nat.mul_comm (y.p / _) (x.p / _),Nat.mul_comm (y.q / _) (x.q / _),Int.mul_comm y.s x.s,Int.add_comm y.two x.two,Int.add_comm y.five x.five]
structure FcOk (f:Fc):Prop where
 zero:f.num = 0→f.den = 1∧f.ten = 0
 nt:f.num.natAbs ≤ 9223372036854775807
 d0:0 < f.den
 dt:f.den ≤ 9223372036854775807
 d2:f.den % 2 ≠ 0
 d5:f.den % 5 ≠ 0
 n10:f.num ≠ 0→f.num.natAbs % 10 ≠ 0
 co:f.num ≠ 0→Nat.Coprime f.num.natAbs f.den
 t0:-1000 ≤ f.ten
 t1:f.ten ≤ 1000
theorem s_abs {s:Int} (h:s = 1∨s = -1) (n:Nat):(s * n).natAbs = n:=by
 rcases h with h | h <;> subst h <;> simp
theorem formN_pos {x:Lo} (h:LoOk x):0 < formN x:=Nat.mul_pos (Nat.mul_pos h.p0 (Nat.pow_pos (by omega))) (Nat.pow_pos (by omega))
theorem coprime_2 {q:Nat} (h:q % 2 ≠ 0):Nat.Coprime 2 q:=by
 have:q % 2 = 1:=by omega
 unfold Nat.Coprime
 rw [Nat.gcd_rec,this]; rfl
theorem coprime_5 {q:Nat} (h:q % 5 ≠ 0):Nat.Coprime 5 q:=by
 unfold Nat.Coprime
 rw [Nat.gcd_rec]
 have h1:q % 5 = 1∨q % 5 = 2∨q % 5 = 3∨q % 5 = 4:=by omega
 rcases h1 with h | h | h | h <;> rw [h] <;> rfl
theorem formL_ok {x:Lo} (hx:LoOk x) {ten:Int} {f:Fc} (h:formL x ten = some f):FcOk f∧f.num ≠ 0:=by
 unfold formL at h
 split at h
 ·rename_i hc
  cases h
  have hn:(x.s * (formN x:Int)).natAbs = formN x:=s_abs hx.s _
  have hp:=formN_pos hx
  have hnz:x.s * (formN x:Int) ≠ 0:=by intro h0; rw [h0] at hn; simp at hn; omega
  refine ⟨⟨fun h0=>absurd h0 hnz,by rw [hn]; exact hc.1,hx.q0,hx.qt,hx.q2,hx.q5,fun _=>?_,fun _=>?_,hc.2.1,hc.2.2⟩,hnz⟩
  ·show (x.s * (formN x:Int)).natAbs % 10 ≠ 0
   rw [hn]
   rcases Int.le_total x.two x.five with hl | hl
   ·have:formN x % 2 ≠ 0:=by
     unfold formN
     rw [Int.min_eq_left hl]
     simpa using mul_mod2_5 hx.p2 _
    omega
   ·have:formN x % 5 ≠ 0:=by
     unfold formN
     rw [Int.min_eq_right hl]
     simpa using mul_mod5_2 hx.p5 _
    omega
  ·show Nat.Coprime (x.s * (formN x:Int)).natAbs x.q
   rw [hn]
   exact Nat.Coprime.mul_left (Nat.Coprime.mul_left hx.co (Nat.Coprime.pow_left _ (coprime_2 hx.q2))) (Nat.Coprime.pow_left _ (coprime_5 hx.q5))
 ·exact absurd h (by simp)
theorem sign_s {s:Int} (h:s = 1∨s = -1) {n:Nat} (hn:0 < n):(s * (n:Int)).sign = s:=by
 rcases h with h | h <;> subst h
 ·rw [Int.one_mul]; exact Int.sign_eq_one_of_pos (by omega)
 ·rw [Int.neg_one_mul]; exact Int.sign_eq_neg_one_of_neg (by omega)
theorem loosen_form {x:Lo} (hx:LoOk x) {ten:Int} {f:Fc} (h:formL x ten = some f):
  loosen f.num f.den = ⟨x.s,x.p,x.q,x.two - min x.two x.five,x.five - min x.two x.five⟩∧f.ten = ten + min x.two x.five:=by
 unfold formL at h
 split at h
 ·rename_i hc
  cases h
  refine ⟨?_,rfl⟩
  have hn:(x.s * (formN x:Int)).natAbs = formN x:=s_abs hx.s _
  have hp:=formN_pos hx
  have e1:formN x = 2 ^ (x.two - min x.two x.five).toNat * (5 ^ (x.five - min x.two x.five).toNat * x.p):=by
   unfold formN
   rw [Nat.mul_comm x.p,Nat.mul_assoc,Nat.mul_comm x.p]
  have e2:two5 (formN x) = ((x.two - min x.two x.five).toNat,(x.five - min x.two x.five).toNat,x.p):=by
   rw [e1]
   apply two5_is hx.p2 hx.p5
   rw [← e1]; omega
  have e3:two5 x.q = (0,0,x.q):=by
   have:=two5_is (a:=0) (b:=0) hx.q2 hx.q5 (by simp; have:=hx.qt; omega)
   simpa using this
  have hco:Nat.gcd x.p x.q = 1:=hx.co
  have hqs:((x.q:Nat):Int).sign = 1:=Int.sign_eq_one_of_pos (by have:=hx.q0; omega)
  unfold loosen
  show (⟨(x.s * (formN x:Int)).sign * (x.q:Int).sign,_,_,_,_⟩:Lo) = _
  rw [hn,Int.natAbs_natCast,e2,e3,sign_s hx.s hp,hqs]
  simp only [hco,Nat.div_one,Lo.mk.injEq,Int.mul_one,true_and]
  constructor <;> omega
 ·exact absurd h (by simp)
end Go.Pv
