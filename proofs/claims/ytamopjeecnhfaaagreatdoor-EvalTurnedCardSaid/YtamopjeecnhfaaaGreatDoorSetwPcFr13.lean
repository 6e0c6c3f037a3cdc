/- A part of the proof: functions of the program in the evaluator's code, and what they come to. Conditions: none; definitions and theorems that the statement's proof uses. -/
import Derived.Test.YtamopjeecnhfaaaGreatDoorSetwPcFr10
/- The program's dims: sums, differences, times. Conditions: the functions' codes; theorems. -/
namespace Go.Pv
variable {E:Env}
theorem dOk_get {d:List Int} (h:dOk d = true) {i:Nat} (hi:i < d.length):-99 ≤ d[i]∧d[i] ≤ 99:=by
 unfold dOk at h
 have:=List.all_eq_true.1 h d[i] (List.getElem_mem hi)
 unfold dOk1 at this
 simpa using this
theorem dC_at {d:List Int} {i:Nat} (hi:i < d.length):((dC d).drop i).take 1 = [.int .i64 d[i]]:=by
 unfold dC
 rw [List.drop_eq_getElem_cons (by simpa using hi)]
 simp
theorem cl341 (H:Has 341 E) {a b:List Int} (ha:a.length = 7) (hb:b.length = 7) (oa:dOk a = true) (ob:dOk b = true) {g:AHeap} (h0:g.bl 0 = some (.cells (dC a))) (h1:g.bl 1 = some (.cells (dC b))) {i:Nat} (hi:i < 7):
  EvCall E (.fn (.func 341) [] [.ref 0 0,.ref 1 0]) [.int .i64 i] g = some (.ret (.int .i64 (a[i] + b[i])),g):=by
 rw [EvCall_reader H.c341 rfl,EvFn_eq]
 have e1:=dC_at (d:=a) (i:=i) (by omega)
 have e2:=dC_at (d:=b) (i:=i) (by omega)
 have r1:=dOk_get oa (i:=i) (by omega)
 have r2:=dOk_get ob (i:=i) (by omega)
 have l1:(dC a).length = 7:=by rw [dC_len,ha]
 have l2:(dC b).length = 7:=by rw [dC_len,hb]
 generalize a[i] = x at *
 generalize b[i] = y at *
 have w:IntKind.i64.wrap (x + y) = x + y:=w64
 have hi7:(i:Int) < 7:=by omega
 have hi1:i + 1 ≤ 7:=by omega
 simp [f341,start,h0,h1,e1,e2,l1,l2,w,hi7,hi1,readEnd]
theorem cl340 (H:Has 340 E) {a b:List Int} (ha:a.length = 7) (hb:b.length = 7) (oa:dOk a = true) (ob:dOk b = true) {g:AHeap} (h0:g.bl 0 = some (.cells (dC a))) (h1:g.bl 1 = some (.cells (dC b))) {i:Nat} (hi:i < 7):
  EvCall E (.fn (.func 340) [] [.ref 0 0,.ref 1 0]) [.int .i64 i] g = some (.ret (.int .i64 (a[i] - b[i])),g):=by
 rw [EvCall_reader H.c340 rfl,EvFn_eq]
 have e1:=dC_at (d:=a) (i:=i) (by omega)
 have e2:=dC_at (d:=b) (i:=i) (by omega)
 have r1:=dOk_get oa (i:=i) (by omega)
 have r2:=dOk_get ob (i:=i) (by omega)
 have l1:(dC a).length = 7:=by rw [dC_len,ha]
 have l2:(dC b).length = 7:=by rw [dC_len,hb]
 generalize a[i] = x at *
 generalize b[i] = y at *
 have w:IntKind.i64.wrap (x - y) = x - y:=w64
 have hi7:(i:Int) < 7:=by omega
 have hi1:i + 1 ≤ 7:=by omega
 simp [f340,start,h0,h1,e1,e2,l1,l2,w,hi7,hi1,readEnd]
theorem cl348 (H:Has 348 E) {a:List Int} (ha:a.length = 7) (oa:dOk a = true) {n:Int} (hn:n.natAbs ≤ 1000000) {g:AHeap} (h0:g.bl 0 = some (.cells (dC a))) (h1:g.bl 1 = some (.cells [.int .i64 n])) {i:Nat} (hi:i < 7):
  EvCall E (.fn (.func 348) [] [.ref 0 0,.ref 1 0]) [.int .i64 i] g = some (.ret (.int .i64 (a[i] * n)),g):=by
 rw [EvCall_reader H.c348 rfl,EvFn_eq]
 have e1:=dC_at (d:=a) (i:=i) (by omega)
 have r1:=dOk_get oa (i:=i) (by omega)
 have l1:(dC a).length = 7:=by rw [dC_len,ha]
 generalize a[i] = x at *
 have hm:(x * n).natAbs ≤ 99 * 1000000:=by rw [Int.natAbs_mul]; exact Nat.mul_le_mul (by omega) hn
 have w:IntKind.i64.wrap (x * n) = x * n:=w64
 have hi7:(i:Int) < 7:=by omega
 have hi1:i + 1 ≤ 7:=by omega
 simp [f348,start,h0,h1,e1,l1,w,hi7,hi1,readEnd]
theorem setCells_dims {W:List AV} (h:W.length = 7):setCells 0 W [.int .i64 0,.int .i64 0,.int .i64 0,.int .i64 0,.int .i64 0,.int .i64 0,.int .i64 0] = W:=by simpa using setCells_app W [.int .i64 0,.int .i64 0,.int .i64 0,.int .i64 0,.int .i64 0,.int .i64 0,.int .i64 0] [] (by rw [h]; rfl)
def dRes (d:List Int):AV:=.tuple [.agg (dC (if dOk d then d else d0)),.bool (dOk d)]
theorem dif_len {d:List Int} (hd:d.length = 7):(dC (if dOk d then d else d0)).length = 7:=by
 rw [dC_len]
 split
 ·exact hd
 ·rfl
theorem dC_cell (d:List Int):(dC d).all AV.isCell = true:=by simp [dC]
theorem add316 (H:Has 316 E) {a b:List Int} (ha:a.length = 7) (hb:b.length = 7) (oa:dOk a = true) (ob:dOk b = true):
  EvClosed E (.fn (.func 316) [] []) [.agg (dC a),.agg (dC b)] = some (dRes (List.zipWith (· + ·) a b)):=by
 rw [EvClosed_eq H.c316 rfl (vs:=[.agg (dC a),.agg (dC b)]) (by simp [shutL_dC]),EvFn_eq]
 have l1:(dC a).length = 7:=by rw [dC_len,ha]
 have l2:(dC b).length = 7:=by rw [dC_len,hb]
 have t1:(dC a).take 7 = dC a:=List.take_of_length_le (by omega)
 have t2:(dC b).take 7 = dC b:=List.take_of_length_le (by omega)
 have hz:(List.zipWith (· + ·) a b).length = 7:=by rw [List.length_zipWith,ha,hb]; rfl
 have q1:=dims_right (H.to 339) ha
 have q2:=dims_right (H.to 339) hb
 rw [oa] at q1
 rw [ob] at q2
 have q3:=each_yes (H.to 338) (x0:=.cells (dC a)) (x1:=.cells (dC b)) (x2:=.cells (dC d0)) (V:=.fn (.func 341) [] [.ref 0 0,.ref 1 0]) (List.zipWith (· + ·) a b) hz fun i hi x y=>by
  rw [cl341 (H.to 341) ha hb oa ob (by simp) (by simp) (by omega)]
  simp
 have l3:=dif_len hz
 have hs:=shutL_dC (if dOk (List.zipWith (· + ·) a b) then List.zipWith (· + ·) a b else d0)
 have hc:=dC_cell (if dOk (List.zipWith (· + ·) a b) then List.zipWith (· + ·) a b else d0)
 unfold dRes
 generalize (if dOk (List.zipWith (· + ·) a b) then List.zipWith (· + ·) a b else d0) = w at *
 generalize dOk (List.zipWith (· + ·) a b) = bb at *
 have t3:(dC w).take 7 = dC w:=List.take_of_length_le (by omega)
 have q4:dC d0 = [.int .i64 0,.int .i64 0,.int .i64 0,.int .i64 0,.int .i64 0,.int .i64 0,.int .i64 0]:=rfl
 rw [q4] at q3
 have t4:setCells 0 (dC w) [.int .i64 0,.int .i64 0,.int .i64 0,.int .i64 0,.int .i64 0,.int .i64 0,.int .i64 0] = dC w:=setCells_dims l3
 generalize dC w = W at *
 generalize dC a = A at *
 generalize dC b = B at *
 simp [f316,start,l1,l2,t1,t2,EvCall_closed H.c339 rfl,q1,q2,q3,l3,t3,t4,hc,hs,push_setk]
theorem sub313 (H:Has 313 E) {a b:List Int} (ha:a.length = 7) (hb:b.length = 7) (oa:dOk a = true) (ob:dOk b = true):
  EvClosed E (.fn (.func 313) [] []) [.agg (dC a),.agg (dC b)] = some (dRes (List.zipWith (· - ·) a b)):=by
 rw [EvClosed_eq H.c313 rfl (vs:=[.agg (dC a),.agg (dC b)]) (by simp [shutL_dC]),EvFn_eq]
 have l1:(dC a).length = 7:=by rw [dC_len,ha]
 have l2:(dC b).length = 7:=by rw [dC_len,hb]
 have t1:(dC a).take 7 = dC a:=List.take_of_length_le (by omega)
 have t2:(dC b).take 7 = dC b:=List.take_of_length_le (by omega)
 have hz:(List.zipWith (· - ·) a b).length = 7:=by rw [List.length_zipWith,ha,hb]; rfl
 have q1:=dims_right (H.to 339) ha
 have q2:=dims_right (H.to 339) hb
 rw [oa] at q1
 rw [ob] at q2
 have q3:=each_yes (H.to 338) (x0:=.cells (dC a)) (x1:=.cells (dC b)) (x2:=.cells (dC d0)) (V:=.fn (.func 340) [] [.ref 0 0,.ref 1 0]) (List.zipWith (· - ·) a b) hz fun i hi x y=>by
  rw [cl340 (H.to 340) ha hb oa ob (by simp) (by simp) (by omega)]
  simp
 have l3:=dif_len hz
 have hs:=shutL_dC (if dOk (List.zipWith (· - ·) a b) then List.zipWith (· - ·) a b else d0)
 have hc:=dC_cell (if dOk (List.zipWith (· - ·) a b) then List.zipWith (· - ·) a b else d0)
 unfold dRes
 generalize (if dOk (List.zipWith (· - ·) a b) then List.zipWith (· - ·) a b else d0) = w at *
 generalize dOk (List.zipWith (· - ·) a b) = bb at *
 have t3:(dC w).take 7 = dC w:=List.take_of_length_le (by omega)
 have q4:dC d0 = [.int .i64 0,.int .i64 0,.int .i64 0,.int .i64 0,.int .i64 0,.int .i64 0,.int .i64 0]:=rfl
 rw [q4] at q3
 have t4:setCells 0 (dC w) [.int .i64 0,.int .i64 0,.int .i64 0,.int .i64 0,.int .i64 0,.int .i64 0,.int .i64 0] = dC w:=setCells_dims l3
 generalize dC w = W at *
 generalize dC a = A at *
 generalize dC b = B at *
 simp [f313,start,l1,l2,t1,t2,EvCall_closed H.c339 rfl,q1,q2,q3,l3,t3,t4,hc,hs,push_setk]
theorem times331 (H:Has 331 E) {a:List Int} (ha:a.length = 7) (oa:dOk a = true) {n:Int} (h1:-99 ≤ n) (h2:n ≤ 99):
  EvClosed E (.fn (.func 331) [] []) [.agg (dC a),.int .i64 n] = some (dRes (a.map (· * n))):=by
 rw [EvClosed_eq H.c331 rfl (vs:=[.agg (dC a),.int .i64 n]) (by simp [shutL_dC]),EvFn_eq]
 have l1:(dC a).length = 7:=by rw [dC_len,ha]
 have t1:(dC a).take 7 = dC a:=List.take_of_length_le (by omega)
 have hz:(a.map (· * n)).length = 7:=by rw [List.length_map,ha]
 have q1:=dims_right (H.to 339) ha
 rw [oa] at q1
 have q3:=each_yes (H.to 338) (x0:=.cells (dC a)) (x1:=.cells [.int .i64 n]) (x2:=.cells (dC d0)) (V:=.fn (.func 348) [] [.ref 0 0,.ref 1 0]) (a.map (· * n)) hz fun i hi x y=>by
  rw [cl348 (H.to 348) (n:=n) ha oa (by omega) (by simp) (by simp) (by omega)]
  simp
 have l3:=dif_len hz
 have hs:=shutL_dC (if dOk (a.map (· * n)) then a.map (· * n) else d0)
 have hc:=dC_cell (if dOk (a.map (· * n)) then a.map (· * n) else d0)
 unfold dRes
 generalize (if dOk (a.map (· * n)) then a.map (· * n) else d0) = w at *
 generalize dOk (a.map (· * n)) = bb at *
 have t3:(dC w).take 7 = dC w:=List.take_of_length_le (by omega)
 have q4:dC d0 = [.int .i64 0,.int .i64 0,.int .i64 0,.int .i64 0,.int .i64 0,.int .i64 0,.int .i64 0]:=rfl
 rw [q4] at q3
 have t4:setCells 0 (dC w) [.int .i64 0,.int .i64 0,.int .i64 0,.int .i64 0,.int .i64 0,.int .i64 0,.int .i64 0] = dC w:=setCells_dims l3
 generalize dC w = W at *
 generalize dC a = A at *
 simp [f331,start,l1,t1,EvCall_closed H.c339 rfl,q1,q3,l3,t3,t4,hc,hs,h1,h2,push_setk]
end Go.Pv
/- The program's fractions: powers. Conditions: the functions' codes; theorems. -/
namespace Go.Pv
variable {E:Env}
def powL (x:Lo) (n:Nat):Option Lo:=if x.p ^ n ≤ 9223372036854775807∧x.q ^ n ≤ 9223372036854775807 then some ⟨x.s ^ n,x.p ^ n,x.q ^ n,x.two * n,x.five * n⟩ else none
def powLo (a:Fc) (n:Int):Lo:=if n < 0 then invL (loosen a.num a.den) else loosen a.num a.den
def powF (a:Fc) (n:Int):Except Int Fc:=
 if a.num = 0∧n < 0 then .error 11 else if n = 0 then .ok ⟨1,1,0⟩ else if a.num = 0 then .ok a else
  match powL (powLo a n) n.natAbs with
  | none=>.error 10
  | some y=>overE (formL y (a.ten * n))
theorem powLo_ok {a:Fc} (ha:FcOk a) (h0:a.num ≠ 0) (n:Int):LoOk (powLo a n)∧(powLo a n).two.natAbs ≤ 63∧(powLo a n).five.natAbs ≤ 63:=by
 have ad:(a.den:Int) ≠ 0:=by have:=ha.d0; omega
 obtain ⟨k,kb⟩:=loosen_ok h0 ad ha.nt (by have:=ha.dt; omega)
 unfold powLo
 split
 ·refine ⟨invL_ok k,?_,?_⟩
  ·show (-(loosen a.num a.den).two).natAbs ≤ 63
   omega
  ·show (-(loosen a.num a.den).five).natAbs ≤ 63
   omega
 ·exact ⟨k,by omega,by omega⟩
theorem pow_mod2 {a:Nat} (ha:a % 2 ≠ 0):∀ k,a ^ k % 2 ≠ 0
 | 0=>by simp
 | k + 1=>by rw [Nat.pow_succ]; exact mul_mod2 (pow_mod2 ha k) ha
theorem pow_mod5 {a:Nat} (ha:a % 5 ≠ 0):∀ k,a ^ k % 5 ≠ 0
 | 0=>by simp
 | k + 1=>by rw [Nat.pow_succ]; exact mul_mod5 (pow_mod5 ha k) ha
theorem pow_s {s:Int} (hs:s = 1∨s = -1):∀ k:Nat,s ^ k = 1∨s ^ k = -1
 | 0=>Or.inl (by simp)
 | k + 1=>by rw [Int.pow_succ]; exact st_pm (pow_s hs k) hs
theorem powL_ok {x y:Lo} {n:Nat} (hx:LoOk x) (h:powL x n = some y):LoOk y:=by
 unfold powL at h
 split at h
 ·rename_i hc
  cases h
  exact ⟨pow_s hx.s n,Nat.pow_pos hx.p0,Nat.pow_pos hx.q0,pow_mod2 hx.p2 n,pow_mod5 hx.p5 n,pow_mod2 hx.q2 n,pow_mod5 hx.q5 n,Nat.Coprime.pow n n hx.co,hc.1,hc.2⟩
 ·exact absurd h (by simp)
theorem powL_succ {x y:Lo} {n:Nat} (hx:LoOk x) (h:powL x n = some y):timesL y x = powL x (n + 1):=by
 unfold powL at h
 split at h
 ·rename_i hc
  cases h
  have c1:Nat.gcd (x.p ^ n) x.q = 1:=Nat.Coprime.pow_left n hx.co
  have c2:Nat.gcd x.p (x.q ^ n) = 1:=Nat.Coprime.pow_right n hx.co
  unfold timesL powL
  dsimp only
  rw [c1,c2,Nat.div_one,Nat.div_one,Nat.div_one,Nat.div_one,Nat.pow_succ,Nat.pow_succ,Int.pow_succ]
  have e1:x.two * (n:Int) + x.two = x.two * ((n + 1:Nat):Int):=by rw [Int.natCast_add,Int.mul_add]; simp
  have e2:x.five * (n:Int) + x.five = x.five * ((n + 1:Nat):Int):=by rw [Int.natCast_add,Int.mul_add]; simp
  rw [e1,e2]
 ·exact absurd h (by simp)
theorem powL_none {x:Lo} {n m:Nat} (hx:LoOk x) (hnm:n ≤ m) (h:powL x n = none):powL x m = none:=by
 unfold powL at h ⊢
 split at h
 ·exact absurd h (by simp)
 ·rename_i hc
  have h1:x.p ^ n ≤ x.p ^ m:=Nat.pow_le_pow_right hx.p0 hnm
  have h2:x.q ^ n ≤ x.q ^ m:=Nat.pow_le_pow_right hx.q0 hnm
  rw [if_neg (by omega)]
theorem powL_te {x y:Lo} {n:Nat} (h:powL x n = some y):y.two = x.two * n∧y.five = x.five * n:=by
 unfold powL at h
 split at h
 ·cases h; exact ⟨rfl,rfl⟩
 ·exact absurd h (by simp)
theorem mul_bd {t:Int} {n:Nat} (ht:t.natAbs ≤ 63) (hn:n ≤ 99):(t * (n:Int)).natAbs ≤ 6237:=by
 rw [Int.natAbs_mul,Int.natAbs_natCast]
 exact Nat.mul_le_mul ht hn
abbrev phw (a r x y:ABlk):AHeap:=(((heap0.push a).push r).push x).push y
abbrev z3C:List AV:=[.int .i64 0,.int .i64 0,.int .i64 0]
theorem pow_loop (H:Has 346 E) {x:Lo} (hx:LoOk x) (x2:x.two.natAbs ≤ 63) (x5:x.five.natAbs ≤ 63) {n:Nat} (hn:n ≤ 99) {a:ABlk} {t7:AV}:∀ (r i:Nat) (y:Lo) (F:Fr),i + r = n→powL x i = some y→mask k329_0 F = s329_0 (.ref 1 0) (.ref 2 0) t7 (.ref 3 0) (.int .i64 n) (.int .i64 i) →
  (∀ z,powL x n = some z→EvCode E (.loop k329_0 l329_0) F (phw a (.cells z3C) (.cells (loC x)) (.cells (loC y))) = some (.exit 1,x329_1 (.ref 1 0) t7 (.ref 3 0),phw a (.cells z3C) (.cells (loC x)) (.cells (loC z)))) ∧
  (powL x n = none→∃ w,EvCode E (.loop k329_0 l329_0) F (phw a (.cells z3C) (.cells (loC x)) (.cells (loC y))) = some (.ret,r329 (.ref 1 0) (.int .i64 10),phw a (.cells z3C) (.cells (loC x)) w)):=by
 intro r
 induction r with
 | zero=>
  intro i y F hi hy hF
  have hi':i = n:=by omega
  subst hi'
  rw [EvCode_loop,hF]
  constructor
  ·intro z hz
   rw [hy] at hz
   cases hz
   simp [l329_0,s329_0,x329_1]
  ·intro h; rw [hy] at h; cases h
 | succ r ih=>
  intro i y F hi hy hF
  have hlt:i < n:=by omega
  have hw:IntKind.i64.wrap ((i:Int) + 1) = ((i + 1:Nat):Int):=w64
  obtain ⟨e1,e2⟩:=powL_te hy
  have b1:=mul_bd x2 (n:=i) (by omega)
  have b2:=mul_bd x5 (n:=i) (by omega)
  have yok:=powL_ok hx hy
  obtain ⟨u,d,ht,hz⟩:=times346 H yok hx (by omega) (by omega) (by omega) (by omega)
  rw [powL_succ hx hy] at ht hz
  cases hs:powL x (i + 1) with
  | some y'=>
   rw [hs] at ht
   obtain ⟨e3,e4⟩:=hz y' hs
   have ih':=fun F hF=>ih (i + 1) y' F (by omega) hs hF
   obtain ⟨e5,e6⟩:=timesL_te ((powL_succ hx hy).trans hs)
   subst e3 e4
   rw [← e5,← e6] at ht
   rw [EvCode_loop,hF]
   generalize EvCode E (.loop k329_0 l329_0) = lp at ih' ⊢
   simp only [loA,loC,Option.isSome_some] at ht ih' ⊢
   generalize powL x n = pn at *
   constructor
   ·intro z hz2
    simp [l329_0,s329_0,hlt,hw,EvCall_closed H.c346 rfl,ht,push_setk]
    exact (ih' _ (by simp [s329_0])).1 z hz2
   ·intro hz2
    simp [l329_0,s329_0,hlt,hw,EvCall_closed H.c346 rfl,ht,push_setk]
    exact (ih' _ (by simp [s329_0])).2 hz2
  | none=>
   rw [hs] at ht
   have hn':=powL_none hx (by omega:i + 1 ≤ n) hs
   refine ⟨fun z hz2=>(by rw [hn'] at hz2; cases hz2),fun _=>⟨.cells [.int .i64 u,.int .i64 d,.int .i64 (y.two + x.two),.int .i64 (y.five + x.five)],?_⟩⟩
   rw [EvCode_loop,hF]
   generalize EvCode E (.loop k329_0 l329_0) = lp
   simp only [loA,loC,Option.isSome_none] at ht ⊢
   simp [l329_0,s329_0,hlt,EvCall_closed H.c346 rfl,ht,push_setk,push_setl,r329]
abbrev st329:List (SOper × Nat):=[
  (.o 41 (.fieldAddr 0 (.t 2)),0),
  (.o 42 (.load false 1 (.t 41)),0),
  (.o 43 (.fieldAddr 1 (.t 2)),0),
  (.o 44 (.load false 1 (.t 43)),0),
  (.o 45 (.call (.f 327) [(.t 42),(.t 44)]),0),
  (.o 46 (.fieldAddr 2 (.t 2)),0),
  (.o 47 (.load false 1 (.t 46)),1),
  (.m 48 1,0),
  (.o 49 (.bin .mul .none (.t 47) (.t 48)),0),
  (.o 6 (.alloc [(.int .i64 0),(.int .i64 0),(.int .i64 0),(.int .i64 0)]),0),
  (.n (.store 4 (.t 6) (.t 45)),0),
  (.m 7 49,0)]
theorem stored329 (_H:Has 329 E) {n a b c T:Int} {cs:List AV} (hc:cs.length = 4) (hcc:cs.all AV.isCell = true) (hl:EvClosed E (.fn (.func 327) [] []) [.int .i64 a,.int .i64 b] = some (.agg cs)) (hT:IntKind.i64.wrap (c * n) = T):
  EvCode E (.stored st329) ⟨[.junk,.int .i64 n,.ref 0 0,.junk,.ref 1 0,.junk,.junk,.junk,.junk,.junk,.junk,.junk,.junk,.junk,.junk,.junk,.junk,.junk,.junk,.junk,.junk,.junk,.junk,.junk,.junk,.junk,.junk,.junk,.junk,.junk,.junk,.junk,.junk,.junk,.junk,.junk,.junk,.junk,.junk,.junk,.junk,.junk,.junk,.junk,.junk,.junk,.junk,.junk,.junk,.junk,.junk,.junk,.junk,.junk,.junk,.junk,.junk,.junk,.junk,.junk,.junk,.junk,.junk,.junk,.junk,.junk,.junk,.junk,.junk,.junk,.junk,.junk,.junk,.junk,.junk],[],.call⟩ ((heap0.push (.cells [.int .i64 a,.int .i64 b,.int .i64 c])).push (.cells z3C)) =
   some (.normal,⟨[.junk,.int .i64 n,.ref 0 0,.junk,.ref 1 0,.junk,.ref 2 0,.int .i64 T,.junk,.junk,.junk,.junk,.junk,.junk,.junk,.junk,.junk,.junk,.junk,.junk,.junk,.junk,.junk,.junk,.junk,.junk,.junk,.junk,.junk,.junk,.junk,.junk,.junk,.junk,.junk,.junk,.junk,.junk,.junk,.junk,.junk,.ref 0 0,.int .i64 a,.ref 0 1,.int .i64 b,.agg cs,.ref 0 2,.int .i64 c,.int .i64 n,.int .i64 T,.junk,.junk,.junk,.junk,.junk,.junk,.junk,.junk,.junk,.junk,.junk,.junk,.junk,.junk,.junk,.junk,.junk,.junk,.junk,.junk,.junk,.junk,.junk,.junk,.junk],[],.call⟩,((heap0.push (.cells [.int .i64 a,.int .i64 b,.int .i64 c])).push (.cells z3C)).push (.cells cs)):=by
 have hs:setCells 0 cs [.int .i64 0,.int .i64 0,.int .i64 0,.int .i64 0] = cs:=setCells_full (by rw [hc]; rfl)
 have hs2:setCells 2 [] cs = cs:=rfl
 rw [EvCode_stored]
 unfold evStored
 have hd:evDraw E (EvClosed E) (st329.map (·.1)) ⟨[.junk,.int .i64 n,.ref 0 0,.junk,.ref 1 0,.junk,.junk,.junk,.junk,.junk,.junk,.junk,.junk,.junk,.junk,.junk,.junk,.junk,.junk,.junk,.junk,.junk,.junk,.junk,.junk,.junk,.junk,.junk,.junk,.junk,.junk,.junk,.junk,.junk,.junk,.junk,.junk,.junk,.junk,.junk,.junk,.junk,.junk,.junk,.junk,.junk,.junk,.junk,.junk,.junk,.junk,.junk,.junk,.junk,.junk,.junk,.junk,.junk,.junk,.junk,.junk,.junk,.junk,.junk,.junk,.junk,.junk,.junk,.junk,.junk,.junk,.junk,.junk,.junk,.junk],[],.call⟩ ((heap0.push (.cells [.int .i64 a,.int .i64 b,.int .i64 c])).push (.cells z3C)) = some (⟨[.junk,.int .i64 n,.ref 0 0,.junk,.ref 1 0,.junk,.ref 2 0,.int .i64 T,.junk,.junk,.junk,.junk,.junk,.junk,.junk,.junk,.junk,.junk,.junk,.junk,.junk,.junk,.junk,.junk,.junk,.junk,.junk,.junk,.junk,.junk,.junk,.junk,.junk,.junk,.junk,.junk,.junk,.junk,.junk,.junk,.junk,.ref 0 0,.int .i64 a,.ref 0 1,.int .i64 b,.agg cs,.ref 0 2,.int .i64 c,.int .i64 n,.int .i64 T,.junk,.junk,.junk,.junk,.junk,.junk,.junk,.junk,.junk,.junk,.junk,.junk,.junk,.junk,.junk,.junk,.junk,.junk,.junk,.junk,.junk,.junk,.junk,.junk,.junk],[],.call⟩,((heap0.push (.cells [.int .i64 a,.int .i64 b,.int .i64 c])).push (.cells z3C)).push (.cells cs)):=by
  simp [hl,hT,hc,hcc,hs,push_setk]
 rw [hd]
 dsimp only
 rw [if_pos]
 simp [and_assoc,exists_eq_left',hl,hT,hc,hs,push_setk]
 exact List.all_eq_true.1 hcc
end Go.Pv
/- The program's fractions: Pow. Conditions: the functions' codes; theorems. -/
namespace Go.Pv
variable {E:Env}
theorem powF_c {a:Fc} {n:Int} (h0:a.num ≠ 0) (hn:n ≠ 0):powF a n = match powL (powLo a n) n.natAbs with | none=>.error 10 | some y=>overE (formL y (a.ten * n)):=by
 unfold powF
 rw [if_neg (by simp [h0]),if_neg hn]
 exact (if_neg h0).trans (by cases powL (powLo a n) n.natAbs <;> rfl)
theorem one_powL {x:Lo}:powL x 0 = some ⟨1,1,1,0,0⟩:=by
 unfold powL
 simp
set_option maxRecDepth 20000 in
set_option maxHeartbeats 2000000 in
theorem pow329 (H:Has 329 E) {a:Fc} (ha:FcOk a) {n:Int} (h1:-99 ≤ n) (h2:n ≤ 99):EvClosed E (.fn (.func 329) [] []) [fcA a,.int .i64 n] = some (rsF (powF a n)):=by
 rw [EvClosed_eq H.c329 rfl (vs:=[fcA a,.int .i64 n]) (by simp [fcA,fcC]),EvFn_eq]
 have q1:=right325 (H.to 325) ha
 have hv:=H.v10
 simp only [globAll,g10] at hv
 have c1:¬ n < -99:=by omega
 have c2:¬ 99 < n:=by omega
 by_cases a0:a.num = 0
 ·obtain ⟨z1,z2⟩:=ha.zero a0
  obtain ⟨num,den,ten⟩:=a
  dsimp only at a0 z1 z2
  subst a0 z1 z2
  simp only [fcA,fcC,show ((1:Nat):Int) = 1 from rfl] at q1 ⊢
  unfold powF
  by_cases hn:n < 0
  ·simp [f329,start,EvCall_closed H.c325 rfl,q1,c1,c2,hn,push_setk,rsF,fc0]
  ·by_cases hz:n = 0
   ·subst hz
    simp [f329,start,EvCall_closed H.c325 rfl,q1,push_setk,rsF,fcA,fcC,hv]
   ·have hz':(n == 0) = false:=by simpa using hz
    simp [f329,start,EvCall_closed H.c325 rfl,q1,c1,c2,hn,hz,hz',push_setk,rsF,fcA,fcC]
 ·have a0':(a.num == 0) = false:=by simpa using a0
  by_cases hz:n = 0
  ·subst hz
   simp only [fcA,fcC] at q1 ⊢
   unfold powF
   simp [f329,start,EvCall_closed H.c325 rfl,q1,a0,a0',push_setk,rsF,fcA,fcC,hv]
  ·have hz':(n == 0) = false:=by simpa using hz
   rw [powF_c a0 hz]
   have ad:(a.den:Int) ≠ 0:=by have:=ha.d0; omega
   have l1:=loosen327 (H.to 327) a0 ad ha.nt (by have:=ha.dt; omega)
   obtain ⟨k1,kb1⟩:=loosen_ok a0 ad ha.nt (by have:=ha.dt; omega)
   obtain ⟨ok,b2,b5⟩:=powLo_ok ha a0 n
   have hi:=invL_eq (H.to 337) k1 (by omega) (by omega)
   have t0:=ha.t0; have t1:=ha.t1
   have tb:(a.ten * n).natAbs ≤ 1000 * 99:=by rw [Int.natAbs_mul]; exact Nat.mul_le_mul (by omega) (by omega)
   have w1:IntKind.i64.wrap (a.ten * n) = a.ten * n:=w64
   have w2:IntKind.i64.wrap (-n) = -n:=w64
   have hl:=fun (y0:Lo) (hy:powL (powLo a n) 0 = some y0) F hF=>pow_loop (H.to 346) ok b2 b5 (n:=n.natAbs) (by omega) (a:=.cells (fcC a)) (t7:=.int .i64 (a.ten * n)) n.natAbs 0 y0 F (by omega) hy hF
   have hl:=hl _ one_powL
   have hf:∀ z,powL (powLo a n) n.natAbs = some z→EvClosed E (.fn (.func 335) [] []) [loA z,.int .i64 (a.ten * n)] = some (rsF (overE (formL z (a.ten * n)))):=fun z hzz=>by
    obtain ⟨e1,e2⟩:=powL_te hzz
    have m1:=mul_bd b2 (n:=n.natAbs) (by omega)
    have m2:=mul_bd b5 (n:=n.natAbs) (by omega)
    exact form335 (H.to 335) (powL_ok ok hzz) (by omega) (by omega) (by omega)
   have hab:((n.natAbs:Nat):Int) = if n < 0 then -n else n:=by split <;> omega
   rw [hab] at hl
   rw [show loC ⟨1,1,1,0,0⟩ = [.int .i64 1,.int .i64 1,.int .i64 0,.int .i64 0] from rfl] at hl
   simp only [Int.natCast_zero,z3C] at hl
   have hst:=stored329 H (n:=n) (a:=a.num) (b:=a.den) (c:=a.ten) (T:=a.ten * n) (cs:=loC (loosen a.num a.den)) rfl rfl l1 w1
   unfold st329 at hst
   by_cases hn:n < 0
   ·simp only [hn,if_true] at hl
    have e:powLo a n = invL (loosen a.num a.den):=by unfold powLo; rw [if_pos hn]
    rw [e] at hl hf ⊢
    clear ok b2 b5 e hab kb1 k1 l1
    generalize invL (loosen a.num a.den) = Y at *
    generalize loosen a.num a.den = X at *
    generalize a.ten * n = T at *
    cases hp:powL Y n.natAbs with
    | none=>
     have hl:=fun F hF=>(hl F hF).2 hp
     clear hf hp
     simp only [loA,loC,fcA,fcC] at *
     simp [-EvCode_stored,-evStored,f329,start,EvCall_closed H.c325 rfl,EvCall_closed H.c337 rfl,q1,hst,hi,a0',c1,c2,hn,hz',w2,push_setk]
     rw [(hl _ (by simp [s329_0])).choose_spec]
     simp [r329,rsF,fc0]
    | some z=>
     have hl:=fun F hF=>(hl F hF).1 z hp
     have hf:=hf z hp
     obtain ⟨nu,d,t,e,hr⟩:=rsF_shape (overE (formL z T))
     simp only [hr] at hf ⊢
     clear hp
     simp only [loA,loC,fcA,fcC] at *
     simp [-EvCode_stored,-evStored,f329,start,EvCall_closed H.c325 rfl,EvCall_closed H.c337 rfl,q1,hst,hi,a0',c1,c2,hn,hz',w2,push_setk]
     rw [hl _ (by simp [s329_0])]
     simp [x329_1,EvCall_closed H.c335 rfl,hf,push_setk,push_setl]
   ·simp only [hn,if_false] at hl
    have e:powLo a n = loosen a.num a.den:=by unfold powLo; rw [if_neg hn]
    rw [e] at hl hf ⊢
    clear ok b2 b5 e hab kb1 k1 l1 hi
    generalize loosen a.num a.den = X at *
    generalize a.ten * n = T at *
    cases hp:powL X n.natAbs with
    | none=>
     have hl:=fun F hF=>(hl F hF).2 hp
     clear hf hp
     simp only [loC,fcA,fcC] at *
     simp [-EvCode_stored,-evStored,f329,start,EvCall_closed H.c325 rfl,q1,hst,a0',c1,c2,hn,hz',push_setk]
     rw [(hl _ (by simp [s329_0])).choose_spec]
     simp [r329,rsF,fc0]
    | some z=>
     have hl:=fun F hF=>(hl F hF).1 z hp
     have hf:=hf z hp
     obtain ⟨nu,d,t,e,hr⟩:=rsF_shape (overE (formL z T))
     simp only [hr] at hf ⊢
     clear hp
     simp only [loA,loC,fcA,fcC] at *
     simp [-EvCode_stored,-evStored,f329,start,EvCall_closed H.c325 rfl,q1,hst,a0',c1,c2,hn,hz',push_setk]
     rw [hl _ (by simp [s329_0])]
     simp [x329_1,EvCall_closed H.c335 rfl,hf,push_setk,push_setl]
end Go.Pv
