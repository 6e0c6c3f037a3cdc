/- A part of the proof: functions of the program in the evaluator's code, and what they come to. Conditions: none; definitions and theorems that the statement's proof uses. -/
import Derived.Test.YteiaohbhlapklaaGreatDoorSettPcPrint3
import Derived.Test.YteiaohbhlapklaaGreatDoorSettPcTree10
/- The program's printer: a tree's text. Conditions: the functions' codes; theorems. -/
namespace Go.Pv
variable {E:Env} {x:Int} {h:AHeap}
set_option maxRecDepth 20000 in
set_option maxHeartbeats 2000000 in
theorem symbol249_eq (H:Has 249 E) (hn:isN x = true) {p a n:Int} (ht:TrOk (.sym p a n)) (hd:symD x p a ≠ []):EvClosed E (.fn (.func 249) [] []) [.int .i64 x,.agg (StepA.cs ⟨2,p,a,n,0,[]⟩)] = some (.str (symD x p a++powT (sty x) n)):=by
 rw [EvClosed_eq H.c249 rfl (vs:=[.int .i64 x,.agg (StepA.cs ⟨2,p,a,n,0,[]⟩)]) (by simp [StepA.cs]),EvFn_eq]
 cases ht with
 | sym _ _ _ a0 a1 p0 p1 n0 n1 hm=>
  have ho:=of_eq (H.to 44) x
  rw [hn] at ho
  have hs:=sound168_eq (H.to 168) (v:=.vs .full 1 (StepA.cs ⟨2,p,a,n,0,[]⟩)) (t:=.sym p a n) (.sym p a n a0 a1 p0 p1 n0 n1 hm) (.inr ⟨.full,by simp [Tr.steps]⟩) (by simp [Tr.steps])
  have hx:=symText256_eq (H.to 256) hn p0 p1 a0 a1
  have hp:=power258_eq (H.to 258) x n0 n1
  have l1:=symD_len x p a
  have l2:=powT_len (sty x) n
  have hd':(symD x p a == []) = false:=by simpa using hd
  have hl:(symD x p a).length + (powT (sty x) n).length ≤ 9223372036854775807:=by omega
  simp only [Sty.cs,StepA.cs] at ho hs hp ⊢
  generalize symD x p a = s at *
  generalize powT (sty x) n = w at *
  simp [f249,start,EvCall_closed H.c44 rfl,EvCall_closed H.c168 rfl,EvCall_closed H.c256 rfl,EvCall_closed H.c258 rfl,ho,hs,hx,hp,hd',hl,push_setk]
theorem tells251_eq (H:Has 251 E) (hn:isN x = true) {s:StepA} (hs:StepOk s):EvClosed E (.fn (.func 251) [] []) [.int .i64 x,.agg s.cs] = some (.int .i64 (if s.op == 2 && !toldB (x - 1).toNat atomsT prefsT (symD x s.pfx s.atom) s.pfx s.atom then 16 else if (s.op == 6 || s.op == 7) && !plain x s.text then 17 else 0)):=by
 rw [EvClosed_eq H.c251 rfl (vs:=[.int .i64 x,.agg s.cs]) (by simp [StepA.cs]),EvFn_eq]
 cases hs with
 | num n h1=>simp [f251,start,StepA.cs]
 | sym p a n a0 a1 p0 p1 n0 n1 hm=>
  have ht:=told260_eq (H.to 260) hn p0 p1 a0 a1
  simp only []
  cases hb:toldB (x - 1).toNat atomsT prefsT (symD x p a) p a <;> rw [hb] at ht <;> simp [f251,start,StepA.cs,EvCall_closed H.c260 rfl,ht]
 | op o ho=>rcases ho with rfl | rfl | rfl <;> simp [f251,start,StepA.cs]
 | text o t ho hpr hl=>
  have hp:=plain_eq (H.to 67) x t hl
  cases hb:plain x t <;> rw [hb] at hp <;> rcases ho with rfl | rfl <;> simp [f251,start,StepA.cs,EvCall_closed H.c67 rfl,hp]
theorem set2 (g:AHeap) (y z A B:ABlk):(((g.push y).push z).setBlk g.blks.length A).setBlk (g.blks.length + 1) B = (g.push A).push B:=by
 simp [AHeap.push,AHeap.setBlk]
abbrev frP (x:Int) (v:AV) (n i:Nat):Fr:=s252_0 (.int .i64 x) (.ref 0 0) (.ref 1 0) (.fn (.func 261) [] [.ref 1 0]) v (.int .i64 n) (.int .i64 i)
def GoesT (E:Env) (x:Int) (v:AV) (n i:Nat) (h:AHeap) (j:Nat) (h':AHeap):Prop:=
 ∀ R,(∀ F',mask k252_0 F' = frP x v n j→EvCode E (.loop k252_0 l252_0) F' h' = R)→∀ F,mask k252_0 F = frP x v n i→EvCode E (.loop k252_0 l252_0) F h = R
theorem GoesT.trans {v:AV} {n i j k:Nat} {h h1 h2:AHeap} (a:GoesT E x v n i h j h1) (b:GoesT E x v n j h1 k h2):GoesT E x v n i h k h2:=fun R q=>a R (b R q)
structure AtS (t:List StepA) (i:Nat) (s:StepA):Prop where
 lt:i < t.length
 e6:((t.flatMap StepA.cs).drop (i * 6)).take 6 = s.cs
 ll:(t.flatMap StepA.cs).length = t.length * 6
theorem at_of {a b:List StepA} {s:StepA}:AtS (a++s :: b) a.length s:=by
 have hlt:a.length < (a++s :: b).length:=by simp
 refine ⟨hlt,?_,fm_len StepA.len _⟩
 rw [fm_el StepA.len hlt]
 simp
set_option maxRecDepth 20000 in
set_option maxHeartbeats 4000000 in
theorem step_num (H:Has 252 E) {own:Own} {t:List StepA} {i:Nat} {n:Int} (A:AtS t i ⟨1,-1,0,0,n,[]⟩) (hl:t.length ≤ 255) (n0:1 ≤ n) (n1:n ≤ 9223372036854775807) {st:List (List UInt8 × Int)} (S:PStk x h st) (hc:st.length < 100000):
  ∃ h',PStk x h' ((decSt n.toNat,1) :: st)∧GoesT E x (.vs own t.length (t.flatMap StepA.cs)) t.length i h (i + 1) h':=by
 have hf:=fmt262_eq (H.to 262) (n:=n) (by omega) n1
 have he:itoaS n = decSt n.toNat:=by rw [itoa_dec,if_neg (by omega)]
 rw [he] at hf
 obtain ⟨v,c,m,h2,a1,a2,a3,a6,a7,a8,S2⟩:=(S.push (.cells (StepA.cs ⟨1,-1,0,0,n,[]⟩))).more hc (decSt n.toNat) 1
 refine ⟨_,S2,fun R ih F hF=>?_⟩
 obtain ⟨hlt,e6,ll⟩:=A
 have hd:decide ((i:Int) < (t.length:Int)) = true:=decide_eq_true (by omega)
 have h6:6 ≤ t.length * 6 - i * 6:=by omega
 have h60:i * 6 < t.length * 6:=by omega
 have w1:IntKind.i64.wrap ((i:Int) + 1) = (i:Int) + 1:=w64
 have n0:¬ 0 = h.blks.length:=blk_ne S.s0
 have n1:¬ 1 = h.blks.length:=by obtain ⟨_,q,_⟩:=S.s1; exact blk_ne q
 have s0:=S.s0
 rw [bl_push,if_neg n1] at a1
 simp only [StepA.cs] at e6 a6
 rw [EvCode_loop,hF]
 generalize decSt n.toNat = ds at *
 generalize t.flatMap StepA.cs = ca at *
 generalize EvCode E (.loop k252_0 l252_0) = lp at ih ⊢
 have hro:=S.ro
 simp [row_cell,hro,n1,l252_0,s252_0,hlt,ll,h6,h60,e6,EvCall_closed H.c262 rfl,hf,push_setk,a1,a6,a7,a8,w1]
 refine ih _ ?_
 simp [s252_0]
set_option maxRecDepth 20000 in
set_option maxHeartbeats 4000000 in
theorem step_sym (H:Has 252 E) (hn:isN x = true) {own:Own} {t:List StepA} {i:Nat} {p a n:Int} (A:AtS t i ⟨2,p,a,n,0,[]⟩) (hl:t.length ≤ 255) (ht:TrOk (.sym p a n)) (hsd:symD x p a ≠ []) {st:List (List UInt8 × Int)} (S:PStk x h st) (hc:st.length < 100000):
  ∃ h',PStk x h' ((symD x p a++powT (sty x) n,2) :: st)∧GoesT E x (.vs own t.length (t.flatMap StepA.cs)) t.length i h (i + 1) h':=by
 have hf:=symbol249_eq (H.to 249) hn ht hsd
 obtain ⟨v,c,m,h2,a1,a2,a3,a6,a7,a8,S2⟩:=(S.push (.cells (StepA.cs ⟨2,p,a,n,0,[]⟩))).more hc (symD x p a++powT (sty x) n) 2
 refine ⟨_,S2,fun R ih F hF=>?_⟩
 obtain ⟨hlt,e6,ll⟩:=A
 have hd:decide ((i:Int) < (t.length:Int)) = true:=decide_eq_true (by omega)
 have h6:6 ≤ t.length * 6 - i * 6:=by omega
 have h60:i * 6 < t.length * 6:=by omega
 have w1:IntKind.i64.wrap ((i:Int) + 1) = (i:Int) + 1:=w64
 have n0:¬ 0 = h.blks.length:=blk_ne S.s0
 have n1:¬ 1 = h.blks.length:=by obtain ⟨_,q,_⟩:=S.s1; exact blk_ne q
 have s0:=S.s0
 rw [bl_push,if_neg n1] at a1
 simp only [StepA.cs] at e6 a6 hf
 rw [EvCode_loop,hF]
 generalize symD x p a++powT (sty x) n = ds at *
 generalize t.flatMap StepA.cs = ca at *
 generalize EvCode E (.loop k252_0 l252_0) = lp at ih ⊢
 have hro:=S.ro
 simp [row_cell,hro,n1,l252_0,s252_0,hlt,ll,h6,h60,e6,EvCall_closed H.c249 rfl,hf,push_setk,a1,a6,a7,a8,w1]
 refine ih _ ?_
 simp [s252_0]
set_option maxRecDepth 20000 in
set_option maxHeartbeats 4000000 in
theorem step_alone (_H:Has 252 E) {own:Own} {t:List StepA} {i:Nat} {s:List UInt8} (A:AtS t i ⟨7,-1,0,0,0,s⟩) (hl:t.length ≤ 255) (hs:s.length < 1000000) {st:List (List UInt8 × Int)} (S:PStk x h st) (hc:st.length < 100000):
  ∃ h',PStk x h' ((noteD (sty x) s,7) :: st)∧GoesT E x (.vs own t.length (t.flatMap StepA.cs)) t.length i h (i + 1) h':=by
 have S1:=S.push (.cells (StepA.cs ⟨7,-1,0,0,0,s⟩))
 obtain ⟨v,c,m,h2,a1,a2,a3,a6,a7,a8,S2⟩:=S1.more hc (noteD (sty x) s) 7
 refine ⟨_,S2,fun R ih F hF=>?_⟩
 obtain ⟨hlt,e6,ll⟩:=A
 have hd:decide ((i:Int) < (t.length:Int)) = true:=decide_eq_true (by omega)
 have h6:6 ≤ t.length * 6 - i * 6:=by omega
 have h60:i * 6 < t.length * 6:=by omega
 have w1:IntKind.i64.wrap ((i:Int) + 1) = (i:Int) + 1:=w64
 obtain ⟨_,_,_,so,sc⟩:=sty_small x
 have bo:=u8back (sty x).opn
 have bc:=u8back (sty x).cls
 have l1:1 + s.length ≤ 9223372036854775807:=by omega
 have l2:s.length ≤ 9223372036854775805:=by omega
 have l3:s.length + 1 ≤ 9223372036854775806:=by omega
 have n0:¬ 0 = h.blks.length:=blk_ne S.s0
 have n1:¬ 1 = h.blks.length:=by obtain ⟨_,q,_⟩:=S.s1; exact blk_ne q
 have s0:=S.s0
 rw [bl_push,if_neg n1] at a1
 simp only [StepA.cs,Sty.cs,noteD] at e6 a6 s0
 rw [EvCode_loop,hF]
 generalize (sty x).opn = op at *
 generalize (sty x).cls = cl at *
 generalize t.flatMap StepA.cs = ca at *
 generalize EvCode E (.loop k252_0 l252_0) = lp at ih ⊢
 have hro:=S.ro
 simp [row_cell,hro,n0,n1,s0,l252_0,s252_0,hlt,ll,h6,h60,e6,so,sc,bo,bc,l1,l2,push_setk,a1,a6,a7,a8,w1]
 refine ih _ ?_
 simp [s252_0]
theorem part_len (o:Int) (p:List UInt8 × Int):(partIn o p).length ≤ p.1.length + 2:=brk_len _ _
set_option maxRecDepth 20000 in
set_option maxHeartbeats 4000000 in
theorem step_note (H:Has 252 E) {own:Own} {t:List StepA} {i:Nat} {s:List UInt8} (A:AtS t i ⟨6,-1,0,0,0,s⟩) (hl:t.length ≤ 255) (hs:s.length < 1000000) {p:List UInt8 × Int} (hp:p.1.length < 1000000000) {st:List (List UInt8 × Int)} (S:PStk x h (p :: st)):
  ∃ h',PStk x h' ((partIn 6 p++noteD (sty x) s,6) :: st)∧GoesT E x (.vs own t.length (t.flatMap StepA.cs)) t.length i h (i + 1) h':=by
 have hc:=S.len
 simp only [List.length_cons] at hc
 have n0:=blk_ne S.s0
 have l1:=blk_lt S.s0
 have n1:1 < h.blks.length:=by obtain ⟨v,h1,_⟩:=S.s1; exact blk_lt h1
 have S1:=S.push (.cells (StepA.cs ⟨6,-1,0,0,0,s⟩))
 obtain ⟨g,c1,S2,c3,c4⟩:=S1.pop (H.to 261)
 have hN:g.bl h.blks.length = some (.cells (StepA.cs ⟨6,-1,0,0,0,s⟩)):=by
  rw [c3 h.blks.length (by simp) (by omega),bl_push,if_pos rfl]
 have q0:=S2.s0
 have hin:=in263_eq (H.to 263) hp 6 p.2
 have hpl:=part_len 6 p
 rw [show (p.1,p.2) = p from rfl] at hin
 obtain ⟨v,c,m,h2,a1,a2,a3,a6,a7,a8,S3⟩:=S2.more (by omega) (partIn 6 p++noteD (sty x) s) 6
 refine ⟨_,S3,fun R ih F hF=>?_⟩
 obtain ⟨hlt,e6,ll⟩:=A
 have hd:decide ((i:Int) < (t.length:Int)) = true:=decide_eq_true (by omega)
 have h6:6 ≤ t.length * 6 - i * 6:=by omega
 have h60:i * 6 < t.length * 6:=by omega
 have w1:IntKind.i64.wrap ((i:Int) + 1) = (i:Int) + 1:=w64
 obtain ⟨_,_,_,so,sc⟩:=sty_small x
 have bo:=u8back (sty x).opn
 have bc:=u8back (sty x).cls
 have m0:¬ 0 = h.blks.length:=n0
 have m1:¬ 1 = h.blks.length:=by omega
 have s0:=S.s0
 simp only [StepA.cs,Sty.cs,noteD] at e6 a6 q0 c1 hN s0
 have b1:1 + s.length ≤ 9223372036854775807:=by omega
 have b2:s.length ≤ 9223372036854775805:=by omega
 have b3:(partIn 6 p).length + (s.length + 1 + 1) ≤ 9223372036854775807:=by omega
 have ro:=S2.ro
 rw [EvCode_loop,hF]
 generalize partIn 6 p = pt at *
 generalize (sty x).opn = op at *
 generalize (sty x).cls = cl at *
 generalize t.flatMap StepA.cs = ca at *
 generalize EvCode E (.loop k252_0 l252_0) = lp at ih ⊢
 have hro:=S.ro
 simp [row_cell,hro,l252_0,s252_0,hlt,ll,h6,h60,e6,c1,hN,hin,q0,so,sc,bo,bc,b1,b2,b3,push_setk,a1,a6,a7,a8,w1]
 refine ih _ ?_
 simp [s252_0]
set_option maxRecDepth 20000 in
set_option maxHeartbeats 4000000 in
theorem step_inv (H:Has 252 E) {own:Own} {t:List StepA} {i:Nat} (A:AtS t i (stepO 5)) (hl:t.length ≤ 255) {p:List UInt8 × Int} (hp:p.1.length < 1000000000) {st:List (List UInt8 × Int)} (S:PStk x h (p :: st)):
  ∃ h',PStk x h' (((sty x).div :: partIn 5 p,5) :: st)∧GoesT E x (.vs own t.length (t.flatMap StepA.cs)) t.length i h (i + 1) h':=by
 have hc:=S.len
 simp only [List.length_cons] at hc
 have n0:=blk_ne S.s0
 have l1:=blk_lt S.s0
 have n1:1 < h.blks.length:=by obtain ⟨v,h1,_⟩:=S.s1; exact blk_lt h1
 have S1:=S.push (.cells (stepO 5).cs)
 obtain ⟨g,c1,S2,c3,c4⟩:=S1.pop (H.to 261)
 have hN:g.bl h.blks.length = some (.cells (stepO 5).cs):=by
  rw [c3 h.blks.length (by simp) (by omega),bl_push,if_pos rfl]
 have q0:=S2.s0
 have hin:=in263_eq (H.to 263) hp 5 p.2
 have hpl:=part_len 5 p
 rw [show (p.1,p.2) = p from rfl] at hin
 obtain ⟨v,c,m,h2,a1,a2,a3,a6,a7,a8,S3⟩:=S2.more (by omega) ((sty x).div :: partIn 5 p) 5
 refine ⟨_,S3,fun R ih F hF=>?_⟩
 obtain ⟨hlt,e6,ll⟩:=A
 have hd:decide ((i:Int) < (t.length:Int)) = true:=decide_eq_true (by omega)
 have h6:6 ≤ t.length * 6 - i * 6:=by omega
 have h60:i * 6 < t.length * 6:=by omega
 have w1:IntKind.i64.wrap ((i:Int) + 1) = (i:Int) + 1:=w64
 obtain ⟨_,so,_,_,_⟩:=sty_small x
 have bo:=u8back (sty x).div
 have m0:¬ 0 = h.blks.length:=n0
 have m1:¬ 1 = h.blks.length:=by omega
 have s0:=S.s0
 simp only [StepA.cs,stepO,Sty.cs] at e6 a6 q0 c1 hN s0
 have b1:1 + (partIn 5 p).length ≤ 9223372036854775807:=by omega
 have ro:=S2.ro
 rw [EvCode_loop,hF]
 generalize partIn 5 p = pt at *
 generalize (sty x).div = op at *
 generalize t.flatMap StepA.cs = ca at *
 generalize EvCode E (.loop k252_0 l252_0) = lp at ih ⊢
 have hro:=S.ro
 simp [row_cell,hro,m0,s0,l252_0,s252_0,hlt,ll,h6,h60,e6,c1,hN,hin,q0,so,bo,b1,push_setk,a1,a6,a7,a8,w1]
 refine ih _ ?_
 simp [s252_0]
set_option maxRecDepth 20000 in
set_option maxHeartbeats 4000000 in
theorem step_bin (H:Has 252 E) {own:Own} {t:List StepA} {i:Nat} {o:Int} (ho:o = 3∨o = 4) (A:AtS t i (stepO o)) (hl:t.length ≤ 255) {q p:List UInt8 × Int} (hq:q.1.length < 1000000000) (hp:p.1.length < 1000000000) {st:List (List UInt8 × Int)} (S:PStk x h (q :: p :: st)):
  ∃ h',PStk x h' ((p.1++(if o = 3 then (sty x).mul else (sty x).div) :: partIn o q,o) :: st)∧GoesT E x (.vs own t.length (t.flatMap StepA.cs)) t.length i h (i + 1) h':=by
 have hc:=S.len
 simp only [List.length_cons] at hc
 have n0:=blk_ne S.s0
 have l1:=blk_lt S.s0
 have n1:1 < h.blks.length:=by obtain ⟨v,h1,_⟩:=S.s1; exact blk_lt h1
 have S1:=S.push (.cells (stepO o).cs)
 obtain ⟨g,c1,S2,c3,c4⟩:=S1.pop (H.to 261)
 have hN:g.bl h.blks.length = some (.cells (stepO o).cs):=by
  rw [c3 h.blks.length (by simp) (by omega),bl_push,if_pos rfl]
 have lN:=blk_lt hN
 obtain ⟨g2,d1,S3,d3,d4⟩:=S2.pop (H.to 261)
 have hN2:g2.bl h.blks.length = some (.cells (stepO o).cs):=by rw [d3 _ lN (by omega),hN]
 have S4:=(S3.push (.cells [.str q.1,.int .i64 q.2])).push (.cells [.str p.1,.int .i64 p.2])
 have q0:=S4.s0
 have q3:=S3.s0
 have hin:=in263_eq (H.to 263) hq o q.2
 have hpl:=part_len o q
 rw [show (q.1,q.2) = q from rfl] at hin
 obtain ⟨v,c,m,h2,a1,a2,a3,a6,a7,a8,S5⟩:=S4.more (by omega) (p.1++(if o = 3 then (sty x).mul else (sty x).div) :: partIn o q) o
 refine ⟨_,S5,fun R ih F hF=>?_⟩
 obtain ⟨hlt,e6,ll⟩:=A
 have hd:decide ((i:Int) < (t.length:Int)) = true:=decide_eq_true (by omega)
 have h6:6 ≤ t.length * 6 - i * 6:=by omega
 have h60:i * 6 < t.length * 6:=by omega
 have w1:IntKind.i64.wrap ((i:Int) + 1) = (i:Int) + 1:=w64
 obtain ⟨sm,sd,_,_,_⟩:=sty_small x
 have bm:=u8back (sty x).mul
 have bd:=u8back (sty x).div
 have m0:¬ 0 = h.blks.length:=n0
 have m1:¬ 1 = h.blks.length:=by omega
 have p0:¬ 0 = g2.blks.length:=by omega
 have p1:¬ 1 = g2.blks.length:=by omega
 have p2:¬ h.blks.length = g2.blks.length:=by omega
 have p00:¬ 0 = g2.blks.length + 1:=by omega
 have p11:¬ 1 = g2.blks.length + 1:=by omega
 have p22:¬ h.blks.length = g2.blks.length + 1:=by omega
 have p33:¬ g2.blks.length = g2.blks.length + 1:=by omega
 have s0:=S.s0
 simp only [StepA.cs,stepO,Sty.cs] at e6 a6 q0 q3 c1 d1 hN hN2 s0
 have b1:p.1.length + 1 ≤ 9223372036854775807:=by omega
 have b2:p.1.length + 1 + (partIn o q).length ≤ 9223372036854775807:=by omega
 have ro:=S2.ro
 have ro3:=S3.ro
 rw [EvCode_loop,hF]
 rcases ho with rfl | rfl
 ·simp only [if_pos] at a6
  generalize partIn 3 q = pt at *
  generalize (sty x).mul = op at *
  generalize t.flatMap StepA.cs = ca at *
  generalize EvCode E (.loop k252_0 l252_0) = lp at ih ⊢
  have hro:=S.ro
  simp [row_cell,set2,hro,ro3,p2,p22,l252_0,s252_0,hlt,ll,h6,h60,e6,c1,d1,hN2,hin,q0,sm,bm,b1,b2,push_setk,a1,a6,a7,a8,w1]
  refine ih _ ?_
  simp [s252_0]
 ·simp only [show ¬ ((4:Int) = 3) by decide,if_false] at a6
  generalize partIn 4 q = pt at *
  generalize (sty x).div = op at *
  generalize t.flatMap StepA.cs = ca at *
  generalize EvCode E (.loop k252_0 l252_0) = lp at ih ⊢
  have hro:=S.ro
  simp [row_cell,set2,hro,ro3,p2,p22,l252_0,s252_0,hlt,ll,h6,h60,e6,c1,d1,hN2,hin,q0,sd,bd,b1,b2,push_setk,a1,a6,a7,a8,w1]
  refine ih _ ?_
  simp [s252_0]
end Go.Pv
/- The reference's text of a tree, of parts. Conditions: the functions' codes; theorems. -/
namespace Go.Pv
variable {E:Env}
set_option maxHeartbeats 8000000 in
theorem text_parts (H:Has 174 E) {x:Int} {t r:Tr} {y:StepA} {a:List StepA} (ht:TrOk t) (hl:t.steps.length ≤ 255) (e:t.steps = a++[y]) (hright:t.right = r.steps) {v:AV} (hv:TreeV v t.steps)
  (hk:y.op = 3∨y.op = 4∨y.op = 5∨y.op = 6) (hty:y.text.length < 1000000)
  {sr:List UInt8} (hsr:sr.length ≤ 300000000)
  (hr:∀ v,TreeV v r.steps→EvClosed E (.fn (.func 174) [] []) [.int .i64 x,v] = some (.str sr))
  {sl:List UInt8} (hsl:sl.length ≤ 300000000)
  (hlft:y.op = 3∨y.op = 4→∀ v,TreeV v t.left→EvClosed E (.fn (.func 174) [] []) [.int .i64 x,v] = some (.str sl)):
  EvClosed E (.fn (.func 174) [] []) [.int .i64 x,v] = some (.str (if y.op = 6 then brkD (inB y.op r.steps) sr++noteD (sty x) y.text else if y.op = 5 then (sty x).div :: brkD (inB y.op r.steps) sr else sl++(if y.op = 3 then (sty x).mul else (sty x).div) :: brkD (inB y.op r.steps) sr)):=by
 obtain ⟨v',sv,hv'⟩:=tree_shut hv
 rw [EvClosed_eq H.c174 rfl (vs:=[.int .i64 x,v']) (by simp [sv]),EvFn_eq]
 have ho:=refOf_eq (H.to 19) x
 simp only [Sty.cs] at ho
 have hb1:=byteOf_eq (H.to 185) (sty x).opn
 have hb2:=byteOf_eq (H.to 185) (sty x).cls
 have hb3:=byteOf_eq (H.to 185) (sty x).mul
 have hb4:=byteOf_eq (H.to 185) (sty x).div
 obtain ⟨lv,rv,hp,hlv,hrv⟩:=parts_eq (H.to 188) ht hv' hl
 rw [hright] at hrv
 obtain ⟨ra,rx,re,_⟩:=r.snoc
 have hrl:r.steps.length < 256:=by
  have h2:=congrArg List.length e
  obtain ⟨a2,x2,e2,ea2⟩:=t.snoc
  have h3:=congrArg List.length e2
  have h4:=congrArg List.length ea2
  rw [hright] at h4
  simp only [List.length_append,List.length_cons,List.length_nil] at h2 h3 h4
  omega
 have hin:=in_eq (H.to 189) hrv re (by omega) y.op
 have hd:=hr rv hrv
 have hdl:=fun h=>hlft h lv hlv
 have he6:=last6 (a:=a) (x:=y)
 rw [← e] at he6
 have e3:t.steps.length = a.length + 1:=by rw [e]; simp
 have ll:(t.steps.flatMap StepA.cs).length = (a.length + 1) * 6:=by rw [fm_len StepA.len,e3]
 rcases hv' with ⟨_,h0⟩ | ⟨own,rfl⟩
 ·rw [h0] at e3
  simp at e3
 rw [e3] at hp ⊢
 have w:IntKind.i64.wrap ((a.length:Int) + 1 - 1) = (a.length:Int):=by rw [Int.add_sub_cancel]; exact w64
 have w':IntKind.i64.wrap (a.length:Int) = (a.length:Int):=w64
 have hq:(a.length:Int) < (a.length:Int) + 1:=by omega
 have h1:a.length * 6 < (a.length + 1) * 6:=by omega
 have h2:6 ≤ (a.length + 1) * 6 - a.length * 6:=by omega
 have h3:0 < (a.length + 1) * 6 - a.length * 6:=by omega
 have lvc:lv.isCell = true:=by rcases hlv with ⟨rfl,_⟩ | ⟨_,rfl⟩ <;> rfl
 have rvc:rv.isCell = true:=by rcases hrv with ⟨rfl,_⟩ | ⟨_,rfl⟩ <;> rfl
 have rvs:rv.cells? = some [rv]:=by rcases hrv with ⟨rfl,_⟩ | ⟨_,rfl⟩ <;> rfl
 have lvs:lv.cells? = some [lv]:=by rcases hlv with ⟨rfl,_⟩ | ⟨_,rfl⟩ <;> rfl
 unfold AV.cells? at rvs lvs
 obtain ⟨yo,yp,ya,yn,ym,yt⟩:=y
 simp only at hk hty hin hdl ⊢
 simp only [StepA.cs] at he6
 generalize t.steps.flatMap StepA.cs = ca at *
 have l1:1 + yt.length ≤ 9223372036854775807:=by omega
 have l1':yt.length + 1 ≤ 9223372036854775807:=by omega
 have l2:yt.length + 1 + 1 ≤ 9223372036854775807:=by omega
 have l3:1 + sr.length ≤ 9223372036854775807:=by omega
 have l3':sr.length + 1 ≤ 9223372036854775807:=by omega
 have l4:sr.length + 1 + 1 ≤ 9223372036854775807:=by omega
 have l5:sr.length + 1 + 1 + (yt.length + 1 + 1) ≤ 9223372036854775807:=by omega
 have l6:sr.length + (yt.length + 1 + 1) ≤ 9223372036854775807:=by omega
 have l7:1 + (sr.length + 1 + 1) ≤ 9223372036854775807:=by omega
 have l7':(sr.length + 1 + 1 + 1) ≤ 9223372036854775807:=by omega
 have l8:sl.length + 1 ≤ 9223372036854775807:=by omega
 have l9:sl.length + 1 + sr.length ≤ 9223372036854775807:=by omega
 have l10:sl.length + 1 + (sr.length + 1 + 1) ≤ 9223372036854775807:=by omega
 rcases hk with rfl | rfl | rfl | rfl
 ·have hdl:=hdl (by simp)
  cases hib:inB 3 r.steps <;> rw [hib] at hin <;> simp [f174,start,EvCall_closed H.c19 rfl,EvCall_closed H.c188 rfl,EvCall_closed H.c189 rfl,EvCall_closed H.c174 rfl,ho,hb1,hb2,hb3,hp,hin,hd,hdl,w',hq,ll,h1,h2,he6,push_setk,lvc,rvc,brkD,l1,l2,l3,l4,l8,l9,l10]
 ·have hdl:=hdl (by simp)
  cases hib:inB 4 r.steps <;> rw [hib] at hin <;> simp [f174,start,EvCall_closed H.c19 rfl,EvCall_closed H.c188 rfl,EvCall_closed H.c189 rfl,EvCall_closed H.c174 rfl,ho,hb1,hb2,hb4,hp,hin,hd,hdl,w',hq,ll,h1,h2,he6,push_setk,lvc,rvc,brkD,l1,l2,l3,l4,l8,l9,l10]
 ·cases hib:inB 5 r.steps <;> rw [hib] at hin <;> simp [f174,start,EvCall_closed H.c19 rfl,EvCall_closed H.c185 rfl,EvCall_closed H.c188 rfl,EvCall_closed H.c189 rfl,EvCall_closed H.c174 rfl,ho,hb1,hb2,hb4,hp,hin,hd,w',hq,ll,h1,h2,he6,push_setk,lvc,rvc,brkD,l1,l2,l3,l4,l7]
 ·cases hib:inB 6 r.steps <;> rw [hib] at hin <;> simp [f174,start,EvCall_closed H.c19 rfl,EvCall_closed H.c188 rfl,EvCall_closed H.c189 rfl,EvCall_closed H.c174 rfl,ho,hb1,hb2,hp,hin,hd,w',hq,ll,h1,h2,he6,push_setk,lvc,rvc,noteD,brkD,l1,l2,l3,l4,l5,l6]
theorem text_eq (H:Has 174 E) {x:Int} (hn:isN x = true):∀ (t:Tr),TrOk t→t.fits→t.steps.length ≤ 255→∀ v,TreeV v t.steps→EvClosed E (.fn (.func 174) [] []) [.int .i64 x,v] = some (.str (ptext x t)):=by
 intro t
 induction t with
 | num n=>intro ht hf _ v hv; exact text_leaf H hn ht hf rfl hv
 | sym p a n=>intro ht hf _ v hv; exact text_leaf H hn ht hf rfl hv
 | alone s=>intro ht hf _ v hv; exact text_leaf H hn ht hf rfl hv
 | note t s ih=>
  intro ht hf hl v hv
  have hlt:t.steps.length ≤ 255:=by simp only [Tr.steps,List.length_append] at hl; omega
  cases ht with
  | note _ _ h1 h2 h3=>
   have hp:=ptext_len x h1
   exact text_parts H (.note t s h1 h2 h3) hl (y:=⟨6,-1,0,0,0,s⟩) rfl rfl hv (by simp) h3 (by omega) (ih h1 hf hlt) (sl:=[]) (by simp) (by simp)
 | inv t ih=>
  intro ht hf hl v hv
  have hlt:t.steps.length ≤ 255:=by simp only [Tr.steps,List.length_append] at hl; omega
  cases ht with
  | inv _ h1=>
   have hp:=ptext_len x h1
   exact text_parts H (.inv t h1) hl (y:=stepO 5) rfl rfl hv (by simp [stepO]) (by simp [stepO]) (by omega) (ih h1 hf hlt) (sl:=[]) (by simp) (by simp [stepO])
 | bin o l r ihl ihr=>
  intro ht hf hl v hv
  have hlt:l.steps.length ≤ 255∧r.steps.length ≤ 255:=by simp only [Tr.steps,List.length_append] at hl; omega
  cases ht with
  | bin _ _ _ ho h1 h2=>
   have hp:=ptext_len x h1
   have hp2:=ptext_len x h2
   have h:=text_parts H (.bin o l r ho h1 h2) hl (y:=stepO o) rfl rfl hv (by simp only [stepO]; omega) (by simp [stepO]) (by omega) (ihr h2 hf.2 hlt.2) (by omega) (fun _=>ihl h1 hf.1 hlt.1)
   rw [h]
   simp only [stepO,ptext]
   rcases ho with rfl | rfl <;> rfl
end Go.Pv
