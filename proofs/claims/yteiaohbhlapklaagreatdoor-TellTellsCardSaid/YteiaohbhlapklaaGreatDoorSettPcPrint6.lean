/- A part of the proof: functions of the program in the evaluator's code, and what they come to. Conditions: none; definitions and theorems that the statement's proof uses. -/
import Derived.Test.YteiaohbhlapklaaGreatDoorSettPcPrint5
import Derived.Test.YteiaohbhlapklaaGreatDoorSettPcBack1
import Derived.Test.YteiaohbhlapklaaGreatDoorSettPcTree10
/- The program's printer: a tree's text. Conditions: the functions' codes; theorems. -/
namespace Go.Pv
variable {E:Env} {x:Int}
theorem told_ne {p a:Int} (h:toldD x p a = true):symD x p a ≠ []:=by
 intro q
 unfold toldD toldB at h
 rw [q] at h
 simp at h
theorem noteD_len (st:Sty) (s:List UInt8):(noteD st s).length = s.length + 2:=by simp [noteD]
theorem ptext_bd {t:Tr} (ht:TrOk t):(ptext x t).length ≤ t.steps.length * 1000100:=by
 induction ht with
 | num n _=>
  have:=dec_len n.toNat
  simp only [ptext,Tr.steps,List.length_cons,List.length_nil]
  omega
 | sym p a n _ _ _ _ _ _ _=>
  have h1:=symD_len x p a
  have h2:=powT_len (sty x) n
  simp only [ptext,Tr.steps,List.length_cons,List.length_nil,List.length_append]
  omega
 | alone s _ h2=>
  simp only [ptext,Tr.steps,List.length_cons,List.length_nil,noteD_len]
  omega
 | note t s _ _ h2 ih=>
  have:=brk_len (inB 6 t.steps) (ptext x t)
  simp only [ptext,Tr.steps,List.length_cons,List.length_nil,List.length_append,noteD_len]
  omega
 | inv t _ ih=>
  have:=brk_len (inB 5 t.steps) (ptext x t)
  simp only [ptext,Tr.steps,List.length_cons,List.length_nil,List.length_append]
  omega
 | bin o l r _ _ _ ih1 ih2=>
  have:=brk_len (inB o r.steps) (ptext x r)
  simp only [ptext,Tr.steps,List.length_cons,List.length_nil,List.length_append]
  omega
theorem last_note (t:Tr) (s:List UInt8):lastOp (Tr.note t s).steps = 6:=by rw [Tr.steps,last_snoc]
theorem last_inv (t:Tr):lastOp (Tr.inv t).steps = 5:=by rw [Tr.steps,last_snoc]; rfl
theorem last_bin (o:Int) (l r:Tr):lastOp (Tr.bin o l r).steps = o:=by rw [Tr.steps,last_snoc]; rfl
theorem walk_tr (H:Has 252 E) (hn:isN x = true) {own:Own} {T:List StepA} (hT:T.length ≤ 255) {t:Tr} (ht:TrOk t):t.fits→t.told x→∀ (a b:List StepA) (h:AHeap) (st:List (List UInt8 × Int)),T = a++(t.steps++b)→st.length + t.steps.length ≤ 1000→PStk x h st →
  ∃ h',PStk x h' ((ptext x t,lastOp t.steps) :: st)∧GoesT E x (.vs own T.length (T.flatMap StepA.cs)) T.length a.length h (a.length + t.steps.length) h':=by
 induction ht with
 | num n n0=>
  intro hf _ a b h st hE hst S
  simp only [Tr.steps,List.length_cons,List.length_nil] at hst
  exact step_num H (hE ▸ at_of) hT n0 hf S (by omega)
 | sym p i n a0 a1 p0 p1 n0 n1 hm=>
  intro hf hd a b h st hE hst S
  simp only [Tr.steps,List.length_cons,List.length_nil] at hst
  exact step_sym H hn (hE ▸ at_of) hT (.sym p i n a0 a1 p0 p1 n0 n1 hm) (told_ne hd) S (by omega)
 | alone s h1 h2=>
  intro hf hd a b h st hE hst S
  simp only [Tr.steps,List.length_cons,List.length_nil] at hst
  exact step_alone H (hE ▸ at_of) hT h2 S (by omega)
 | note t s ht h1 h2 ih=>
  intro hf hd a b h st hE hst S
  have hlen:(Tr.note t s).steps.length = t.steps.length + 1:=by simp [Tr.steps]
  rw [hlen] at hst
  have hE2:T = a++(t.steps++(⟨6,-1,0,0,0,s⟩ :: b)):=by rw [hE]; simp [Tr.steps]
  obtain ⟨h1',S1,G1⟩:=ih hf hd.1 a _ h st hE2 (by omega) S
  have hb:=ptext_bd (x:=x) ht
  have hl:t.steps.length ≤ 255:=by rw [hE2] at hT; simp at hT; omega
  have hA:AtS T (a.length + t.steps.length) ⟨6,-1,0,0,0,s⟩:=by
   have:=@at_of (a++t.steps) b ⟨6,-1,0,0,0,s⟩
   rw [List.append_assoc,← hE2,List.length_append] at this
   exact this
  obtain ⟨h2',S2,G2⟩:=step_note H (own:=own) hA hT h2 (p:=(ptext x t,lastOp t.steps)) (by show (ptext x t).length < _; omega) S1
  refine ⟨h2',?_,?_⟩
  ·rw [last_note]
   exact S2
  ·rw [hlen,← Nat.add_assoc]
   exact G1.trans G2
 | inv t ht ih=>
  intro hf hd a b h st hE hst S
  have hlen:(Tr.inv t).steps.length = t.steps.length + 1:=by simp [Tr.steps]
  rw [hlen] at hst
  have hE2:T = a++(t.steps++(stepO 5 :: b)):=by rw [hE]; simp [Tr.steps]
  obtain ⟨h1',S1,G1⟩:=ih hf hd a _ h st hE2 (by omega) S
  have hb:=ptext_bd (x:=x) ht
  have hl:t.steps.length ≤ 255:=by rw [hE2] at hT; simp at hT; omega
  have hA:AtS T (a.length + t.steps.length) (stepO 5):=by
   have:=@at_of (a++t.steps) b (stepO 5)
   rw [List.append_assoc,← hE2,List.length_append] at this
   exact this
  obtain ⟨h2',S2,G2⟩:=step_inv H (own:=own) hA hT (p:=(ptext x t,lastOp t.steps)) (by show (ptext x t).length < _; omega) S1
  refine ⟨h2',?_,?_⟩
  ·rw [last_inv]
   exact S2
  ·rw [hlen,← Nat.add_assoc]
   exact G1.trans G2
 | bin o l r ho hl hr ih1 ih2=>
  intro hf hd a b h st hE hst S
  have hlen:(Tr.bin o l r).steps.length = l.steps.length + r.steps.length + 1:=by simp [Tr.steps]; omega
  rw [hlen] at hst
  have hp:=Tr.steps_pos l
  have hE1:T = a++(l.steps++(r.steps++stepO o :: b)):=by rw [hE]; simp [Tr.steps]
  have hE2:T = (a++l.steps)++(r.steps++(stepO o :: b)):=by rw [hE1]; simp
  obtain ⟨h1',S1,G1⟩:=ih1 hf.1 hd.1 a _ h st hE1 (by omega) S
  obtain ⟨h2',S2,G2⟩:=ih2 hf.2 hd.2 (a++l.steps) _ h1' _ hE2 (by simp only [List.length_cons]; omega) S1
  rw [List.length_append] at G2
  have hb1:=ptext_bd (x:=x) hl
  have hb2:=ptext_bd (x:=x) hr
  have hlT:l.steps.length + r.steps.length ≤ 255:=by rw [hE1] at hT; simp at hT; omega
  have hA:AtS T (a.length + l.steps.length + r.steps.length) (stepO o):=by
   have:=@at_of (a++l.steps++r.steps) b (stepO o)
   rw [List.append_assoc (a++l.steps),← hE2,List.length_append,List.length_append] at this
   exact this
  obtain ⟨h3',S3,G3⟩:=step_bin H (own:=own) ho hA hT (q:=(ptext x r,lastOp r.steps)) (p:=(ptext x l,lastOp l.steps)) (by show (ptext x r).length < _; omega) (by show (ptext x l).length < _; omega) S2
  refine ⟨h3',?_,?_⟩
  ·rw [last_bin]
   exact S3
  ·rw [hlen,show a.length + (l.steps.length + r.steps.length + 1) = a.length + l.steps.length + r.steps.length + 1 by omega]
   exact (G1.trans G2).trans G3
theorem text252_eq (H:Has 252 E) (hn:isN x = true) {t:Tr} (ht:TrOk t) (hf:t.fits) (hd:t.told x) (hl:t.steps.length ≤ 255) {v:AV} (hv:TreeV v t.steps):EvClosed E (.fn (.func 252) [] []) [.int .i64 x,v] = some (.str (ptext x t)):=by
 obtain ⟨v',sv,hv'⟩:=tree_shut hv
 rw [EvClosed_eq H.c252 rfl (vs:=[.int .i64 x,v']) (by simp [sv]),EvFn_eq]
 have hpos:=Tr.steps_pos t
 rcases hv' with ⟨_,h0⟩ | ⟨own,rfl⟩
 ·rw [h0] at hpos
  simp at hpos
 have ho:=of_eq (H.to 44) x
 rw [hn] at ho
 have S:PStk x ((heap0.push (.cells (sty x).cs)).push (.cells [.nils])) []:=⟨rfl,⟨.nils,rfl,.inl ⟨rfl,rfl⟩⟩,rfl,by simp⟩
 obtain ⟨g,Sg,G⟩:=walk_tr H hn (own:=own) hl ht hf hd [] [] _ [] (by simp) (by simp; omega) S
 simp only [List.length_nil,Nat.zero_add] at G
 obtain ⟨_,⟨w,q1,q2⟩,gro,_⟩:=Sg
 rcases q2 with ⟨_,q2⟩ | ⟨b,junk,hb,rfl,q2⟩
 ·cases q2
 simp only [List.reverse_cons,List.reverse_nil,List.nil_append,List.flatMap_cons,List.flatMap_nil,List.append_nil,partC,List.cons_append,List.length_cons,List.length_nil,Nat.zero_add] at q1 q2
 have hend:=G (some (.exit 0,x252_0 (.ref 1 0),g)) (fun F' hF=>by
  rw [EvCode_loop,hF]
  simp [l252_0,s252_0,x252_0])
 simp only [Sty.cs] at ho hend
 generalize t.steps.flatMap StepA.cs = ca at *
 generalize ptext x t = pt at *
 simp [f252,start,EvCall_closed H.c44 rfl,ho,push_setk,bl_push]
 rw [hend _ (by simp [s252_0])]
 simp [x252_0,q1,q2]
end Go.Pv
/- Which steps may be: any step. Conditions: the functions' codes; theorems. -/
namespace Go.Pv
variable {E:Env} {h:AHeap}
def symB (p a n:Int):Bool:=decide (0 ≤ a) && (decide (a < atomsT.length) && (decide (-1 ≤ p) && (decide (p < prefsT.length) && (decide (-99 ≤ n) && (decide (n ≤ 99) && (p == -1 || metricT a))))))
def mayB (s:StepA):Bool:=
 if s.op = 1 then decide (1 ≤ s.num) && (s.pfx == -1 && (s.atom == 0 && (s.n == 0 && s.text == [])))
 else if s.op = 2 then symB s.pfx s.atom s.n && (s.num == 0 && s.text == [])
 else if s.op = 3∨s.op = 4∨s.op = 5 then s.pfx == -1 && (s.atom == 0 && (s.n == 0 && (s.num == 0 && s.text == [])))
 else if s.op = 6∨s.op = 7 then printB s.text && (s.pfx == -1 && (s.atom == 0 && (s.n == 0 && s.num == 0)))
 else false
theorem oddAt_lt:∀ s:List UInt8,decide (oddAt s < 0) = printB s
 | []=>rfl
 | c :: s=>by
  have ih:=oddAt_lt s
  simp only [oddAt,printB,List.all_cons] at ih ⊢
  by_cases hc:c.toNat < 32∨126 < c.toNat
  ·rw [if_pos hc]
   have:(decide (32 ≤ c.toNat) && decide (c.toNat ≤ 126)) = false:=by
    rw [Bool.and_eq_false_iff]
    simp only [decide_eq_false_iff_not]
    omega
   rw [this]
   rfl
  ·rw [if_neg hc]
   have:(decide (32 ≤ c.toNat) && decide (c.toNat ≤ 126)) = true:=by
    rw [Bool.and_eq_true]
    simp only [decide_eq_true_eq]
    omega
   rw [this,Bool.true_and,← ih]
   have:=odd_rng s
   generalize oddAt s = o at *
   split
   ·rename_i h; rw [h]
   ·rw [decide_eq_decide]
    omega
where
 odd_rng:∀ s:List UInt8,oddAt s = -1∨0 ≤ oddAt s
  | []=>.inl rfl
  | x :: s=>by
   simp only [oddAt]
   have:=odd_rng s
   split
   ·exact .inr (by decide)
   ·split
    ·exact .inl rfl
    ·exact .inr (by omega)
set_option maxRecDepth 20000 in
set_option maxHeartbeats 4000000 in
theorem symbol200_gen (H:Has 200 E) (o p a n m:Int) (t:List UInt8):EvClosed E (.fn (.func 200) [] []) [.agg (StepA.cs ⟨o,p,a,n,m,t⟩)] = some (.bool (symB p a n)):=by
 rw [EvClosed_eq H.c200 rfl (vs:=[.agg (StepA.cs ⟨o,p,a,n,m,t⟩)]) (by simp [StepA.cs]),EvFn_eq]
 have ht:=table_eq (H.to 38)
 simp only [Tb.V,Tb.A,Tb.P,progB] at ht
 by_cases ha:a < 0
 ·have e:symB p a n = false:=by simp [symB]; omega
  rw [e]
  generalize atomsT.flatMap (acs .shared) = cA at *
  simp [f200,start,StepA.cs,EvCall_closed H.c38 rfl,ht,push_setk,ha]
 obtain ⟨k,rfl⟩:∃ k:Nat,a = k:=⟨a.toNat,by omega⟩
 have d1:decide ((k:Int) < 0) = false:=decide_eq_false ha
 by_cases hkn:atomsT.length ≤ k
 ·have e:symB p k n = false:=by simp [symB]; omega
  have d2:decide ((atomsT.length:Int) ≤ (k:Int)) = true:=decide_eq_true (by omega)
  have d2':atomsT.length ≤ k:=by omega
  rw [e]
  generalize atomsT.flatMap (acs .shared) = cA at *
  simp [f200,start,StepA.cs,EvCall_closed H.c38 rfl,ht,push_setk,d1,d2']
 have hk:k < atomsT.length:=by omega
 have d2:decide ((atomsT.length:Int) ≤ (k:Int)) = false:=decide_eq_false (by omega)
 have d2':¬ atomsT.length ≤ k:=by omega
 have hm0:((atomsT.flatMap (acs .shared)).drop (k * 12 + 5)).take 1 = [.bool (metricT k)]:=by
  have:metricT k = atomsT[k].metric:=by simp [metricT,hk]
  rw [this,fm_at (acs_len .shared) hk (by omega)]
  rfl
 have hlA:(atomsT.flatMap (acs .shared)).length = atomsT.length * 12:=fm_len (acs_len .shared) _
 have hx1:k * 12 < atomsT.length * 12:=by omega
 have hx2:5 < atomsT.length * 12 - k * 12:=by omega
 have hx3:1 ≤ atomsT.length * 12 - (k * 12 + 5):=by omega
 generalize atomsT.flatMap (acs .shared) = cA at *
 by_cases hn:n < -99
 ·have e:symB p k n = false:=by simp [symB]; omega
  rw [e]
  simp [f200,start,StepA.cs,EvCall_closed H.c38 rfl,ht,push_setk,d1,d2',hn]
 have d5:decide (n < -99) = false:=decide_eq_false hn
 by_cases hn2:99 < n
 ·have e:symB p k n = false:=by simp [symB]; omega
  rw [e]
  simp [f200,start,StepA.cs,EvCall_closed H.c38 rfl,ht,push_setk,d1,d2',d5,hn2]
 have d6:decide (99 < n) = false:=decide_eq_false hn2
 have e0:symB p k n = (decide (-1 ≤ p) && (decide (p < prefsT.length) && (p == -1 || metricT k))):=by
  have q1:decide ((0:Int) ≤ (k:Int)) = true:=decide_eq_true (by omega)
  have q2:decide ((k:Int) < (atomsT.length:Int)) = true:=decide_eq_true (by omega)
  have q3:decide (-99 ≤ n) = true:=decide_eq_true (by omega)
  have q4:decide (n ≤ 99) = true:=decide_eq_true (by omega)
  simp only [symB,q1,q2,q3,q4,Bool.true_and]
 rw [e0]
 cases hp:p == -1 with
 | true=>
  have hp':p = -1:=by simpa using hp
  have q1:decide (-1 ≤ p) = true:=decide_eq_true (by omega)
  have q2:decide (p < (prefsT.length:Int)) = true:=decide_eq_true (by omega)
  rw [q1,q2]
  simp [f200,start,StepA.cs,EvCall_closed H.c38 rfl,ht,push_setk,d1,d2',d5,d6,hp]
 | false=>
  have hpn:¬ p = -1:=by simpa using hp
  by_cases hp0:0 ≤ p
  ·have q1:decide (-1 ≤ p) = true:=decide_eq_true (by omega)
   have d3:decide (0 ≤ p) = true:=decide_eq_true hp0
   rw [q1]
   by_cases hp1:p < (prefsT.length:Int)
   ·have d4:decide (p < (prefsT.length:Int)) = true:=decide_eq_true hp1
    rw [d4]
    simp [f200,start,StepA.cs,EvCall_closed H.c38 rfl,ht,push_setk,d1,d2',hp0,d4,d5,d6,hp,hk,hlA,hx1,hx2,hx3,hm0]
   ·have d4:decide (p < (prefsT.length:Int)) = false:=decide_eq_false hp1
    rw [d4]
    simp [f200,start,StepA.cs,EvCall_closed H.c38 rfl,ht,push_setk,d1,d2',hp0,d4,d5,d6,hp]
  ·have q1:decide (-1 ≤ p) = false:=decide_eq_false (by omega)
   have d3:decide (0 ≤ p) = false:=decide_eq_false hp0
   rw [q1]
   simp [f200,start,StepA.cs,EvCall_closed H.c38 rfl,ht,push_setk,d1,d2',hp0,d5,d6,hp]
set_option maxRecDepth 20000 in
set_option maxHeartbeats 4000000 in
theorem may180_gen (H:Has 180 E) (s:StepA):EvClosed E (.fn (.func 180) [] []) [.agg s.cs] = some (.bool (mayB s)):=by
 rw [EvClosed_eq H.c180 rfl (vs:=[.agg s.cs]) (by simp [StepA.cs]),EvFn_eq]
 obtain ⟨o,p,a,n,m,t⟩:=s
 unfold mayB
 by_cases h1:o = 1
 ·subst h1
  cases hm:decide (1 ≤ m) <;> simp [f180,start,StepA.cs,hm]
 by_cases h2:o = 2
 ·subst h2
  have hy:=symbol200_gen (H.to 200) 2 p a n m t
  simp only [StepA.cs] at hy
  cases hs:symB p a n <;> rw [hs] at hy <;> simp [f180,start,StepA.cs,EvCall_closed H.c200 rfl,hy]
 by_cases h3:o = 3∨o = 4∨o = 5
 ·rcases h3 with rfl | rfl | rfl <;> simp [f180,start,StepA.cs]
 by_cases h6:o = 6∨o = 7
 ·have hx:EvClosed E (.fn (.func 202) [] []) [.str t,.fn (.func 201) [] []] = some (.int .i64 (oddAt t)):=by
   rw [EvClosed_ext H.x202 (vs:=[.str t,.fn (.func 201) [] []]) (by simp)]
   rfl
  have hd:=oddAt_lt t
  cases hpr:printB t <;> rw [hpr] at hd <;> rcases h6 with rfl | rfl <;> simp [f180,start,StepA.cs,EvCall_ext H.x202,hx,hd]
 have g1:(o == 1) = false:=by simpa using h1
 have g2:(o == 2) = false:=by simpa using h2
 have g3:(o == 3) = false:=by simp; omega
 have g4:(o == 4) = false:=by simp; omega
 have g5:(o == 5) = false:=by simp; omega
 have g6:(o == 6) = false:=by simp; omega
 have g7:(o == 7) = false:=by simp; omega
 simp [f180,start,StepA.cs,g1,g2,g3,g4,g5,g6,g7,h1,h2,h3,h6]
end Go.Pv
