/- A part of the proof: functions of the program in the evaluator's code, and what they come to. Conditions: none; definitions and theorems that the statement's proof uses. -/
import Derived.Test.YtamopjeecnhfaaaGreatDoorSetwPcEv22
/- Worths turned round. Conditions: none; theorems. -/
namespace Go.Pv
variable {E:Env}
theorem prodL_comm (x y:Lo) (t:Int):prodL x y t = prodL y x t:=by unfold prodL; rw [timesL_comm]
theorem mulF_comm (a b:Fc):mulF a b = mulF b a:=by
 unfold mulF
 rw [prodL_comm (loosen b.num b.den),Int.add_comm b.ten]
 by_cases h:a.num = 0∨b.num = 0
 ·rw [if_pos h,if_pos h.symm]
 ·rw [if_neg h,if_neg (fun h'=>h h'.symm)]
theorem addD_comm:∀ (a b:List Int),addD a b = addD b a
 | [],[]=>rfl
 | [],_ :: _=>rfl
 | _ :: _,[]=>rfl
 | x :: a,y :: b=>by
  have:=addD_comm a b
  simp only [addD,List.zipWith_cons_cons] at this ⊢
  rw [this,Int.add_comm]
theorem mulW_comm (a b:Wo):mulW a b = mulW b a:=by
 unfold mulW
 rw [mulF_comm,addD_comm,Bool.or_comm]
theorem formL_shift (s two five m ten:Int) (p q:Nat):formL ⟨s,p,q,two + m,five + m⟩ (ten - m) = formL ⟨s,p,q,two,five⟩ ten:=by
 have e:min (two + m) (five + m) = min two five + m:=by omega
 unfold formL formN
 dsimp only
 rw [e,show two + m - (min two five + m) = two - min two five by omega,show five + m - (min two five + m) = five - min two five by omega,show ten - m + (min two five + m) = ten + min two five by omega]
theorem formL_self {f:Fc} (hf:FcOk f) (h0:f.num ≠ 0):formL (loosen f.num f.den) f.ten = some f:=by
 have e3:two5 f.den = (0,0,f.den):=by
  have:=two5_is (a:=0) (b:=0) hf.d2 hf.d5 (by simp; have:=hf.dt; omega)
  simpa using this
 have A:=two5_spec (n:=f.num.natAbs) (by omega) hf.nt
 have hz:=loosen_z hf h0
 have e1:(loosen f.num f.den).two = ((two5 f.num.natAbs).1:Int):=by unfold loosen; dsimp only; rw [Int.natAbs_natCast,e3]; simp
 have e2:(loosen f.num f.den).five = ((two5 f.num.natAbs).2.1:Int):=by unfold loosen; dsimp only; rw [Int.natAbs_natCast,e3]; simp
 have hco:=hf.co h0
 have hm:(two5 f.num.natAbs).2.2 ∣ f.num.natAbs:=by
  conv=>rhs; rw [A.eq]
  exact Nat.dvd_trans (Nat.dvd_mul_left _ _) (Nat.dvd_mul_left _ _)
 have hg:Nat.gcd (two5 f.num.natAbs).2.2 f.den = 1:=Nat.Coprime.coprime_dvd_left hm hco
 have e4:(loosen f.num f.den).p = (two5 f.num.natAbs).2.2:=by unfold loosen; dsimp only; rw [Int.natAbs_natCast,e3,hg,Nat.div_one]
 have e5:(loosen f.num f.den).q = f.den:=by unfold loosen; dsimp only; rw [Int.natAbs_natCast,e3,hg,Nat.div_one]
 have e6:(loosen f.num f.den).s = f.num.sign:=by
  have:((f.den:Nat):Int).sign = 1:=Int.sign_eq_one_of_pos (by have:=hf.d0; omega)
  unfold loosen; dsimp only; rw [this,Int.mul_one]
 have hmin:min (loosen f.num f.den).two (loosen f.num f.den).five = 0:=by omega
 have hN:formN (loosen f.num f.den) = f.num.natAbs:=by
  unfold formN
  rw [hmin,e4,e1,e2,Int.sub_zero,Int.sub_zero,Int.toNat_natCast,Int.toNat_natCast]
  conv=>rhs; rw [A.eq]
  ac_rfl
 unfold formL
 rw [hmin,hN,e5,e6,Int.add_zero,if_pos ⟨hf.nt,hf.t0,hf.t1⟩,Int.sign_mul_natAbs]
theorem one_lo:loosen 1 ((1:Nat):Int) = ⟨1,1,1,0,0⟩:=by decide
theorem timesL_one {y:Lo} (hy:LoOk y):timesL ⟨1,1,1,0,0⟩ y = some y:=by
 unfold timesL
 dsimp only
 simp [hy.pt,hy.qt]
theorem div_one {f:Fc} (hf:FcOk f):divF oneF f = if f.num = 0 then .error 11 else overE (formL (invL (loosen f.num f.den)) (0 - f.ten)):=by
 unfold divF
 by_cases h:f.num = 0
 ·rw [if_pos h,if_pos h]
 ·rw [if_neg h,if_neg h]
  show (if (1:Int) = 0 then _ else prodL (loosen 1 ((1:Nat):Int)) _ _) = _
  rw [if_neg (by decide),one_lo]
  unfold prodL
  rw [timesL_one (invL_ok (loosen_ok h (by have:=hf.d0; omega) hf.nt (by have:=hf.dt; omega)).1)]
  rfl
theorem div_div {f g:Fc} (hf:FcOk f) (h:divF oneF f = .ok g):divF oneF g = .ok f:=by
 rw [div_one hf] at h
 by_cases h0:f.num = 0
 ·rw [if_pos h0] at h; cases h
 ·rw [if_neg h0] at h
  cases hx:formL (invL (loosen f.num f.den)) (0 - f.ten) with
  | none=>rw [hx] at h; cases h
  | some g'=>
   rw [hx] at h
   cases h
   have ok:=(loosen_ok (n:=f.num) (d:=(f.den:Int)) h0 (by have:=hf.d0; omega) hf.nt (by have:=hf.dt; omega)).1
   obtain ⟨e1,e2⟩:=loosen_form (invL_ok ok) hx
   obtain ⟨g1,g2⟩:=formL_ok (invL_ok ok) hx
   rw [div_one g1,if_neg g2,e1,e2]
   generalize hl:loosen f.num f.den = x at *
   have e3:invL ⟨(invL x).s,(invL x).p,(invL x).q,(invL x).two - min (invL x).two (invL x).five,(invL x).five - min (invL x).two (invL x).five⟩ = ⟨x.s,x.p,x.q,x.two + min (-x.two) (-x.five),x.five + min (-x.two) (-x.five)⟩:=by
    simp only [invL,Lo.mk.injEq,true_and]
    omega
   rw [e3]
   have e4:0 - (0 - f.ten + min (invL x).two (invL x).five) = f.ten - min (-x.two) (-x.five):=by simp only [invL]; omega
   rw [e4,formL_shift]
   have:=formL_self hf h0
   rw [hl] at this
   show overE (formL x f.ten) = _
   rw [this]; rfl
theorem subD_sub:∀ (d:List Int) (n:Nat),d.length = n→subD (List.replicate n 0) (subD (List.replicate n 0) d) = d
 | [],0,_=>rfl
 | x :: d,n + 1,h=>by
  have:=subD_sub d n (by simpa using h)
  simp only [subD,List.replicate_succ,List.zipWith_cons_cons] at this ⊢
  rw [this]
  congr 1
  omega
theorem inv_inv {b w:Wo} (hb:WoOk b) (h:divW oneW b = .ok w):divW oneW w = .ok b:=by
 obtain ⟨h1,h2,h3,h4,h5⟩:=putR_ok h
 obtain ⟨f,d,tag⟩:=b
 obtain ⟨g,d',tag'⟩:=w
 dsimp only at *
 subst h5
 have ht:tag = 0:=by simp at h1; exact h1.2
 subst ht
 have hg:=div_div hb.f h2
 have hd:subD d0 d' = d:=by rw [h3]; exact subD_sub d 7 hb.len
 unfold divW putR
 dsimp only
 rw [show oneW.f = oneF from rfl,hg,show oneW.d = d0 from rfl,hd]
 have:=hb.d
 dsimp only at this
 simp [this,oneW]
theorem draw1_val1 {cc:AV→List AV→Option AV} {o:SOper} {F:Fr} {h:AHeap}:evDraw1 E cc o F h = (val1 E cc o F h).map fun p=>(F.put o.dst p.1,p.2):=by
 unfold evDraw1 val1
 split
 ·rfl
 ·rfl
 ·split
  ·simp [Option.map_map,Function.comp_def]
  ·rfl
theorem StP_zero {cc:AV→List AV→Option AV}:∀ (ops:List (SOper × Nat)) (F:Fr) (h:AHeap) (r:Fr × AHeap),ops.all (fun p=>p.2 == 0) = true→evDraw E cc (ops.map (·.1)) F h = some r→StP E cc ops [] F h r
 | [],F,h,r,_,hd=>by
  simp only [List.map_nil,evDraw] at hd
  cases hd; rfl
 | (o,k) :: ops,F,h,r,hz,hd=>by
  simp only [List.all_cons,Bool.and_eq_true,beq_iff_eq] at hz
  obtain ⟨rfl,hz⟩:=hz
  simp only [List.map_cons,evDraw,draw1_val1] at hd
  cases hv:val1 E cc o F h with
  | none=>rw [hv] at hd; cases hd
  | some p=>
   rw [hv] at hd
   refine ⟨p.1,p.2,hv,fun _ q hq=>(by cases hq),?_⟩
   have hp:nextP E o 0 F p.1 [] = []:=by unfold nextP; split <;> simp
   rw [hp]
   exact StP_zero ops _ _ r hz hd
theorem stored_zero {ops:List (SOper × Nat)} {F:Fr} {h:AHeap} (hz:ops.all (fun p=>p.2 == 0) = true):EvCode E (.stored ops) F h = match evDraw E (EvClosed E) (ops.map (·.1)) F h with | none=>none | some p=>some (.normal,p.1,p.2):=by
 rw [EvCode_stored]
 unfold evStored
 cases hd:evDraw E (EvClosed E) (ops.map (·.1)) F h with
 | none=>rfl
 | some p=>exact if_pos (StP_zero ops F h p hz hd)
end Go.Pv
/- The law EvalTurned. Conditions: the functions' codes; theorems. -/
namespace Go.Pv
variable {E:Env}
set_option maxRecDepth 20000 in
set_option maxHeartbeats 8000000 in
theorem evalTurned_eq (H:Has 276 E) {va vb:AV} {La Lb:List Int} (hva:IntsV va La) (hvb:IntsV vb Lb):EvClosed E (.fn (.func 276) [] []) [va,vb] = some (.bool true):=by
 obtain ⟨va',sva,hva'⟩:=ints_shut hva
 obtain ⟨vb',svb,hvb'⟩:=ints_shut hvb
 rw [EvClosed_eq H.c276 rfl (vs:=[va',vb']) (by simp [sva,svb]),EvFn_eq]
 have haw:=awake278_eq (H.to 278)
 have hma:=made_eq (H.to 163) hva'
 have hmb:=made_eq (H.to 163) hvb'
 obtain ⟨a1,a2,a3⟩:=madeT_ok La
 obtain ⟨b1,b2,b3⟩:=madeT_ok Lb
 have pa:=Tr.steps_pos (madeT La)
 have pb:=Tr.steps_pos (madeT Lb)
 obtain ⟨oa,hoa⟩:=vs_S (madeT La)
 obtain ⟨ob,hob⟩:=vs_S (madeT Lb)
 rw [hoa] at hma
 rw [hob] at hmb
 generalize madeT La = ta at *
 generalize madeT Lb = tb at *
 clear hoa hob
 have qa:=eval_S (H.to 283) a1 a2 a3 oa
 have qb:=eval_S (H.to 283) b1 b2 b3 ob
 have Ra:=rs_g (evalT_wo a1 a2)
 have Rb:=rs_g (evalT_wo b1 b2)
 rw [Ra.rs] at qa
 rw [Rb.rs] at qb
 have w1:IntKind.i64.wrap ((ta.steps.length:Int) + (tb.steps.length:Int)) = (ta.steps.length:Int) + (tb.steps.length:Int):=w64
 obtain ⟨c1,c2⟩:=cells_S ta.steps
 obtain ⟨c3,c4⟩:=cells_S tb.steps
 by_cases hl:ta.steps.length + tb.steps.length ≤ 250∧(∃ a,evalT ta = .ok a)∧∃ b,evalT tb = .ok b
 ·obtain ⟨hl,⟨a,ha⟩,b,hb⟩:=hl
  have d1:decide ((250:Int) < (ta.steps.length:Int) + (tb.steps.length:Int)) = false:=decide_eq_false (by omega)
  have n1:TrOk (.bin 3 ta tb):=.bin 3 ta tb (.inl rfl) a1 b1
  have n2:TrOk (.bin 3 tb ta):=.bin 3 tb ta (.inl rfl) b1 a1
  have n3:TrOk (.inv tb):=.inv tb b1
  have n4:TrOk (.inv (.inv tb)):=.inv _ n3
  have q1:=eval_S (H.to 283) n1 ⟨a2,b2⟩ (by simp [Tr.steps]; omega) (.tok 0 6)
  have q2:=eval_S (H.to 283) n2 ⟨b2,a2⟩ (by simp [Tr.steps]; omega) (.tok 1 6)
  have q4:=eval_S (H.to 283) n4 b2 (by simp [Tr.steps]; omega) (.tok 2 6)
  have q3:=eval_S (H.to 283) n3 b2 (by simp [Tr.steps]; omega) (.tok 3 6)
  have R1:=rs_g (evalT_wo n1 ⟨a2,b2⟩)
  have R3:=rs_g (evalT_wo n3 b2)
  have R4:=rs_g (evalT_wo n4 b2)
  have f1:evalT (.bin 3 tb ta) = evalT (.bin 3 ta tb):=by
   show ((match evalT tb with | .error e=>.error e | .ok b=>match evalT ta with | .error e=>.error e | .ok a=>mulW b a):Except Int Wo) = (match evalT ta with | .error e=>.error e | .ok a=>match evalT tb with | .error e=>.error e | .ok b=>mulW a b)
   rw [ha,hb]
   exact mulW_comm b a
  have F:(eW (evalT (.inv tb)) ≠ 0∧eW (evalT (.inv (.inv tb))) = eW (evalT (.inv tb)))∨(eW (evalT (.inv tb)) = 0∧eW (evalT (.inv (.inv tb))) = 0∧lW (evalT (.inv (.inv tb))) = lW (evalT tb)):=by
   have e1:evalT (.inv tb) = divW oneW b:=by
    show (match evalT tb with | .ok w=>divW oneW w | .error e=>.error e) = _
    rw [hb]
   have e2:evalT (.inv (.inv tb)) = match divW oneW b with | .ok w=>divW oneW w | .error e=>.error e:=by
    show (match evalT (.inv tb) with | .ok w=>divW oneW w | .error e=>.error e) = _
    rw [e1]
   rw [e2,e1,hb]
   cases hw:divW oneW b with
   | error e=>exact .inl ⟨divW_ne hw,rfl⟩
   | ok w=>
    right
    dsimp only
    rw [inv_inv (evalT_wo b1 b2 b hb) hw]
    exact ⟨rfl,rfl,rfl⟩
  have s1:(Tr.bin 3 ta tb).steps.length = ta.steps.length + tb.steps.length + 1∧(Tr.bin 3 ta tb).steps.flatMap StepA.cs = ta.steps.flatMap StepA.cs++tb.steps.flatMap StepA.cs++[.int .i64 3,.int .i64 (-1),.int .i64 0,.int .i64 0,.int .i64 0,.str []]:=by simp [Tr.steps,StepA.cs,stepO]; omega
  have s2:(Tr.bin 3 tb ta).steps.length = tb.steps.length + ta.steps.length + 1∧(Tr.bin 3 tb ta).steps.flatMap StepA.cs = tb.steps.flatMap StepA.cs++ta.steps.flatMap StepA.cs++[.int .i64 3,.int .i64 (-1),.int .i64 0,.int .i64 0,.int .i64 0,.str []]:=by simp [Tr.steps,StepA.cs,stepO]; omega
  have s3:(Tr.inv tb).steps.length = tb.steps.length + 1∧(Tr.inv tb).steps.flatMap StepA.cs = tb.steps.flatMap StepA.cs++[.int .i64 5,.int .i64 (-1),.int .i64 0,.int .i64 0,.int .i64 0,.str []]:=by simp [Tr.steps,StepA.cs,stepO]
  have s4:(Tr.inv (.inv tb)).steps.length = tb.steps.length + 2∧(Tr.inv (.inv tb)).steps.flatMap StepA.cs = tb.steps.flatMap StepA.cs++[.int .i64 5,.int .i64 (-1),.int .i64 0,.int .i64 0,.int .i64 0,.str [],.int .i64 5,.int .i64 (-1),.int .i64 0,.int .i64 0,.int .i64 0,.str []]:=by simp [Tr.steps,StepA.cs,stepO]
  rw [s1.1,s1.2,List.append_assoc] at q1
  rw [s2.1,s2.2,List.append_assoc,f1] at q2
  rw [s3.1,s3.2] at q3
  rw [s4.1,s4.2] at q4
  have ea0:eW (evalT ta) = 0:=by rw [ha]; rfl
  have eb0:eW (evalT tb) = 0:=by rw [hb]; rfl
  rw [ea0] at qa
  rw [eb0] at qb
  clear n1 n2 n3 n4 s1 s2 s3 s4 a1 a2 a3 b1 b2 b3 f1 ha hb
  generalize evalT (.bin 3 ta tb) = r1 at *
  generalize evalT (.inv (.inv tb)) = r4 at *
  generalize evalT (.inv tb) = r3 at *
  generalize evalT ta = ra at *
  generalize evalT tb = rb at *
  generalize ta.steps.flatMap StepA.cs = ca at *
  generalize tb.steps.flatMap StepA.cs = cb at *
  generalize ta.steps.length = ma at *
  generalize tb.steps.length = mb at *
  rw [R1.rs] at q1 q2
  rw [R3.rs] at q3
  rw [R4.rs] at q4
  have cab:(ca++cb).length = (ma + mb) * 6:=by rw [List.length_append]; omega
  have cba:(cb++ca).length = (mb + ma) * 6:=by rw [List.length_append]; omega
  have u1:=fun (h:AHeap)=>apS_new (h:=h) (own:=oa) c1 pa (by omega) c2
  have u2:=fun (h:AHeap)=>apS_more (h:=h) (own:=ob) (k:=0) c1 c3 pb (by omega) c4
  have u3:=fun (h:AHeap)=>apS_new (h:=h) (own:=ob) c3 pb (by omega) c4
  have u4:=fun (h:AHeap)=>apS_more (h:=h) (own:=oa) (k:=1) c3 c1 pa (by omega) c2
  have u5:=fun (h:AHeap) (xs:List AV) (hx:xs.length = 6) (hc:xs.all AV.isCell = true)=>apS_more (h:=h) (own:=.full) (k:=0) (n:=1) (xs:=xs) cab hx (by omega) (by omega) hc
  have u6:=fun (h:AHeap) (xs:List AV) (hx:xs.length = 6) (hc:xs.all AV.isCell = true)=>apS_more (h:=h) (own:=.full) (k:=1) (n:=1) (xs:=xs) cba hx (by omega) (by omega) hc
  have u7:=fun (h:AHeap) (xs:List AV) (hx:xs.length = 12) (hc:xs.all AV.isCell = true)=>apS_more (h:=h) (own:=.full) (k:=2) (n:=2) (xs:=xs) c3 hx (by omega) (by omega) hc
  have u8:=fun (h:AHeap) (xs:List AV) (hx:xs.length = 6) (hc:xs.all AV.isCell = true)=>apS_more (h:=h) (own:=.full) (k:=3) (n:=1) (xs:=xs) c3 hx (by omega) (by omega) hc
  obtain ⟨-,-,l1,x1,t1,z1,y1,-,-,-,-⟩:=R1
  obtain ⟨-,-,l3,x3,t3,z3,y3,-,-,-,-⟩:=R3
  obtain ⟨-,-,l4,x4,t4,z4,y4,-,-,-,-⟩:=R4
  obtain ⟨-,-,la,xa,ta',za,ya,-,-,-,-⟩:=Ra
  obtain ⟨-,-,lb,xb,tb',zb,yb,-,-,-,-⟩:=Rb
  generalize eW r1 = i1 at *
  generalize eW r3 = i3 at *
  generalize eW r4 = i4 at *
  generalize iC (lW r1) = v1 at *
  generalize iC (lW r3) = v3 at *
  generalize iC (lW ra) = va at *
  rcases F with ⟨h3,h4⟩ | ⟨h3,h4,h5⟩
  ·subst h4
   generalize iC (lW r4) = v4 at *
   generalize iC (lW rb) = vb at *
   have h3':(i4 != 0) = true:=by simpa using h3
   have h3e:(i4 == 0) = false:=by simpa using h3
   simp (maxSteps:=1000000) [-EvCode_stored,-evStored,stored_zero,f276,start,EvCall_closed H.c278 rfl,EvCall_closed H.c163 rfl,EvCall_closed H.c283 rfl,haw,hma,hmb,w1,d1,qa,qb,q1,q2,q3,q4,u1,u2,u3,u4,u5,u6,u7,u8,toksS_get,push_toksS,pushS_tk,ro_toks,blks_toks,tk_toks,rot_toks,toks_toks,push_setk,l1,x1,t1,z1,y1,l3,x3,z3,l4,x4,z4,la,xa,za,lb,xb,zb,h3']
  ·subst h3
   subst h4
   rw [h5] at *
   generalize iC (lW rb) = vb at *
   simp (maxSteps:=1000000) [-EvCode_stored,-evStored,stored_zero,f276,start,EvCall_closed H.c278 rfl,EvCall_closed H.c163 rfl,EvCall_closed H.c283 rfl,haw,hma,hmb,w1,d1,qa,qb,q1,q2,q3,q4,u1,u2,u3,u4,u5,u6,u7,u8,toksS_get,push_toksS,pushS_tk,ro_toks,blks_toks,tk_toks,rot_toks,toks_toks,push_setk,l1,x1,t1,z1,y1,l3,x3,z3,la,xa,za,lb,xb,tb',zb,yb]
 ·have hd:decide ((250:Int) < (ta.steps.length:Int) + (tb.steps.length:Int)) = true∨(decide ((250:Int) < (ta.steps.length:Int) + (tb.steps.length:Int)) = false∧((eW (evalT ta) != 0) = true∨(eW (evalT ta) = 0∧(eW (evalT tb) != 0) = true))):=by
   by_cases h1:ta.steps.length + tb.steps.length ≤ 250
   ·right
    refine ⟨decide_eq_false (by omega),?_⟩
    cases hra:evalT ta with
    | error e=>left; have:=evalT_ne hra; show (e != 0) = true; simpa using this
    | ok a=>
     right
     cases hrb:evalT tb with
     | error e=>have:=evalT_ne hrb; exact ⟨rfl,by show (e != 0) = true; simpa using this⟩
     | ok b=>exact absurd ⟨h1,⟨a,hra⟩,b,hrb⟩ hl
   ·exact .inl (decide_eq_true (by omega))
  obtain ⟨-,-,la,xa,ta',za,ya,-,-,-,-⟩:=Ra
  obtain ⟨-,-,lb,xb,tb',zb,yb,-,-,-,-⟩:=Rb
  clear a1 a2 a3 b1 b2 b3 hl
  generalize eW (evalT ta) = ea at *
  generalize eW (evalT tb) = eb at *
  generalize iC (lW (evalT ta)) = va at *
  generalize iC (lW (evalT tb)) = vb at *
  generalize ta.steps.flatMap StepA.cs = ca at *
  generalize tb.steps.flatMap StepA.cs = cb at *
  generalize ta.steps.length = ma at *
  generalize tb.steps.length = mb at *
  have h1:True:=trivial
  rcases hd with d1 | ⟨d1,h1 | ⟨rfl,h1⟩⟩ <;> simp (maxSteps:=1000000) [-EvCode_stored,-evStored,f276,start,EvCall_closed H.c278 rfl,EvCall_closed H.c163 rfl,EvCall_closed H.c283 rfl,haw,hma,hmb,w1,d1,qa,qb,la,xa,za,lb,xb,zb,h1,push_setk]
end Go.Pv
