/- A part of the proof: functions of the program in the evaluator's code, and what they come to. Conditions: none; definitions and theorems that the statement's proof uses. -/
import Derived.Test.YteiaohbhlapklaaGreatDoorSettPcEnds
import Derived.Test.YteiaohbhlapklaaGreatDoorSettPcPrint14
import Derived.Test.YteiaohbhlapklaaGreatDoorSettPcMay2
import Derived.Test.YteiaohbhlapklaaGreatDoorSettPv21
import Derived.ChangeSame
/- A tree's first step that can't be told. Conditions: the functions' codes; theorems. -/
namespace Go.Pv
variable {E:Env} {x:Int}
theorem miss_at {t:List StepA}:∀ {i j:Nat} {e:Int},missD x t i = some (j,e)→i ≤ j∧∃ s,t[j - i]? = some s∧badD x s = some e:=by
 induction t with
 | nil=>intro i j e h; cases h
 | cons s r ih=>
  intro i j e h
  simp only [missD] at h
  split at h
  ·rename_i e' he
   cases h
   exact ⟨Nat.le_refl _,s,by simp,he⟩
  ·obtain ⟨h1,s',h2,h3⟩:=ih h
   refine ⟨by omega,s',?_,h3⟩
   rw [show j - i = (j - (i + 1)) + 1 by omega,List.getElem?_cons_succ]
   exact h2
theorem bad_16 {s:StepA} (h:badD x s = some 16):s.op = 2∧toldD x s.pfx s.atom = false:=by
 unfold badD at h
 split at h
 ·rename_i h1
  simpa using h1
 ·split at h <;> cases h
inductive MissAt (x:Int) (t:Tr):Nat→Int→Prop where
 | note (j:Nat) (o:Int) (w:List UInt8):t.steps[j]? = some ⟨o,-1,0,0,0,w⟩→o = 6∨o = 7→w.length < 1000000→plain x w = false→MissAt x t j 17
 | sym (j:Nat) (p a n:Int):t.steps[j]? = some ⟨2,p,a,n,0,[]⟩→TrOk (.sym p a n)→printD x (.sym p a n) = ([],0,16)→MissAt x t j 16
end Go.Pv
/- What is told is printed; the reference's printer. Conditions: the functions' codes; theorems. -/
namespace Go.Pv
variable {E:Env} {x:Int}
theorem ref236_eq (H:Has 236 E) (hn:isN x = true) {t:Tr} (ht:TrOk t) (hf:t.fits) (hl:t.steps.length ≤ 255) {v:AV} (hv:TreeV v t.steps):EvClosed E (.fn (.func 236) [] []) [.int .i64 x,v] = some (.agg (prtV (printD x t).1 (printD x t).2.1 (printD x t).2.2)):=by
 obtain ⟨v',sv,hv'⟩:=tree_shut hv
 rw [EvClosed_eq H.c236 rfl (vs:=[.int .i64 x,v']) (by simp [sv]),EvFn_eq]
 have hp:=print_eq (H.to 162) hn ht hf hl hv'
 simp only [prtV] at hp ⊢
 simp [f236,start,EvCall_closed H.c162 rfl,hp,push_setk]
end Go.Pv
/- What symbols are called. Conditions: the functions' codes; theorems. -/
namespace Go.Pv
variable {E:Env} {x:Int} {h:AHeap}
set_option maxRecDepth 20000 in
set_option maxHeartbeats 2000000 in
theorem symbol249_nil (H:Has 249 E) (hn:isN x = true) {p a n:Int} (ht:TrOk (.sym p a n)) (hd:symD x p a = []):EvClosed E (.fn (.func 249) [] []) [.int .i64 x,.agg (StepA.cs ⟨2,p,a,n,0,[]⟩)] = some (.str []):=by
 rw [EvClosed_eq H.c249 rfl (vs:=[.int .i64 x,.agg (StepA.cs ⟨2,p,a,n,0,[]⟩)]) (by simp [StepA.cs]),EvFn_eq]
 cases ht with
 | sym _ _ _ a0 a1 p0 p1 n0 n1 hm=>
  have ho:=of_eq (H.to 44) x
  rw [hn] at ho
  have hs:=sound168_eq (H.to 168) (v:=.vs .full 1 (StepA.cs ⟨2,p,a,n,0,[]⟩)) (t:=.sym p a n) (.sym p a n a0 a1 p0 p1 n0 n1 hm) (.inr ⟨.full,by simp [Tr.steps]⟩) (by simp [Tr.steps])
  have hx:=symText256_eq (H.to 256) hn p0 p1 a0 a1
  rw [hd] at hx
  simp only [Sty.cs,StepA.cs] at ho hs ⊢
  simp [f249,start,EvCall_closed H.c44 rfl,EvCall_closed H.c168 rfl,EvCall_closed H.c256 rfl,ho,hs,hx,push_setk]
theorem symbol249_not (H:Has 249 E) (hn:isN x = true) {s:StepA} (hs:s.op ≠ 2):EvClosed E (.fn (.func 249) [] []) [.int .i64 x,.agg s.cs] = some (.str []):=by
 rw [EvClosed_eq H.c249 rfl (vs:=[.int .i64 x,.agg s.cs]) (by simp [StepA.cs]),EvFn_eq]
 have ho:=of_eq (H.to 44) x
 rw [hn] at ho
 have h2:(s.op != 2) = true:=by simpa using hs
 simp only [Sty.cs,StepA.cs] at ho ⊢
 simp [f249,start,EvCall_closed H.c44 rfl,ho,h2,push_setk]
def nameS (s:StepA):List UInt8:=if s.op = 2 then symD 1 s.pfx s.atom else []
theorem name246_eq (H:Has 246 E) {s:StepA} (hs:StepOk s):EvClosed E (.fn (.func 246) [] []) [.agg s.cs] = some (.str (nameS s)):=by
 rw [EvClosed_eq H.c246 rfl (vs:=[.agg s.cs]) (by simp [StepA.cs]),EvFn_eq]
 by_cases h2:s.op = 2
 ·cases hs with
  | num n h1=>cases h2
  | op o ho=>simp only at h2; rcases ho with rfl | rfl | rfl <;> cases h2
  | text o t ho _ _=>simp only at h2; rcases ho with rfl | rfl <;> cases h2
  | sym p a n a0 a1 p0 p1 n0 n1 hm=>
   have hx:=symText256_eq (x:=1) (H.to 256) rfl p0 p1 a0 a1
   by_cases hd:symD 1 p a = []
   ·have h1:=symbol249_nil (x:=1) (H.to 249) rfl (.sym p a n a0 a1 p0 p1 n0 n1 hm) hd
    simp only [StepA.cs,nameS,if_true] at h1 ⊢
    rw [hd]
    simp [f246,start,EvCall_closed H.c249 rfl,h1]
   ·have h1:=symbol249_eq (x:=1) (H.to 249) rfl (.sym p a n a0 a1 p0 p1 n0 n1 hm) hd
    have hd':(symD 1 p a++powT (sty 1) n == []) = false:=by
     cases hq:symD 1 p a with
     | nil=>exact absurd hq hd
     | cons c r=>rfl
    simp only [StepA.cs,nameS,if_true] at h1 hx ⊢
    generalize symD 1 p a++powT (sty 1) n = w at *
    generalize symD 1 p a = u at *
    simp [f246,start,EvCall_closed H.c249 rfl,EvCall_closed H.c256 rfl,h1,hx,hd']
 ·have h1:=symbol249_not (x:=1) (H.to 249) rfl h2
  have e:nameS s = []:=by simp [nameS,h2]
  rw [e]
  simp only [StepA.cs] at h1 ⊢
  simp [f246,start,EvCall_closed H.c249 rfl,h1]
theorem name255_sym (H:Has 255 E) {s:StepA} (hs:StepOk s) (h2:s.op = 2):EvClosed E (.fn (.func 255) [] []) [.agg s.cs] = some (.str (nameS s)):=by
 cases hs with
 | num n h1=>cases h2
 | op o ho=>simp only at h2; rcases ho with rfl | rfl | rfl <;> cases h2
 | text o t ho _ _=>simp only at h2; rcases ho with rfl | rfl <;> cases h2
 | sym p a n a0 a1 p0 p1 n0 n1 hm=>
  rw [EvClosed_eq H.c255 rfl (vs:=[.agg (StepA.cs ⟨2,p,a,n,0,[]⟩)]) (by simp [StepA.cs]),EvFn_eq]
  have hx:=text205_eq (x:=1) (H.to 205) rfl p0 p1 a0 a1
  have hy:=may182_sym (H.to 182) p a n
  have hb:symB p a n = true:=by
   simp only [symB,Bool.and_eq_true,decide_eq_true_eq,Bool.or_eq_true,beq_iff_eq]
   exact ⟨a0,a1,p0,p1,n0,n1,hm⟩
  rw [hb] at hy
  simp only [StepA.cs,nameS,if_true] at hy hx ⊢
  simp [f255,start,EvCall_closed H.c182 rfl,EvCall_closed H.c205 rfl,hx,hy]
structure TellR where
 text:List UInt8
 err:Int
 pos:Int
 name:List UInt8
def TellR.cs (r:TellR):List AV:=[.str r.text,.int .i64 r.err,.int .i64 r.pos,.str r.name]
def nameAt (t:List StepA) (i:Nat):List UInt8:=match t[i]? with | some s=>nameS s | none=>[]
def tellT (b:Int) (tr:Tr):TellR:=⟨(printD b tr).1,(printD b tr).2.2,(printD b tr).2.1,if (printD b tr).2.2 = 16 then nameAt tr.steps (printD b tr).2.1 else []⟩
structure ParsedT (a:Int) (s:List UInt8) (tr:Tr):Prop where
 n:isN a = true
 eq:tr.steps = (parseP a s).tree
 err:(parseP a s).err = 0
 ok:TrOk tr
 fits:tr.fits
 told:tr.told a
 deep:tr.deep ≤ 32
 len:(ptext a tr).length ≤ s.length
 brks:tr.brks ≤ leftC (lexS a s).1
 short:s.length ≤ 255
 few:tr.steps.length ≤ 255
theorem parse_ps {a:Int} (hn:isN a = true) {s:List UInt8} (he:(parseP a s).err = 0):∃ tr,ParsedT a s tr:=by
 obtain ⟨tr,h1,h2,h3,h4,h5,h6,h7,h8,h9⟩:=parse_short hn he
 exact ⟨tr,hn,h1,he,h2,h3,h4,h5,h6,h7,h8,h9⟩
inductive TellIs (a b:Int) (s:List UInt8):TellR→Prop
 | arg:(isN a && isN b) = false→TellIs a b s ⟨[],1,0,[]⟩
 | bad:isN a = true→isN b = true→(parseP a s).err ≠ 0→TellIs a b s ⟨[],(parseP a s).err,(parseP a s).pos,[]⟩
 | told (tr:Tr):isN b = true→ParsedT a s tr→TellIs a b s (tellT b tr)
theorem tell_is (a b:Int) (s:List UInt8):∃ r,TellIs a b s r:=by
 cases h:isN a && isN b with
 | false=>exact ⟨_,.arg h⟩
 | true=>
  rw [Bool.and_eq_true] at h
  by_cases he:(parseP a s).err = 0
  ·obtain ⟨tr,P⟩:=parse_ps h.1 he
   exact ⟨_,.told tr h.2 P⟩
  ·exact ⟨_,.bad h.1 h.2 he⟩
end Go.Pv
/- A text in another notation: what the program's and the reference's functions come to. Conditions: the functions' codes; theorems. -/
namespace Go.Pv
variable {E:Env} {x:Int} {h:AHeap}
theorem isN_of {n:Int}:isN n = (decide (1 ≤ n) && decide (n ≤ 5)):=rfl
set_option maxHeartbeats 1000000 in
theorem is253_eq (H:Has 253 E) (a b:Int):EvClosed E (.fn (.func 253) [] []) [.vs .full 2 [.int .i64 a,.int .i64 b]] = some (.bool (isN a && isN b)):=by
 rw [EvClosed_eq H.c253 rfl (vs:=[.vs .full 2 [.int .i64 a,.int .i64 b]]) (by simp),EvFn_eq]
 have w1:IntKind.i64.wrap 1 = 1:=w64
 have w2:IntKind.i64.wrap 2 = 2:=w64
 have low:∀ n:Int,decide (n < 1) = !decide (1 ≤ n):=fun n=>by
  by_cases h:1 ≤ n
  ·rw [decide_eq_true h,decide_eq_false (by omega)]; rfl
  ·rw [decide_eq_false h,decide_eq_true (by omega)]; rfl
 have hig:∀ n:Int,decide (5 < n) = !decide (n ≤ 5):=fun n=>by
  by_cases h:n ≤ 5
  ·rw [decide_eq_true h,decide_eq_false (by omega)]; rfl
  ·rw [decide_eq_false h,decide_eq_true (by omega)]; rfl
 simp only [isN_of]
 simp [f253,start]
 rw [EvCode_loop]
 cases ha:decide (1 ≤ a)
 ·simp [l253_0,low,ha]
 ·cases ha5:decide (a ≤ 5)
  ·simp [l253_0,low,hig,ha,ha5]
  ·simp [l253_0,low,hig,ha,ha5,w1]
   rw [EvCode_loop]
   cases hb:decide (1 ≤ b)
   ·simp [low,hb]
   ·cases hb5:decide (b ≤ 5)
    ·simp [low,hig,hb,hb5]
    ·simp [low,hig,hb,hb5,w2]
     rw [EvCode_loop]
     simp
theorem def254_no (H:Has 254 E) {u:AV} {e:Int} {i nm:AV} (hb:h.bl 0 = some (.cells [u,.int .i64 e,i,nm])) (he:e ≠ 16):EvDef E 254 [.ref 0 0,.ref 1 0] none h = some (none,h):=by
 have he':(e == 16) = false:=by simpa using he
 rw [EvDef_eq H.c254]
 simp [f254,startD,hb,he']
theorem def254_yes (H:Has 254 E) {u:AV} {i:Nat} {own:Own} {t:List StepA} {c1 c2 c3:AV} (hro:h.ro = 0) (hb:h.bl 0 = some (.cells [u,.int .i64 16,.int .i64 i,.str []])) (h1:h.bl 1 = some (.cells [.vs own t.length (t.flatMap StepA.cs),c1,c2,c3])) (hi:i < t.length) (hok:StepOk t[i]):
  EvDef E 254 [.ref 0 0,.ref 1 0] none h = some (none,h.setBlk 0 (.cells [u,.int .i64 16,.int .i64 i,.str (nameS t[i])])):=by
 have e6:((t.flatMap StepA.cs).drop (i * 6)).take 6 = t[i].cs:=fm_el StepA.len hi
 have ll:(t.flatMap StepA.cs).length = t.length * 6:=fm_len StepA.len t
 have h6:6 ≤ t.length * 6 - i * 6:=by omega
 have h60:i * 6 < t.length * 6:=by omega
 have hn:=name246_eq (H.to 246) hok
 rw [EvDef_eq H.c254]
 simp only [StepA.cs] at e6 hn
 generalize t.flatMap StepA.cs = ca at *
 generalize nameS t[i] = w at *
 simp [f254,startD,hb,h1,hi,ll,h6,h60,e6,hro,EvCall_closed H.c246 rfl,hn]
end Go.Pv
/- ParseNotes is true. Conditions: the functions' codes; theorems. -/
namespace Go.Pv
variable {E:Env} {x sz:Int}
theorem stepsV_pos {t:List StepA} (h:0 < t.length):∃ own,stepsV t = .vs own t.length (t.flatMap StepA.cs):=by
 cases t with
 | nil=>simp at h
 | cons a t=>exact ⟨_,rfl⟩
def words:List (List UInt8):=[[],[97,32,98],[120],[40,109]]
end Go.Pv
/- A text in another notation: what the program's and the reference's functions come to. Conditions: the functions' codes; theorems. -/
namespace Go.Pv
variable {E:Env} {x a b:Int} {h:AHeap}
theorem print_16 {tr:Tr} (ht:TrOk tr) (h:(printD b tr).2.2 = 16):∃ i,∃ hi:i < tr.steps.length,printD b tr = ([],i,16)∧StepOk tr.steps[i]∧tr.steps[i].op = 2∧toldD b tr.steps[i].pfx tr.steps[i].atom = false:=by
 unfold printD at h ⊢
 cases hm:missD b tr.steps 0 with
 | none=>
  rw [hm] at h
  simp only at h
  split at h
  ·cases h
  ·split at h <;> cases h
 | some ie=>
  obtain ⟨i,e⟩:=ie
  rw [hm] at h
  simp only at h
  subst h
  obtain ⟨_,s,h1,h2⟩:=miss_at hm
  rw [Nat.sub_zero] at h1
  obtain ⟨hi,e⟩:=List.getElem?_eq_some_iff.1 h1
  refine ⟨i,hi,rfl,tr_steps ht _ (List.getElem_mem hi),?_⟩
  rw [e]
  exact bad_16 h2
theorem nameAt_eq {t:List StepA} {i:Nat} (hi:i < t.length):nameAt t i = nameS t[i]:=by simp [nameAt,hi]
set_option maxHeartbeats 4000000 in
set_option maxRecDepth 20000 in
theorem tell244_eq (H:Has 244 E) {s:List UInt8} (hs:s.length < 900000) {r:TellR} (hr:TellIs a b s r):EvClosed E (.fn (.func 244) [] []) [.int .i64 a,.int .i64 b,.str s] = some (.agg r.cs):=by
 rw [EvClosed_eq H.c244 rfl (vs:=[.int .i64 a,.int .i64 b,.str s]) (by simp),EvFn_eq]
 have hi:=is253_eq (H.to 253) a b
 have pe:=parse_eq (H.to 20) a s hs
 cases hr with
 | arg h0=>
  rw [h0] at hi
  simp [f244,start,EvCall_closed H.c253 rfl,hi,TellR.cs,push_setk]
 | bad ha hb he=>
  rw [ha,hb] at hi
  have ct:=stepsV_cell (parseP a s).tree
  have he':((parseP a s).err != 0) = true:=by simpa using he
  simp only [Psd.cs] at pe
  generalize stepsV (parseP a s).tree = tv at *
  generalize (parseP a s).err = e at *
  generalize (parseP a s).pos = ps at *
  simp [f244,start,EvCall_closed H.c253 rfl,EvCall_closed H.c20 rfl,hi,pe,ct,he',TellR.cs,push_setk]
 | told tr hb P=>
  rw [P.n,hb] at hi
  have hp:=print235_eq (H.to 235) hb P.ok P.fits P.few (stepsV_tree _)
  obtain ⟨own,hsv⟩:=stepsV_pos (Tr.steps_pos tr)
  have e1:=P.eq
  have e2:=P.err
  have ct:=stepsV_cell tr.steps
  cases hq:parseP a s with | mk tree err pos len=>
  rw [hq] at pe e1 e2
  simp only at e1 e2
  subst e1 e2
  simp only [Psd.cs] at pe
  simp only [prtT] at hp
  simp only [tellT]
  by_cases h16:(printD b tr).2.2 = 16
  ·obtain ⟨i,hi2,e3,hok,_⟩:=print_16 P.ok h16
   rw [e3] at hp ⊢
   simp only [if_true]
   rw [nameAt_eq hi2]
   have hd:=fun h hro c1 c2 c3 hb h1=>def254_yes (E:=E) (h:=h) (H.to 254) (u:=.str []) (i:=i) (own:=own) (t:=tr.steps) (c1:=c1) (c2:=c2) (c3:=c3) hro hb h1 hi2 hok
   rw [← hsv] at hd
   generalize stepsV tr.steps = tv at *
   generalize nameS tr.steps[i] = nm at *
   simp [f244,start,EvCall_closed H.c253 rfl,EvCall_closed H.c20 rfl,EvCall_closed H.c235 rfl,hi,pe,hp,ct,TellR.cs,push_setk]
   rw [hd _ (by simp) (.int .i64 0) (.int .i64 pos) (.int .i64 len) (by simp) (by simp)]
   simp
  ·rw [if_neg h16]
   generalize (printD b tr).1 = u at *
   generalize (printD b tr).2.1 = i at *
   generalize (printD b tr).2.2 = e at *
   have hd:=fun h hb=>def254_no (E:=E) (h:=h) (H.to 254) (u:=.str u) (e:=e) (i:=.int .i64 i) (nm:=.str []) hb h16
   generalize stepsV tr.steps = tv at *
   simp [f244,start,EvCall_closed H.c253 rfl,EvCall_closed H.c20 rfl,EvCall_closed H.c235 rfl,hi,pe,hp,ct,TellR.cs,push_setk]
   rw [hd _ (by simp)]
   simp
end Go.Pv
/- What is printed, and told, hangs on the steps alone. Conditions: the functions' codes where said; theorems. -/
namespace Go.Pv
variable {E:Env} {x a b c:Int}
theorem TellR.inj {r q:TellR} (h:r.cs = q.cs):r = q:=by
 cases r
 cases q
 simp only [TellR.cs,List.cons.injEq,AV.str.injEq,AV.int.injEq,true_and,and_true] at h
 simp [h]
theorem print_det (H:Has 235 E) (hx:isN x = true) {t u:Tr} (ht:TrOk t) (hu:TrOk u) (ft:t.fits) (fu:u.fits) (e:t.steps = u.steps) (hl:t.steps.length ≤ 255):printD x t = printD x u:=by
 have e1:=print235_eq H hx ht ft hl (stepsV_tree _)
 have e2:=print235_eq H hx hu fu (by rw [← e]; exact hl) (stepsV_tree _)
 rw [e,e2] at e1
 have e3:=Option.some.inj e1
 simp only [prtT,AV.tuple.injEq,List.cons.injEq,AV.str.injEq,AV.int.injEq,true_and,and_true] at e3
 obtain ⟨h1,h2,h3⟩:=e3
 exact Prod.ext h1.symm (Prod.ext (by omega) h3.symm)
theorem tellT_det (H:Has 235 E) (hx:isN x = true) {t u:Tr} (ht:TrOk t) (hu:TrOk u) (ft:t.fits) (fu:u.fits) (e:t.steps = u.steps) (hl:t.steps.length ≤ 255):tellT x t = tellT x u:=by
 unfold tellT
 rw [print_det H hx ht hu ft fu e hl,e]
end Go.Pv
/- The tell laws' small functions, and what can be told. Conditions: the functions' codes; theorems. -/
namespace Go.Pv
variable {E:Env} {x a b:Int} {h:AHeap}
theorem rest242_eq (H:Has 242 E) {x m:Int} (hm:0 < m) (hm2:m < 1000000):EvClosed E (.fn (.func 242) [] []) [.int .i64 x,.int .i64 m] = some (.int .i64 (x % m)):=by
 rw [EvClosed_eq H.c242 rfl (vs:=[.int .i64 x,.int .i64 m]) (by simp),EvFn_eq]
 have h0:m ≠ 0:=by omega
 have hb:-m < x.tmod m∧x.tmod m < m:=⟨Int.lt_tmod_of_pos x hm,Int.tmod_lt_of_pos x hm⟩
 have hw:IntKind.i64.wrap (x.tmod m + m) = x.tmod m + m:=w64
 have he:(x.tmod m + m).tmod m = x % m:=by
  have h1:(x.tmod m + m).tmod m = (x.tmod m + m) % m:=Int.tmod_eq_emod_of_nonneg (by omega)
  rw [h1,Int.add_emod_right]
  have h3:x.tmod m = x - m * x.tdiv m:=by have:=Int.mul_tdiv_add_tmod x m; omega
  rw [h3,Int.sub_mul_emod_self_left]
 simp [f242,start,h0,hw,he]
theorem short241_eq (H:Has 241 E) (s:List UInt8) (n:Nat) (_hn:n < 1000000):EvClosed E (.fn (.func 241) [] []) [.str s,.int .i64 n] = some (.str (s.take n)):=by
 rw [EvClosed_eq H.c241 rfl (vs:=[.str s,.int .i64 n]) (by simp),EvFn_eq]
 by_cases h:n < s.length
 ·have d:decide ((n:Int) < (s.length:Int)) = true:=decide_eq_true (by omega)
  have d2:(n:Int) ≤ (s.length:Int):=by omega
  have d3:n ≤ s.length:=by omega
  simp [f241,start,d2,h]
 ·have d:decide ((n:Int) < (s.length:Int)) = false:=decide_eq_false (by omega)
  rw [List.take_of_length_le (by omega)]
  simp [f241,start,h]
theorem text243_eq (H:Has 243 E) (hn:isN x = true) {v:AV} {L:List Int} (hv:IntsV v L):EvClosed E (.fn (.func 243) [] []) [.int .i64 x,v] = some (.str (printD x (madeT L)).1):=by
 obtain ⟨v',sv,hv'⟩:=ints_shut hv
 rw [EvClosed_eq H.c243 rfl (vs:=[.int .i64 x,v']) (by simp [sv]),EvFn_eq]
 have hm:=made_eq (H.to 163) hv'
 obtain ⟨k1,k2,k3⟩:=madeT_ok L
 have hp:=ref236_eq (H.to 236) hn k1 k2 k3 (v:=stepsV (madeT L).steps) (stepsV_tree _)
 have hsc:=stepsV_cell (madeT L).steps
 generalize stepsV (madeT L).steps = w at *
 simp only [prtV] at hp
 simp [f243,start,EvCall_closed H.c163 rfl,EvCall_closed H.c236 rfl,hm,hp]
theorem text_len (L:List Int) (hn:isN x = true):(printD x (madeT L)).1.length ≤ 255:=by
 rcases printD_two hn L with ⟨i,e,h0,_⟩ | ⟨h0,P⟩
 ·rw [h0]; simp
 ·rw [h0]; exact P.len
def awX1:Tr:=.bin 4 (.sym 12 8 1) (.sym (-1) 29 1)
def awX2:Tr:=.sym 12 21 1
theorem awXp1:parseP 1 [109,109,111,108,47,108] = ⟨awX1.steps,0,6,0⟩:=by decide +kernel
theorem awXp2:parseP 1 [109,67,101,108] = ⟨awX2.steps,0,4,0⟩:=by decide +kernel
theorem awXd1:printD 2 awX1 = ([77,77,79,76,47,76],0,0):=by decide +kernel
theorem awXd2:printD 5 awX2 = ([],0,16):=by decide +kernel
theorem awXn:nameAt awX2.steps 0 = [109,67,101,108]:=by decide +kernel
theorem awake240_eq (H:Has 240 E):EvClosed E (.fn (.func 240) [] []) [] = some (.bool true):=by
 rw [EvClosed_eq H.c240 rfl (vs:=[]) (by simp),EvFn_eq]
 obtain ⟨r1,h1⟩:=tell_is 1 2 [109,109,111,108,47,108]
 obtain ⟨r2,h2⟩:=tell_is 1 5 [109,67,101,108]
 have e1:=tell244_eq (H.to 244) (by simp) h1
 have e2:=tell244_eq (H.to 244) (by simp) h2
 have k1:r1.text = [77,77,79,76,47,76]∧r1.err = 0:=by
  cases h1 with
  | arg h0=>cases h0
  | bad _ _ he=>rw [awXp1] at he; exact absurd rfl he
  | told tr hb P=>
   have e:=P.eq
   rw [awXp1] at e
   have hp:=print_det (x:=2) (H.to 235) rfl P.ok (u:=awX1) (by refine .bin 4 _ _ (.inr rfl) (.sym _ _ _ ?_ ?_ ?_ ?_ ?_ ?_ ?_) (.sym _ _ _ ?_ ?_ ?_ ?_ ?_ ?_ ?_) <;> decide) P.fits ⟨trivial,trivial⟩ e P.few
   simp [tellT,hp,awXd1]
 have k2:r2.err = 16∧r2.name = [109,67,101,108]∧r2.pos = 0:=by
  cases h2 with
  | arg h0=>cases h0
  | bad _ _ he=>rw [awXp2] at he; exact absurd rfl he
  | told tr hb P=>
   have e:=P.eq
   rw [awXp2] at e
   have hp:=tellT_det (x:=5) (H.to 235) rfl P.ok (u:=awX2) (by refine .sym _ _ _ ?_ ?_ ?_ ?_ ?_ ?_ ?_ <;> decide) P.fits trivial e P.few
   rw [hp]
   simp [tellT,awXd2,awXn]
 obtain ⟨t1,er1,p1,n1⟩:=r1
 obtain ⟨t2,er2,p2,n2⟩:=r2
 obtain ⟨rfl,rfl⟩:=k1
 obtain ⟨rfl,rfl,rfl⟩:=k2
 simp only [TellR.cs] at e1 e2
 simp [f240,start,EvCall_closed H.c244 rfl,e1,e2,push_setk]
theorem five (n:Int):isN (1 + n % 5) = true∧IntKind.i64.wrap (1 + n % 5) = 1 + n % 5:=by
 have hk:1 ≤ 1 + n % 5∧1 + n % 5 ≤ 5:=by omega
 exact ⟨by simp [isN,hk],w64⟩
end Go.Pv
/- A call's end as a row wants it, where its arguments hold no place. Conditions: none; lemmas. -/
namespace Go.Pv
open Go.RowKit Go.ChangeShapes Go.WideShapes
variable {H:Type} {enc:TypeId × Value→H} {P:Program}
end Go.Pv
