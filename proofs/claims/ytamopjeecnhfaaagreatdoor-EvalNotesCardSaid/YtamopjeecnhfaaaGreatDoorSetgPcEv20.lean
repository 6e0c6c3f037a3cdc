/- A part of the proof: functions of the program in the evaluator's code, and what they come to. Conditions: none; definitions and theorems that the statement's proof uses. -/
import Derived.Test.YtamopjeecnhfaaaGreatDoorSetgPcTree3
/- The laws EvalBases and EvalNotes. Conditions: the functions' codes; theorems. -/
namespace Go.Pv
variable {E:Env}
theorem walk_tree {t:Tr} (ht:TrOk t):∀ (n:Int) (r:List StepA),0 ≤ n→walkB n (t.steps++r) = walkB (n + 1) r:=by
 induction ht with
 | num k h1=>
  intro n r hn
  simp [Tr.steps,walkB,mayB,takesI,h1,hn]
 | sym p a k h1 h2 h3 h4 h5 h6 h7=>
  intro n r hn
  have:symB p a k = true:=by
   unfold symB
   simp only [Bool.and_eq_true,decide_eq_true_eq,Bool.or_eq_true,beq_iff_eq]
   exact ⟨h1,h2,h3,h4,h5,h6,h7⟩
  simp [Tr.steps,walkB,mayB,takesI,this,hn]
 | alone s h1 h2=>
  intro n r hn
  simp [Tr.steps,walkB,mayB,takesI,h1,hn]
 | note t s h1 h2 h3 ih=>
  intro n r hn
  rw [Tr.steps,List.append_assoc,ih n _ hn]
  have hd:(1:Int) ≤ n + 1:=by omega
  have he:n + 1 - 1 + 1 = n + 1:=by omega
  simp [walkB,mayB,takesI,h2,hd]
 | inv t h1 ih=>
  intro n r hn
  rw [Tr.steps,List.append_assoc,ih n _ hn]
  have hd:(1:Int) ≤ n + 1:=by omega
  have he:n + 1 - 1 + 1 = n + 1:=by omega
  simp [walkB,stepO,mayB,takesI,hd]
 | bin o l r ho h1 h2 ihl ihr=>
  intro n q hn
  rw [Tr.steps,List.append_assoc,List.append_assoc,ihl n _ hn,ihr (n + 1) _ (by omega)]
  have hd:(2:Int) ≤ n + 1 + 1:=by omega
  have he:n + 1 + 1 - 2 + 1 = n + 1:=by omega
  rcases ho with rfl | rfl <;> simp [walkB,stepO,mayB,takesI,hd,he]
theorem sound_steps {t:Tr} (ht:TrOk t) (hl:t.steps.length ≤ 255):soundB t.steps = true:=by
 have:=walk_tree ht 0 [] (by omega)
 rw [List.append_nil] at this
 unfold soundB
 rw [this]
 simp [walkB,hl]
theorem tr_texts {t:Tr} (ht:TrOk t):∀ s ∈ t.steps,s.text.length < 1000000:=by
 intro s hs
 have:=tr_steps ht s hs
 cases this <;> simp_all
theorem fits_num {t:Tr} (ht:TrOk t) (hf:t.fits):∀ s ∈ t.steps,s.num.natAbs ≤ 9223372036854775807:=by
 induction ht with
 | num k h1=>
  intro s hs
  simp only [Tr.fits] at hf
  simp only [Tr.steps,List.mem_singleton] at hs
  subst hs
  show k.natAbs ≤ _
  omega
 | sym p a k _ _ _ _ _ _ _=>
  intro s hs
  simp only [Tr.steps,List.mem_singleton] at hs
  subst hs
  show (0:Int).natAbs ≤ _
  decide
 | alone s _ _=>
  intro s hs
  simp only [Tr.steps,List.mem_singleton] at hs
  subst hs
  show (0:Int).natAbs ≤ _
  decide
 | note t s _ _ _ ih=>
  intro x hx
  simp only [Tr.steps,List.mem_append,List.mem_singleton] at hx
  rcases hx with hx | rfl
  ·exact ih hf x hx
  ·show (0:Int).natAbs ≤ _
   decide
 | inv t _ ih=>
  intro x hx
  simp only [Tr.steps,List.mem_append,List.mem_singleton] at hx
  rcases hx with hx | rfl
  ·exact ih hf x hx
  ·show (0:Int).natAbs ≤ _
   decide
 | bin o l r _ _ _ ihl ihr=>
  intro x hx
  simp only [Tr.steps,List.mem_append,List.mem_singleton] at hx
  rcases hx with (hx | hx) | rfl
  ·exact ihl hf.1 x hx
  ·exact ihr hf.2 x hx
  ·show (0:Int).natAbs ≤ _
   decide
theorem tree_num {t:Tr} (ht:TrOk t) (hf:t.fits):NumOk t.steps:=fun s hs=>⟨fits_num ht hf s hs,tr_texts ht s hs⟩
def codeB (k j:Nat):List UInt8:=((atomsT[k]?).map (·.code j)).getD []
def basesOk:Bool:=(List.range 7).all fun k=>isOk (evalR [⟨2,-1,k,1,0,[]⟩]) (baseW k) && (decide (worthT.getD k oneW = baseW k) && (List.range 5).all fun j=>decide ((parseP (1 + j) (codeB k j)).tree = [⟨2,-1,k,1,0,[]⟩]) && decide ((codeB k j).length < 100))
theorem bases_ok:basesOk = true:=by decide +kernel
theorem base_at {k:Nat} (h:k < 7):evalR [⟨2,-1,k,1,0,[]⟩] = .ok (baseW k)∧worthT.getD k oneW = baseW k∧∀ j:Nat,j < 5→(parseP (1 + (j:Int)) (codeB k j)).tree = [⟨2,-1,k,1,0,[]⟩]∧(codeB k j).length < 100:=by
 have h:=List.all_eq_true.1 bases_ok k (List.mem_range.2 h)
 simp only [Bool.and_eq_true,decide_eq_true_eq] at h
 refine ⟨isOk_eq h.1,h.2.1,fun j hj=>?_⟩
 have:=List.all_eq_true.1 h.2.2 j (List.mem_range.2 hj)
 simpa using this
theorem code_cell {k j:Nat} (hk:k < 48) (hj:j < 5):((atomsT.flatMap (acs .full)).drop (k * 12 + j)).take 1 = [.str (codeB k j)]:=by
 have hk':k < atomsT.length:=hk
 rw [fm_at (acs_len .full) hk' (by omega)]
 unfold codeB
 rw [List.getElem?_eq_getElem hk']
 have:j = 0∨j = 1∨j = 2∨j = 3∨j = 4:=by omega
 rcases this with rfl | rfl | rfl | rfl | rfl <;> rfl
set_option maxRecDepth 20000 in
set_option maxHeartbeats 2000000 in
theorem evalBases_eq (H:Has 274 E) (b a n:Int):EvClosed E (.fn (.func 274) [] []) [.int .i64 b,.int .i64 a,.int .i64 n] = some (.bool true):=by
 rw [EvClosed_eq H.c274 rfl (vs:=[.int .i64 b,.int .i64 a,.int .i64 n]) (by simp),EvFn_eq]
 have haw:=awake278_eq (H.to 278)
 have h1:=rest279_eq (H.to 279) (x:=b) (m:=7) (by omega) (by omega)
 have h2:=rest279_eq (H.to 279) (x:=a) (m:=48) (by omega) (by omega)
 have h3:=rest279_eq (H.to 279) (x:=n) (m:=5) (by omega) (by omega)
 have qt:=refTable_eq (H.to 51)
 obtain ⟨k,hk⟩:∃ k:Nat,b % 7 = k:=⟨(b % 7).toNat,by omega⟩
 obtain ⟨i,hi⟩:∃ i:Nat,a % 48 = i:=⟨(a % 48).toNat,by omega⟩
 obtain ⟨j,hj⟩:∃ j:Nat,n % 5 = j:=⟨(n % 5).toNat,by omega⟩
 have hk7:k < 7:=by omega
 have hi48:i < 48:=by omega
 have hj5:j < 5:=by omega
 rw [hk] at h1
 rw [hi] at h2
 rw [hj] at h3
 obtain ⟨b1,b2,b3⟩:=base_at hk7
 obtain ⟨b4,b5⟩:=b3 j hj5
 have q1:=atom288 (H.to 288) (k:Int)
 rw [atomR_in (by omega) (show (k:Int) < atomsT.length from by show (k:Int) < 48; omega),Int.toNat_natCast,b2,rsW_ok] at q1
 have q2:=atom288 (H.to 288) (i:Int)
 rw [atomR_in (by omega) (show (i:Int) < atomsT.length from by show (i:Int) < 48; omega),Int.toNat_natCast,rsW_ok] at q2
 obtain ⟨wok,wnz⟩:=worth_ok (a:=(i:Int)) (by omega) (show (i:Int) < atomsT.length from by show (i:Int) < 48; omega)
 rw [Int.toNat_natCast] at wok wnz
 have hp:=parse_eq (H.to 20) (1 + (j:Int)) (codeB k j) (by omega)
 have q3:=eval283 (H.to 283) (stepsV_tree [⟨2,-1,(k:Int),1,0,[]⟩]) (by simp) (numOk_few (by simp))
 rw [b1,rsW_ok] at q3
 simp only [Psd.cs] at hp
 rw [b4] at hp
 have hcc:=code_cell (k:=k) (j:=j) (by omega) hj5
 have hbc:=base_C (k:=(k:Int)) (by omega) (by omega)
 rw [Int.toNat_natCast] at hbc
 rw [show g8 = [.int .i64 1,.int .i64 1,.int .i64 0,.int .i64 0,.int .i64 0,.int .i64 0,.int .i64 0,.int .i64 0,.int .i64 0,.int .i64 0,.int .i64 0] from rfl] at hbc
 have R:=rs_f (r:=.ok (baseW k)) (fun w hw=>by
  obtain ⟨_,r2,_⟩:=row_at (i:=k) (show k < 48 from by omega)
  rw [b2] at r2
  cases hw; exact r2)
 have r1:=R.len
 have r2:=R.all
 have r3:=R.take
 have r4:=R.set
 have r5:=R.eq
 simp only [lW] at r1 r2 r3 r4 r5
 rw [← wL_C] at r1 r2 r3 r4 r5
 clear R
 have lw:=Wo.C_len wok.len
 have aw:=Wo.C_all (worthT.getD i oneW)
 have tw:(worthT.getD i oneW).C.take 11 = (worthT.getD i oneW).C:=List.take_of_length_le (by omega)
 have sw:setCells 0 (worthT.getD i oneW).C z11C = (worthT.getD i oneW).C:=set_11 lw
 have cw:(worthT.getD i oneW).C.take 1 = [.int .i64 (worthT.getD i oneW).f.num]:=by simp [Wo.C,fcC]
 have wnz':((worthT.getD i oneW).f.num != 0) = true:=by simpa using wnz
 have hA:refB.A = .vs .shared 48 (atomsT.flatMap (acs .full)):=rfl
 have hAl:(atomsT.flatMap (acs .full)).length = 576:=by rw [fm_len (acs_len .full)]; rfl
 rw [refB_V,hA] at qt
 have e1:(k:Int) < 48:=by omega
 have e2:k * 12 < 576:=by omega
 have e3:k * 12 + j + 1 ≤ 576:=by omega
 have e4:(j:Int) < 5:=by omega
 have e5:0 < 576 - k * 12:=by omega
 have e6:j * 1 < 576 - k * 12:=by omega
 have e7:j < 576 - k * 12:=by omega
 have e8:1 ≤ 576 - (k * 12 + j):=by omega
 have e9:(k:Int) < 7:=by omega
 have e10:3 + k ≤ 10:=by omega
 have w1:IntKind.i64.wrap (1 + (j:Int)) = 1 + (j:Int):=w64
 have sc:=stepsV_cell [⟨2,-1,(k:Int),1,0,[]⟩]
 generalize stepsV [⟨2,-1,(k:Int),1,0,[]⟩] = sv at *
 generalize (worthT.getD i oneW).C = WI at *
 generalize (worthT.getD i oneW).f.num = wn at *
 generalize (baseW k).C = BC at *
 generalize codeB k j = cd at *
 generalize refB.P = P0 at *
 generalize (atomsT.flatMap (acs .full)) = A0 at *
 simp [f274,start,EvCall_closed H.c278 rfl,EvCall_closed H.c279 rfl,EvCall_closed H.c288 rfl,EvCall_closed H.c20 rfl,EvCall_closed H.c283 rfl,haw,h1,h2,h3,qt,q1,q2,q3,hp,hcc,hbc,hAl,e1,e2,e4,e5,e7,e8,e9,e10,w1,r1,r2,r3,r4,r5,lw,aw,sw,cw,wnz',push_setk]
end Go.Pv
