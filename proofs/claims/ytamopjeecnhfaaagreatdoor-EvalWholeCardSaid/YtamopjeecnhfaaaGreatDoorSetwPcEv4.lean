/- A part of the proof: functions of the program in the evaluator's code, and what they come to. Conditions: none; definitions and theorems that the statement's proof uses. -/
import Derived.Test.YtamopjeecnhfaaaGreatDoorSetwPcEv1
/- What the program says atoms are worth, one behind the other. Conditions: the functions' codes; theorems. -/
namespace Go.Pv
variable {E:Env}
theorem termsV_cons {o:Own} {ts:List (Int × Int)} (h:ts ≠ []):termsV o ts = .vs o ts.length (ts.flatMap termCs):=by
 unfold termsV
 cases ts with
 | nil=>exact absurd rfl h
 | cons a l=>rfl
theorem terms304 (H:Has 304 E) {ws:List Wo} (hws:∀ w ∈ ws,WoOk w) {V:AV} (hV:(V = .nils∧ws = [])∨∃ own,V = .vs own ws.length (ws.flatMap Wo.C)) {o:Own} {b8 b9:Nat} {t19 t20 t21:AV} {ts:List (Int × Int)} (hts:ts.length < 1000) (w w':Wo) (h:AHeap) (hw:WoOk w) (ht:termsW ws ts w = .ok w') (hro:h.ro = 0) (hb:h.bl b9 = some (.cells w.C)):
  ∃ h',(∀ F,mask k304_0 F = s304_0 V (.ref b8 0) (.ref b9 0) (.int .i64 0) t19 t20 t21 (termsV o ts) (.int .i64 ts.length) (.int .i64 0) →
   EvCode E (.loop k304_0 l304_0) F h = some (.exit 2,x304_2 V (.ref b8 0) (.ref b9 0) (.int .i64 0) t19 t20 t21,h'))∧h'.bl b9 = some (.cells w'.C)∧Keep1 b9 h h'∧WoOk w':=by
 by_cases hn:ts = []
 ·subst hn
  cases ht
  refine ⟨h,fun F hF=>?_,hb,Keep1.refl _ _,hw⟩
  rw [EvCode_loop,hF]
  simp [l304_0,s304_0,x304_2]
 ·rcases hV with ⟨rfl,rfl⟩ | ⟨own,rfl⟩
  ·exfalso
   cases ts with
   | nil=>exact hn rfl
   | cons p r=>
    obtain ⟨a,n⟩:=p
    simp [termsW] at ht
  ·rw [termsV_cons hn]
   exact inner304 H hws hts ts 0 w w' h rfl hw ht hro hb
theorem grow_vs {h:AHeap} {ws:List Wo} {n:Nat} {V:AV} (g:Grow h 11 (ws.flatMap Wo.C) n V) (hn:ws.length = n):(V = .nils∧ws = [])∨∃ own,V = .vs own ws.length (ws.flatMap Wo.C):=by
 rcases g with ⟨h1,_,h3⟩ | ⟨k,h1,_⟩
 ·exact .inl ⟨h1,List.eq_nil_of_length_eq_zero (by omega)⟩
 ·exact .inr ⟨_,by rw [hn]; exact h1⟩
abbrev z11C:List AV:=[.int .i64 0,.int .i64 0,.int .i64 0,.int .i64 0,.int .i64 0,.int .i64 0,.int .i64 0,.int .i64 0,.int .i64 0,.int .i64 0,.int .i64 0]
theorem base_C {k:Int} (h0:0 ≤ k) (h7:k < 7):g8.set (3 + k.toNat) (.int .i64 1) = (baseW k.toNat).C:=by
 have:k = 0∨k = 1∨k = 2∨k = 3∨k = 4∨k = 5∨k = 6:=by omega
 rcases this with h | h | h | h | h | h | h <;> subst h <;> rfl
theorem take_snoc {α:Type} {l:List α} {i:Nat} (h:i < l.length):l.take (i + 1) = l.take i++[l[i]]:=by
 rw [List.take_add_one,List.getElem?_eq_getElem h]; rfl
theorem worthT_wo {i:Nat}:∀ w ∈ worthT.take i,WoOk w:=by
 intro w hw
 obtain ⟨j,hj,hjw⟩:=List.mem_iff_getElem.1 (List.mem_of_mem_take hw)
 have hj2:j < atomsT.length:=by rw [atomsT_len]; rw [worthT_len] at hj; exact hj
 obtain ⟨_,h2,_⟩:=row_at hj2
 rw [List.getD_eq_getElem?_getD,List.getElem?_eq_getElem hj] at h2
 rw [← hjw]; exact h2
theorem worthT_at {i:Nat} (h:i < atomsT.length):∃ hw:i < worthT.length,worthT.getD i oneW = worthT[i]:=by
 refine ⟨by rw [worthT_len]; rw [atomsT_len] at h; exact h,?_⟩
 rw [List.getD_eq_getElem?_getD,List.getElem?_eq_getElem (by rw [worthT_len]; rw [atomsT_len] at h; exact h)]; rfl
structure OutH (n:Nat) (V:AV) (h:AHeap):Prop where
 g:Grow h 11 ((worthT.take n).flatMap Wo.C) n V
 ro:h.ro = 0
 rot:h.rot = 0
theorem OutH.push {n:Nat} {V:AV} {h:AHeap} (o:OutH n V h) (b:ABlk):OutH n V (h.push b):=⟨o.g.of_heap rfl rfl,o.ro,o.rot⟩
theorem OutH.keep {n b:Nat} {V:AV} {h h':AHeap} (o:OutH n V h) (k:Keep1 b h h'):OutH n V h':=⟨o.g.of_heap k.toks k.rot,by rw [k.ro]; exact o.ro,by rw [k.rot]; exact o.rot⟩
theorem OutH.set {n b:Nat} {V:AV} {h:AHeap} {y:ABlk} (o:OutH n V h):OutH n V (h.setBlk b y):=⟨o.g.of_heap rfl rfl,o.ro,o.rot⟩
theorem OutH.app {n:Nat} {V:AV} {h:AHeap} (o:OutH n V h) {w:Wo} (hw:WoOk w) (hn:n < worthT.length) (he:worthT[n] = w):∃ ts V',appendA 11 88 h (den V) (.vs .full 1 w.C) = some (V',h.toks_ ts)∧OutH (n + 1) V' (h.toks_ ts):=by
 have hl:n < 48:=hn
 obtain ⟨ts,V',a1,a2,a3⟩:=grow_app (bytes:=88) (m:=1) (xs:=w.C) o.g (by rw [o.rot]; omega) (by omega) (by omega) (by omega) (by rw [Wo.C_len hw.len]) (Wo.C_all w)
 refine ⟨ts,V',a1,⟨?_,o.ro,o.rot⟩⟩
 rw [take_snoc hn,he,List.flatMap_append]
 simpa using a2
theorem OutH.cell {n:Nat} {V:AV} {h:AHeap} (o:OutH n V h):V.isCell = true:=o.g.cell
end Go.Pv
/- What the program says atoms are worth: a row. Conditions: the functions' codes; theorems. -/
namespace Go.Pv
variable {E:Env}
theorem set_11 {l:List AV} (h:l.length = 11):setCells 0 l z11C = l:=setCells_full (by rw [h]; rfl)
theorem rowW_base {ws:List Wo} {a:AtomR} {w:Wo} (h:rowW ws a = .ok w) (hb:0 ≤ a.base):a.base < 7∧w = baseW a.base.toNat:=by
 unfold rowW at h
 rw [if_pos hb] at h
 split at h
 ·rename_i h7; cases h; exact ⟨h7,rfl⟩
 ·cases h
theorem rowW_not {ws:List Wo} {a:AtomR} {w:Wo} (h:rowW ws a = .ok w) (hb:¬ 0 ≤ a.base):a.num.natAbs ≤ 9223372036854775807∧a.den.natAbs ≤ 9223372036854775807∧∃ f w0,makeF a.num a.den a.ten = .ok f∧FcOk f∧termsW ws a.terms ⟨f,d0,0⟩ = .ok w0∧w = ⟨w0.f,w0.d,a.tag⟩:=by
 unfold rowW at h
 rw [if_neg hb] at h
 split at h
 ·cases h
 ·rename_i f hf
  split at hf
  ·rename_i hc
   split at h
   ·cases h
   ·rename_i w0 hw0
    cases h
    exact ⟨hc.1,hc.2,f,w0,hf,makeF_ok hc.1 hc.2 hf,hw0,rfl⟩
  ·cases hf
set_option maxRecDepth 20000 in
set_option maxHeartbeats 2000000 in
theorem base304 (H:Has 304 E) {n i:Nat} {a:AtomR} (hn:n ≤ atomsT.length) (hi:i < n) (hai:atomsT[i]? = some a) (hb:0 ≤ a.base) {V:AV} {h:AHeap} (o:OutH i V h):
  ∃ h' V',OutH (i + 1) V' h'∧(∀ F,mask k304_1 F = s304_1 V (.vs .shared n ((atomsT.take n).flatMap (acs .shared))) (.int .i64 n) (.int .i64 i) →
   ∀ X,(∀ F',mask k304_1 F' = s304_1 V' (.vs .shared n ((atomsT.take n).flatMap (acs .shared))) (.int .i64 n) (.int .i64 (i + 1:Nat))→EvCode E (.loop k304_1 l304_1) F' h' = X)→EvCode E (.loop k304_1 l304_1) F h = X):=by
 have ha:i < atomsT.length:=by omega
 obtain ⟨r1,r2,r3⟩:=row_at ha
 rw [(List.getElem?_eq_some_iff.1 hai).2] at r1
 obtain ⟨h7,hw⟩:=rowW_base r1 hb
 obtain ⟨hwl,hwe⟩:=worthT_at ha
 rw [hw] at r2
 rw [hwe] at hw
 have hbc:=base_C hb h7
 have hlen:(atomsT.take n).length = n:=by rw [List.length_take]; omega
 have hil:i < (atomsT.take n).length:=by omega
 have hat:(atomsT.take n)[i] = a:=by
  rw [List.getElem_take]
  exact (List.getElem?_eq_some_iff.1 hai).2
 have h48:atomsT.length = 48:=rfl
 have hel:(((atomsT.take n).flatMap (acs .shared)).drop (i * 12)).take 12 = acs .shared a:=by rw [fm_el (acs_len .shared) hil,hat]
 have hfl:((atomsT.take n).flatMap (acs .shared)).length = n * 12:=by rw [fm_len (acs_len .shared),hlen]
 have hac:=acs_all .shared a
 have o2:OutH i V ((h.push (.cells (acs .shared a))).push (.cells (baseW a.base.toNat).C)):=(o.push _).push _
 obtain ⟨ts,V',a1,a2⟩:=o2.app r2 hwl hw
 refine ⟨_,V',a2,fun F hF X hX=>?_⟩
 have hv:=H.v8
 simp only [globAll] at hv
 have hg8:g8.length = 11:=rfl
 have hg8a:g8.all AV.isCell = true:=rfl
 have hg8t:g8.take 11 = g8:=rfl
 have hg8s:setCells 0 g8 z11C = g8:=rfl
 have hro:=o.ro
 have e1:(i:Int) < n:=by omega
 have e2:IntKind.i64.wrap ((i:Int) + 1) = ((i + 1:Nat):Int):=w64
 have e3:i * 12 < n * 12:=by omega
 have e4:12 ≤ n * 12 - i * 12:=by omega
 have lb:=Wo.C_len r2.len
 have sb:setCells 0 (baseW a.base.toNat).C z11C = (baseW a.base.toNat).C:=set_11 lb
 have tb:(baseW a.base.toNat).C.take 11 = (baseW a.base.toNat).C:=List.take_of_length_le (by omega)
 rw [EvCode_loop,hF]
 generalize EvCode E (.loop k304_1 l304_1) = lp at hX ⊢
 clear a2 o2 o hwe r1 r3 hw r2 hat
 generalize (atomsT.take n).flatMap (acs .shared) = A at *
 generalize hB:(baseW a.base.toNat).C = B at *
 have hk:3 + a.base.toNat ≤ 10:=by omega
 simp only [acs] at hel a1
 simp [-den,l304_1,s304_1,e1,e2,e3,e4,hel,hfl,hv,hg8,hg8a,hg8t,hg8s,hb,h7,hro,hbc,lb,sb,tb,hk,a1,push_setk,termsV_cell]
 exact hX _ (by simp [s304_1])
theorem tag_C {w:Wo} (h:w.d.length = 7) (g:Int):w.C.set 10 (.int .i64 g) = (⟨w.f,w.d,g⟩:Wo).C:=by
 obtain ⟨a0,a1,a2,a3,a4,a5,a6,hd⟩:=seven h
 simp [Wo.C,fcC,dC,hd]
set_option maxRecDepth 20000 in
set_option maxHeartbeats 2000000 in
theorem row304 (H:Has 304 E) {n i:Nat} {a:AtomR} (hn:n ≤ atomsT.length) (hi:i < n) (hai:atomsT[i]? = some a) (hb:¬ 0 ≤ a.base) {V:AV} {h:AHeap} (o:OutH i V h):
  ∃ h' V',OutH (i + 1) V' h'∧(∀ F,mask k304_1 F = s304_1 V (.vs .shared n ((atomsT.take n).flatMap (acs .shared))) (.int .i64 n) (.int .i64 i) →
   ∀ X,(∀ F',mask k304_1 F' = s304_1 V' (.vs .shared n ((atomsT.take n).flatMap (acs .shared))) (.int .i64 n) (.int .i64 (i + 1:Nat))→EvCode E (.loop k304_1 l304_1) F' h' = X)→EvCode E (.loop k304_1 l304_1) F h = X):=by
 have h48:atomsT.length = 48:=rfl
 have ha:i < atomsT.length:=by omega
 obtain ⟨r1,r2,r3⟩:=row_at ha
 rw [(List.getElem?_eq_some_iff.1 hai).2] at r1
 obtain ⟨c1,c2,f,w0,hf,hfo,ht,hw⟩:=rowW_not r1 hb
 obtain ⟨hwl,hwe⟩:=worthT_at ha
 rw [hw] at r2
 rw [hwe] at hw
 have hlen:(atomsT.take n).length = n:=by rw [List.length_take]; omega
 have hil:i < (atomsT.take n).length:=by omega
 have hat:(atomsT.take n)[i] = a:=by
  rw [List.getElem_take]
  exact (List.getElem?_eq_some_iff.1 hai).2
 have hel:(((atomsT.take n).flatMap (acs .shared)).drop (i * 12)).take 12 = acs .shared a:=by rw [fm_el (acs_len .shared) hil,hat]
 have hfl:((atomsT.take n).flatMap (acs .shared)).length = n * 12:=by rw [fm_len (acs_len .shared),hlen]
 have hac:=acs_all .shared a
 have o3:OutH i V (((h.push (.cells (acs .shared a))).push (.cells (⟨f,d0,0⟩:Wo).C)).push (.cells (fcC f))):=((o.push _).push _).push _
 have hwl2:(worthT.take i).length = i:=by rw [List.length_take]; omega
 have w0ok:WoOk ⟨f,d0,0⟩:=⟨hfo,rfl,rfl,Int.le_refl 0,by show (0:Int) ≤ 99; decide⟩
 have hmk:EvClosed E (.fn (.func 308) [] []) [.int .i64 a.num,.int .i64 a.den,.int .i64 a.ten] = some (rsF (.ok f)):=by rw [← hf]; exact make308 (H.to 308) c1 c2
 simp only [rsF,fcA,fcC] at hmk
 have hro:=o.ro
 have htl:a.terms.length < 1000:=by
  have:∀ a ∈ atomsT,a.terms.length < 1000:=by decide
  exact this _ (List.mem_of_getElem? hai)
 obtain ⟨h1,g1,g2,g3,g4⟩:=terms304 H (worthT_wo (i:=i)) (grow_vs o3.g hwl2) (o:=.shared) (b8:=h.blks.length) (b9:=h.blks.length + 1) (t19:=.vs .shared n ((atomsT.take n).flatMap (acs .shared))) (t20:=.int .i64 n) (t21:=.int .i64 i) htl ⟨f,d0,0⟩ w0 (((h.push (.cells (acs .shared a))).push (.cells (⟨f,d0,0⟩:Wo).C)).push (.cells (fcC f))) w0ok ht (by simp [hro]) (by simp)
 have g5:h1.bl h.blks.length = some (.cells (acs .shared a)):=by
  rw [g3.old _ (by rw [blks_push_length,blks_push_length,blks_push_length]; omega) (by omega)]
  have n1:¬ h.blks.length = h.blks.length + 1:=by omega
  have n2:¬ h.blks.length = h.blks.length + 1 + 1:=by omega
  simp [n2]
 have o4:OutH i V (h1.setBlk (h.blks.length + 1) (.cells (⟨w0.f,w0.d,a.tag⟩:Wo).C)):=(o3.keep g3).set
 obtain ⟨ts,V',a1,a2⟩:=o4.app r2 hwl hw
 refine ⟨_,V',a2,fun F hF X hX=>?_⟩
 have hv:=H.v8
 simp only [globAll] at hv
 have hg8:g8.length = 11:=rfl
 have hg8a:g8.all AV.isCell = true:=rfl
 have hg8t:g8.take 11 = g8:=rfl
 have hg8s:setCells 0 g8 z11C = g8:=rfl
 have hg8f:((g8.set 0 (.int .i64 f.num)).set 1 (.int .i64 f.den)).set 2 (.int .i64 f.ten) = (⟨f,d0,0⟩:Wo).C:=by simp [fcC,g8,Wo.C,dC,d0]
 simp only [fcC] at g1 g3
 have hro1:h1.ro = 0:=by rw [g3.ro]; simp [hro]
 have e1:(i:Int) < n:=by omega
 have e2:IntKind.i64.wrap ((i:Int) + 1) = ((i + 1:Nat):Int):=w64
 have e3:i * 12 < n * 12:=by omega
 have e4:12 ≤ n * 12 - i * 12:=by omega
 have lt9:=blk_lt g2
 have n9:¬ h1.blks = []:=by intro h'; rw [h'] at lt9; simp at lt9
 have lw:=Wo.C_len g4.len
 have ltg:=tag_C g4.len a.tag
 have lb:=Wo.C_len r2.len
 have sb:setCells 0 (⟨w0.f,w0.d,a.tag⟩:Wo).C z11C = (⟨w0.f,w0.d,a.tag⟩:Wo).C:=set_11 lb
 have tb:(⟨w0.f,w0.d,a.tag⟩:Wo).C.take 11 = (⟨w0.f,w0.d,a.tag⟩:Wo).C:=List.take_of_length_le (by omega)
 rw [EvCode_loop,hF]
 generalize EvCode E (.loop k304_1 l304_1) = lp at hX ⊢
 clear a2 o4 o3 o hwe r1 r3 hw r2 hat g3 ht w0ok hf c1 c2 htl
 generalize (⟨w0.f,w0.d,a.tag⟩:Wo).C = B at *
 generalize w0.C = W0 at *
 generalize (⟨f,d0,0⟩:Wo).C = FC at *
 generalize (atomsT.take n).flatMap (acs .shared) = A at *
 have hb':a.base < 0:=by omega
 have m1:¬ h.blks.length = h.blks.length + 1 + 1:=by omega
 have m2:¬ h.blks.length + 1 = h.blks.length + 1 + 1:=by omega
 have m3:¬ h.blks.length = h.blks.length + 1:=by omega
 simp only [acs] at hel a1 g5 g1
 have hTV:(termsV .shared a.terms = .nils∧a.terms.length = 0)∨∃ own cells,termsV .shared a.terms = .vs own a.terms.length cells:=by
  by_cases h0:a.terms = []
  ·rw [h0]; exact .inl ⟨rfl,rfl⟩
  ·exact .inr ⟨_,_,termsV_cons h0⟩
 generalize a.terms.length = tl at *
 generalize termsV .shared a.terms = TV at *
 rcases hTV with ⟨rfl,rfl⟩ | ⟨own,cells,rfl⟩
 ·simp only [Int.natCast_zero] at g1
  simp [-den,l304_1,s304_1,e1,e3,e4,hel,hfl,hv,hg8,hg8a,hg8t,hg8s,hb,m1,hro,hmk,hg8f,EvCall_closed H.c308 rfl,push_setk,push_setl]
  rw [g1 _ (by simp [s304_0])]
  simp [-den,x304_2,g2,g5,hro1,lw,ltg,lb,sb,tb,a1,e2]
  exact hX _ (by simp [s304_1])
 ·simp [-den,l304_1,s304_1,e1,e3,e4,hel,hfl,hv,hg8,hg8a,hg8t,hg8s,hb,m1,hro,hmk,hg8f,EvCall_closed H.c308 rfl,push_setk,push_setl]
  rw [g1 _ (by simp [s304_0])]
  simp [-den,x304_2,g2,g5,hro1,lw,ltg,lb,sb,tb,a1,e2]
  exact hX _ (by simp [s304_1])
end Go.Pv
/- What the program says an atom is worth. Conditions: the functions' codes; theorems. -/
namespace Go.Pv
variable {E:Env}
theorem outer304 (H:Has 304 E) {n:Nat} (hn:n ≤ atomsT.length):∀ (r i:Nat) (V:AV) (h:AHeap),i + r = n→OutH i V h →
  ∃ h' V',OutH n V' h'∧∀ F,mask k304_1 F = s304_1 V (.vs .shared n ((atomsT.take n).flatMap (acs .shared))) (.int .i64 n) (.int .i64 i)→EvCode E (.loop k304_1 l304_1) F h = some (.exit 0,x304_0 V',h'):=by
 intro r
 induction r with
 | zero=>
  intro i V h hi o
  have hi':i = n:=by omega
  subst hi'
  refine ⟨h,V,o,fun F hF=>?_⟩
  rw [EvCode_loop,hF]
  simp [l304_1,s304_1,x304_0]
 | succ r ih=>
  intro i V h hi o
  have hia:i < atomsT.length:=by omega
  have hai:atomsT[i]? = some atomsT[i]:=List.getElem?_eq_getElem hia
  generalize atomsT[i] = a at hai
  have st:∃ h' V',OutH (i + 1) V' h'∧(∀ F,mask k304_1 F = s304_1 V (.vs .shared n ((atomsT.take n).flatMap (acs .shared))) (.int .i64 n) (.int .i64 i) →
   ∀ X,(∀ F',mask k304_1 F' = s304_1 V' (.vs .shared n ((atomsT.take n).flatMap (acs .shared))) (.int .i64 n) (.int .i64 (i + 1:Nat))→EvCode E (.loop k304_1 l304_1) F' h' = X)→EvCode E (.loop k304_1 l304_1) F h = X):=by
   by_cases hb:0 ≤ a.base
   ·exact base304 H hn (by omega) hai hb o
   ·exact row304 H hn (by omega) hai hb o
  obtain ⟨h1,V1,o1,s1⟩:=st
  obtain ⟨h2,V2,o2,s2⟩:=ih (i + 1) V1 h1 (by omega) o1
  exact ⟨h2,V2,o2,fun F hF=>s1 F hF _ s2⟩
theorem wo_shut:∀ {ws:List Wo},shutL 0 0 (ws.flatMap Wo.C) = some (ws.flatMap Wo.C)
 | []=>rfl
 | w :: ws=>by rw [List.flatMap_cons]; exact shutL_app _ _ (Wo.C_shut w) wo_shut
theorem worths304 (H:Has 304 E) {i:Nat} (hi:i < atomsT.length):EvClosed E (.fn (.func 304) [] []) [progB.V,.int .i64 i] = some (.tuple [.vs .shared (i + 1) ((worthT.take (i + 1)).flatMap Wo.C),.int .i64 0]):=by
 rw [EvClosed_eq H.c304 rfl (vs:=[progB.V,.int .i64 i]) (by simp [Tb.V,Tb.A_shut progB_ok,Tb.P_shut progB_ok]),EvFn_eq]
 have h48:atomsT.length = 48:=rfl
 obtain ⟨h',V',o',hl⟩:=outer304 H (n:=i + 1) (by omega) (i + 1) 0 .nils (heap0.push (.cells [progB.A,progB.P])) (by omega) ⟨grow_nil _ _,rfl,rfl⟩
 have e1:IntKind.i64.wrap ((i:Int) + 1) = ((i + 1:Nat):Int):=w64
 have hV:shut 0 0 V' = some (.vs .shared (i + 1) ((worthT.take (i + 1)).flatMap Wo.C)):=by
  rcases o'.g with ⟨_,_,h3⟩ | ⟨k,rfl,_⟩
  ·omega
  ·simp [shut,wo_shut]
 have hL:(progB.L.flatMap (acs progB.ot)).length = 48 * 12:=by rw [fm_len (acs_len progB.ot)]; rfl
 have hT:(progB.L.flatMap (acs progB.ot)).take ((i + 1) * 12) = (atomsT.take (i + 1)).flatMap (acs .shared):=fm_take (acs_len .shared) atomsT (i + 1)
 have e2:(i:Int) + 1 ≤ 48:=by omega
 have e3:(0:Int) ≤ (i:Int) + 1:=by omega
 have hT2:(atomsT.flatMap (acs .shared)).take ((i + 1) * 12) = (atomsT.take (i + 1)).flatMap (acs .shared):=hT
 have hl0:=fun F hF=>hl F hF
 clear o'
 simp only [Tb.V,Tb.A,Tb.P,progB,h48] at hL hl0 ⊢
 generalize (atomsT.take (i + 1)).flatMap (acs .shared) = AA at *
 generalize (atomsT.flatMap (acs .shared)) = A0 at *
 simp only [Int.natCast_zero] at hl0
 simp [f304,start,hL,e1,e2,e3,hT2]
 rw [hl0 _ (by simp [s304_1])]
 simp [x304_0,hV]
theorem worthT_get {i:Nat} (hi:i < atomsT.length):(((worthT.take (i + 1)).flatMap Wo.C).drop (i * 11)).take 11 = (worthT.getD i oneW).C:=by
 obtain ⟨hw,he⟩:=worthT_at hi
 have hl:i < (worthT.take (i + 1)).length:=by rw [List.length_take]; omega
 rw [he,wo_drop worthT_wo hl,List.getElem_take]
def atomR (i:Int):Except Int Wo:=if 0 ≤ i∧i < atomsT.length then .ok (worthT.getD i.toNat oneW) else .error 1
set_option maxRecDepth 20000 in
theorem atom288 (H:Has 288 E) (i:Int):EvClosed E (.fn (.func 288) [] []) [.int .i64 i] = some (rsW (atomR i)):=by
 rw [EvClosed_eq H.c288 rfl (vs:=[.int .i64 i]) (by simp),EvFn_eq]
 have h48:atomsT.length = 48:=rfl
 have q1:=table_eq (H.to 38)
 have hAc:progB.A.isCell = true:=rfl
 have hPc:progB.P.isCell = true:=rfl
 unfold atomR
 by_cases h0:0 ≤ i
 ·by_cases h1:i < atomsT.length
  ·rw [if_pos ⟨h0,h1⟩]
   obtain ⟨n,rfl⟩:∃ n:Nat,i = n:=⟨i.toNat,by omega⟩
   have hn:n < atomsT.length:=by omega
   have q2:=worths304 (H.to 304) hn
   have hg:=worthT_get hn
   obtain ⟨_,hok,_⟩:=row_at hn
   have lw:=Wo.C_len hok.len
   have tw:(worthT.getD n oneW).C.take 11 = (worthT.getD n oneW).C:=List.take_of_length_le (by omega)
   have sw:setCells 0 (worthT.getD n oneW).C z11C = (worthT.getD n oneW).C:=set_11 lw
   have aw:=Wo.C_all (worthT.getD n oneW)
   have ss:=Wo.C_shut (worthT.getD n oneW)
   have hl:((worthT.take (n + 1)).flatMap Wo.C).length = (n + 1) * 11:=by
    rw [wo_len worthT_wo,List.length_take,worthT_len,Nat.min_eq_left (by omega)]
   have e1:¬ (48:Int) ≤ n:=by omega
   have e2:¬ (n:Int) < 0:=by omega
   have e3:n * 11 < (n + 1) * 11:=by omega
   have e4:11 ≤ (n + 1) * 11 - n * 11:=by omega
   have e5:(n:Int) < (n:Int) + 1:=by omega
   rw [Int.toNat_natCast]
   simp only [rsW,Wo.A] at *
   generalize (worthT.getD n oneW).C = W at *
   generalize (worthT.take (n + 1)).flatMap Wo.C = WS at *
   simp only [Tb.V] at q1 q2
   have hA:progB.A = .vs .shared 48 (atomsT.flatMap (acs .shared)):=rfl
   simp only [hA] at q1 q2 hAc
   generalize (atomsT.flatMap (acs .shared)) = A0 at *
   generalize progB.P = P0 at *
   simp [f288,start,EvCall_closed H.c38 rfl,EvCall_closed H.c304 rfl,q1,q2,e1,e2,e3,e4,e5,hg,hl,lw,tw,sw,aw,ss,hAc,hPc,push_setk,push_setl]
  ·rw [if_neg (fun h=>h1 h.2)]
   have e1:(48:Int) ≤ i:=by omega
   have e2:¬ i < 0:=by omega
   simp only [Tb.V] at q1
   have hA:progB.A = .vs .shared 48 (atomsT.flatMap (acs .shared)):=rfl
   simp only [hA] at q1 hAc
   generalize (atomsT.flatMap (acs .shared)) = A0 at *
   generalize progB.P = P0 at *
   simp [f288,start,EvCall_closed H.c38 rfl,q1,e1,e2,hAc,hPc,push_setk,push_setl,rsW,wo0C]
 ·rw [if_neg (fun h=>h0 h.1)]
  have e2:i < 0:=by omega
  simp only [Tb.V] at q1
  generalize progB.A = A0 at *
  generalize progB.P = P0 at *
  simp [f288,start,EvCall_closed H.c38 rfl,q1,e2,hAc,hPc,push_setk,push_setl,rsW,wo0C]
end Go.Pv
