/- A part of the proof: functions of the program in the evaluator's code, and what they come to. Conditions: none; definitions and theorems that the statement's proof uses. -/
import Derived.Test.YteiaohbhlapklaaGreatDoorSetPcPrint6
import Derived.Test.YteiaohbhlapklaaGreatDoorSetPcParse7
import Derived.Test.YteiaohbhlapklaaGreatDoorSetPv21
import Derived.ChangeSame
import Derived.ChangeSlices
import Derived.ChangeMaps5
import Derived.OpenShut
import Derived.Lib.SmallJoins
/- What is printed is parsed to the same tree. Conditions: none; theorems. -/
namespace Go.Pv
variable {x sz:Int}
theorem main_item {inner:List Tok→Option Tok→Res (List StepA)} {l rest:List Tok} {u u':Option Tok} {t:List StepA} (h5:isT 5 l = false) (h:itemP x sz inner l u = .ok (t,rest,u')):mainP x sz inner l u = loopG x sz inner t rest u':=by
 simp only [mainP,h5,Bool.false_eq_true,if_false,h,loopG]
theorem main_err {inner:List Tok→Option Tok→Res (List StepA)} {l:List Tok} {u:Option Tok} {e:PErr} (h5:isT 5 l = false) (h:itemP x sz inner l u = .error e):mainP x sz inner l u = .error e:=by
 simp only [mainP,h5,Bool.false_eq_true,if_false,h]
theorem main_inv {inner:List Tok→Option Tok→Res (List StepA)} {k:Tok} {l rest:List Tok} {u u':Option Tok} {t:List StepA} (h5:k.kind = 5) (h:itemP x sz inner l u = .ok (t,rest,u')):mainP x sz inner (k :: l) u = loopG x sz inner (t++[stepO 5]) rest u':=by
 have e:isT 5 (k :: l) = true:=by simp [isT,h5]
 simp only [mainP,e,if_true,List.tail_cons,h,loopG,stepO]
theorem main_inv_err {inner:List Tok→Option Tok→Res (List StepA)} {k:Tok} {l:List Tok} {u:Option Tok} {e:PErr} (h5:k.kind = 5) (h:itemP x sz inner l u = .error e):mainP x sz inner (k :: l) u = .error e:=by
 have e:isT 5 (k :: l) = true:=by simp [isT,h5]
 simp only [mainP,e,if_true,List.tail_cons,h]
def ItemOk (x sz:Int) (t:Tr):Prop:=∀ (r:Nat) (ts rest:List Tok) (u:Option Tok),TokT x t ts→StopI rest→Goes r t.deep (itemP x sz (levelP x sz r) (ts++rest) u) (t.steps,rest,u)∧isT 5 (ts++rest) = false
theorem main_of_item {t:Tr} (h:ItemOk x sz t):MainOk x sz t:=by
 intro r ts rest u ht hr
 obtain ⟨⟨h1,h2⟩,h5⟩:=h r ts rest u ht hr
 exact ⟨fun hd=>main_item h5 (h1 hd),fun hd=>by obtain ⟨p,e⟩:=h2 hd; exact ⟨p,main_err h5 e⟩⟩
theorem item_brk {t:Tr} {o:Int} (ho:o = 3∨o = 4∨o = 5) (hm:MainOk x sz t) (hi:looseB (lastOp t.steps) = false→ItemOk x sz t) {r:Nat} {ts rest:List Tok} {u:Option Tok} (hb:Brk (inB o t.steps) (TokT x t) ts) (hr:StopI rest):
  Goes r (t.deep + if inB o t.steps then 1 else 0) (itemP x sz (levelP x sz r) (ts++rest) u) (t.steps,rest,u):=by
 have e:inB o t.steps = looseB (lastOp t.steps):=by
  unfold inB
  rcases ho with rfl | rfl | rfl <;> simp
 rw [e] at hb ⊢
 cases h:looseB (lastOp t.steps) with
 | false=>
  rw [h] at hb
  exact (hi h r ts rest u hb hr).1
 | true=>
  rw [h] at hb
  obtain ⟨h9,_⟩:=brk_head (_b:=true) (rest:=rest) hb
  obtain ⟨g1,g2⟩:=base_brk hm (r:=r) (rest:=rest) (u:=u) hb
  exact ⟨fun hd=>item_base h9 (g1 hd) hr.2,fun hd=>by obtain ⟨p,e⟩:=g2 hd; exact ⟨p,item_err h9 e⟩⟩
theorem tree_ok {t:Tr} (ht:TrOk t):t.fits→t.told x→MainOk x sz t∧(looseB (lastOp t.steps) = false→ItemOk x sz t):=by
 induction ht with
 | num n h1=>
  intro hf _
  have hi:ItemOk x sz (.num n):=by
   intro r ts rest u hts hr
   have hts':=hts
   obtain ⟨k,rfl,hk,hn⟩:=hts'
   have h9:isT 9 ([k]++rest) = false:=by simp [isT,hk]
   have h5:isT 5 ([k]++rest) = false:=by simp [isT,hk]
   exact ⟨⟨fun _=>item_base h9 (base_num h1 hf hts) hr.2,fun h=>absurd h (Nat.not_lt_zero _)⟩,h5⟩
  exact ⟨main_of_item hi,fun _=>hi⟩
 | sym p a n a0 a1 p0 p1 n0 n1 hm=>
  intro _ hd
  have hi:ItemOk x sz (.sym p a n):=by
   intro r ts rest u hts hr
   have hts':=hts
   obtain ⟨k,us,rfl,hk,_⟩:=hts'
   have h9:isT 9 (k :: us++rest) = false:=by simp [isT,hk]
   have h5:isT 5 (k :: us++rest) = false:=by simp [isT,hk]
   exact ⟨⟨fun _=>item_base h9 (base_sym hd n0 n1 hts hr.1) hr.2,fun h=>absurd h (Nat.not_lt_zero _)⟩,h5⟩
  exact ⟨main_of_item hi,fun _=>hi⟩
 | alone s h1 h2=>
  intro _ _
  have hi:ItemOk x sz (.alone s):=by
   rintro r ts rest u ⟨k,rfl,hk,hs⟩ hr
   have h5:isT 5 ([k]++rest) = false:=by simp [isT,hk]
   refine ⟨⟨fun _=>?_,fun h=>absurd h (Nat.not_lt_zero _)⟩,h5⟩
   simp [itemP,hk,hs,Tr.steps]
  exact ⟨main_of_item hi,fun _=>hi⟩
 | note t s ht h1 h2 ih=>
  intro hf hd
  obtain ⟨im,ii⟩:=ih hf hd.1
  have hi:ItemOk x sz (.note t s):=by
   rintro r ts rest u ⟨us,k,rfl,hb,hk,hs⟩ hr
   have hst:Stop (k :: rest):=stop_cons (by rw [hk]; decide) (by rw [hk]; decide) (by rw [hk]; decide)
   have hgo:∀ (d:Nat),Goes r d (baseP x sz (levelP x sz r) (us++k :: rest) u) (t.steps,k :: rest,u)→isT 9 (us++k :: rest) = false→isT 5 (us++k :: rest) = false→d = (Tr.note t s).deep →
     Goes r (Tr.note t s).deep (itemP x sz (levelP x sz r) (us++[k]++rest) u) ((Tr.note t s).steps,rest,u)∧isT 5 (us++[k]++rest) = false:=by
    rintro d ⟨g1,g2⟩ h9 h5 rfl
    have e:us++[k]++rest = us++k :: rest:=by simp
    rw [e]
    refine ⟨⟨fun hd=>?_,fun hd=>?_⟩,h5⟩
    ·rw [item_note h9 (g1 hd) hk,hs]
     rfl
    ·obtain ⟨p,e⟩:=g2 hd
     exact ⟨p,item_err h9 e⟩
   cases hib:inB 6 t.steps with
   | true=>
    rw [hib] at hb
    obtain ⟨h9,h5⟩:=brk_head (_b:=true) (rest:=k :: rest) hb
    exact hgo _ (base_brk im hb) h9 h5 (by simp [Tr.deep,hib])
   | false=>
    rw [hib] at hb
    have hb':TokT x t us:=hb
    cases ht with
    | num n h1=>
     have hb2:=hb'
     obtain ⟨k0,rfl,hk0,_⟩:=hb2
     exact hgo 0 ⟨fun _=>base_num h1 hf hb',fun h=>absurd h (Nat.not_lt_zero _)⟩ (by simp [isT,hk0]) (by simp [isT,hk0]) (by simp [Tr.deep,hib])
    | sym p a n a0 a1 p0 p1 n0 n1 hm=>
     have hb2:=hb'
     obtain ⟨k0,vs,rfl,hk0,_⟩:=hb2
     exact hgo 0 ⟨fun _=>base_sym hd.1 n0 n1 hb' hst,fun h=>absurd h (Nat.not_lt_zero _)⟩ (by simp [isT,hk0]) (by simp [isT,hk0]) (by simp [Tr.deep,hib])
    | alone w _ _=>
     have h7:lastOp (Tr.alone w).steps = 7:=rfl
     simp [inB,h7] at hib
    | note t w _ _ _=>simp [inB,last_note] at hib
    | inv t _=>simp [inB,last_inv,looseB] at hib
    | bin o l r ho _ _=>rcases ho with rfl | rfl <;> simp [inB,last_bin,looseB] at hib
  exact ⟨main_of_item hi,fun _=>hi⟩
 | inv t ht ih=>
  intro hf hd
  obtain ⟨im,ii⟩:=ih hf hd
  refine ⟨?_,fun h=>by simp [last_inv,looseB] at h⟩
  rintro r ts rest u ⟨k,us,rfl,hk,hb⟩ hr
  obtain ⟨g1,g2⟩:=item_brk (.inr (.inr rfl)) im ii (r:=r) (u:=u) hb hr
  exact ⟨fun hd=>main_inv hk (g1 hd),fun hd=>by obtain ⟨p,e⟩:=g2 hd; exact ⟨p,main_inv_err hk e⟩⟩
 | bin o l r' ho _ _ ih1 ih2=>
  intro hf hd
  obtain ⟨lm,_⟩:=ih1 hf.1 hd.1
  obtain ⟨rm,ri⟩:=ih2 hf.2 hd.2
  refine ⟨?_,fun h=>by rcases ho with rfl | rfl <;> simp [last_bin,looseB] at h⟩
  rintro r ts rest u ⟨us,k,vs,rfl,hl,hk,hb⟩ hr
  have hk45:k.kind = 4∨k.kind = 5:=by rw [hk]; split <;> simp
  have hst:StopI (k :: (vs++rest)):=stopI_cons (by omega) (by omega) (by omega) (by omega)
  obtain ⟨m1,m2⟩:=lm r us (k :: (vs++rest)) u hl hst
  obtain ⟨g1,g2⟩:=item_brk (by omega:o = 3∨o = 4∨o = 5) rm ri (r:=r) (u:=u) hb hr
  have e:us++k :: vs++rest = us++k :: (vs++rest):=by simp
  have hok:(if k.kind = 4 then (3:Int) else 4) = o:=by
   rw [hk]
   rcases ho with rfl | rfl <;> simp
  rw [e]
  have hdp:(Tr.bin o l r').deep = max (r'.deep + if inB o r'.steps then 1 else 0) l.deep:=rfl
  rw [hdp]
  generalize (r'.deep + if inB o r'.steps then 1 else 0) = dr at *
  refine ⟨fun hd=>?_,fun hd=>?_⟩
  ·rw [m1 (by omega),loopG_step (levelP_fits r) hk45 (g1 (by omega)),hok]
   rfl
  ·by_cases hl:l.deep ≤ r
   ·obtain ⟨p,e⟩:=g2 (by omega)
    exact ⟨p,by rw [m1 hl,loopG_err hk45 e]⟩
   ·exact m2 (by omega)
theorem parse_print (hx:isN x = true) {t:Tr} (ht:TrOk t) (hf:t.fits) (hd:t.told x) (h32:t.deep ≤ 32) (hl:(ptext x t).length ≤ 255):parseP x (ptext x t) = ⟨t.steps,0,(ptext x t).length,0⟩:=by
 obtain ⟨ts,hts,e⟩:=lx_tree hx ht hf hd [] 0 NJ.nil
 rw [List.append_nil,lexG_nil,List.append_nil,Nat.zero_add] at e
 have e':lexS x (ptext x t) = (ts,(ptext x t).length):=e
 unfold parseP
 rw [if_pos hx,if_pos hl,e']
 simp only [Nat.lt_irrefl,if_false]
 have h:=(tree_ok (x:=x) (sz:=((ptext x t).length:Int)) ht hf hd).1 32 ts [] none hts stopI_nil
 rw [List.append_nil] at h
 have h1:=h.1 h32
 rw [loopG_stop rfl rfl] at h1
 simp only [treeP,h1]
end Go.Pv
/- A number's rest; the chapter's examples. Conditions: the functions' codes; theorems. -/
namespace Go.Pv
variable {E:Env} {x:Int}
end Go.Pv
/- ParseEnds is true. Conditions: the functions' codes; theorems. -/
namespace Go.Pv
variable {E:Env} {x sz:Int}
structure Prt (x:Int) (t:Tr):Prop where
 n:isN x = true
 ok:TrOk t
 fits:t.fits
 told:t.told x
 deep:t.deep ≤ 31
 len:(ptext x t).length ≤ 255
theorem made_deep (L:List Int):(madeT L).deep ≤ 31:=by
 have h1:=madeI_size 4 (L.take 120)
 have h2:=deep_le (madeT L)
 simp only [madeT] at h2 ⊢
 omega
theorem Prt.parse {t:Tr} (P:Prt x t):parseP x (ptext x t) = ⟨t.steps,0,(ptext x t).length,0⟩:=parse_print P.n P.ok P.fits P.told (by have:=P.deep; omega) P.len
theorem Prt.main {t:Tr} (P:Prt x t) (sz:Int):MainOk x sz t:=(tree_ok P.ok P.fits P.told).1
theorem Prt.lex {t:Tr} (P:Prt x t) {q:List UInt8} (hq:NJ x q) (p:Nat):∃ ts,TokT x t ts∧lexG x (ptext x t++q) p = (ts++(lexG x q (p + (ptext x t).length)).1,(lexG x q (p + (ptext x t).length)).2):=lx_tree P.n P.ok P.fits P.told q p hq
theorem parse_of {s:List UInt8} {ts:List Tok} (hx:isN x = true) (hl:s.length ≤ 255) (h:lexG x s 0 = (ts,s.length)):parseP x s = treeP x s.length ts:=by
 have h':lexS x s = (ts,s.length):=h
 unfold parseP
 rw [if_pos hx,if_pos hl,h']
 simp only [Nat.lt_irrefl,if_false]
theorem base_open {r:Nat} {k:Tok} {l:List Tok} {u:Option Tok} (hk:k.kind = 7):baseP x sz (levelP x sz (r + 1)) (k :: l) u = match mainP x sz (levelP x sz r) l u with | .ok q=>closeP sz q | .error e=>.error e:=by
 have e:baseP x sz (levelP x sz (r + 1)) (k :: l) u = levelP x sz (r + 1) (k :: l) u:=by simp only [baseP,hk]; rfl
 rw [e]
 rfl
end Go.Pv
/- The print laws' examples; PrintBack is true. Conditions: the functions' codes; theorems. -/
namespace Go.Pv
variable {E:Env} {x:Int}
theorem rest232_eq (H:Has 232 E) {x m:Int} (hm:0 < m) (hm2:m < 1000000):EvClosed E (.fn (.func 232) [] []) [.int .i64 x,.int .i64 m] = some (.int .i64 (x % m)):=by
 rw [EvClosed_eq H.c232 rfl (vs:=[.int .i64 x,.int .i64 m]) (by simp),EvFn_eq]
 have h0:m ≠ 0:=by omega
 have hb:-m < x.tmod m∧x.tmod m < m:=⟨Int.lt_tmod_of_pos x hm,Int.tmod_lt_of_pos x hm⟩
 have hw:IntKind.i64.wrap (x.tmod m + m) = x.tmod m + m:=w64
 have he:(x.tmod m + m).tmod m = x % m:=by
  have h1:(x.tmod m + m).tmod m = (x.tmod m + m) % m:=Int.tmod_eq_emod_of_nonneg (by omega)
  rw [h1,Int.add_emod_right]
  have h3:x.tmod m = x - m * x.tdiv m:=by have:=Int.mul_tdiv_add_tmod x m; omega
  rw [h3,Int.sub_mul_emod_self_left]
 simp [f232,start,h0,hw,he]
def awT1:Tr:=.bin 4 (.bin 3 (.sym 7 2 1) (.sym (-1) 0 1)) (.sym (-1) 1 2)
def awT2:Tr:=.inv (.note (.sym (-1) 0 1) [120])
def awT3:Tr:=.sym (-1) 21 1
theorem awP1:parseP 1 [40,107,103,46,40,40,109,41,41,41,47,40,115,50,41] = ⟨awT1.steps,0,15,0⟩:=by decide +kernel
theorem awP2:parseP 1 [47,109,123,120,125] = ⟨awT2.steps,0,5,0⟩:=by decide +kernel
theorem awP3:parseP 1 [67,101,108] = ⟨awT3.steps,0,3,0⟩:=by decide +kernel
theorem awD1:printD 1 awT1 = ([107,103,46,109,47,115,50],0,0):=by decide +kernel
theorem awD2:printD 3 awT2 = ([47,109,60,120,62],0,0):=by decide +kernel
theorem awD3:printD 5 awT3 = ([],0,16):=by decide +kernel
theorem awO1:TrOk awT1:=by
 refine .bin 4 _ _ (.inr rfl) (.bin 3 _ _ (.inl rfl) (.sym 7 2 1 ?_ ?_ ?_ ?_ ?_ ?_ ?_) (.sym (-1) 0 1 ?_ ?_ ?_ ?_ ?_ ?_ ?_)) (.sym (-1) 1 2 ?_ ?_ ?_ ?_ ?_ ?_ ?_) <;> decide
theorem awO2:TrOk awT2:=by
 refine .inv _ (.note _ _ (.sym (-1) 0 1 ?_ ?_ ?_ ?_ ?_ ?_ ?_) ?_ ?_) <;> decide
theorem awO3:TrOk awT3:=by
 refine .sym (-1) 21 1 ?_ ?_ ?_ ?_ ?_ ?_ ?_ <;> decide
theorem awake231_eq (H:Has 231 E):EvClosed E (.fn (.func 231) [] []) [] = some (.bool true):=by
 rw [EvClosed_eq H.c231 rfl (vs:=[]) (by simp),EvFn_eq]
 have h1:=parse_eq (H.to 20) 1 [40,107,103,46,40,40,109,41,41,41,47,40,115,50,41] (by simp)
 have h2:=parse_eq (H.to 20) 1 [47,109,123,120,125] (by simp)
 have h3:=parse_eq (H.to 20) 1 [67,101,108] (by simp)
 have p1:=print235_eq (H.to 235) (x:=1) rfl awO1 ⟨⟨trivial,trivial⟩,trivial⟩ (by decide) (stepsV_tree _)
 have p2:=print235_eq (H.to 235) (x:=3) rfl awO2 trivial (by decide) (stepsV_tree _)
 have p3:=print235_eq (H.to 235) (x:=5) rfl awO3 trivial (by decide) (stepsV_tree _)
 rw [awP1] at h1
 rw [awP2] at h2
 rw [awP3] at h3
 rw [awD1] at p1
 rw [awD2] at p2
 rw [awD3] at p3
 simp only [Psd.cs] at h1 h2 h3
 simp only [prtT] at p1 p2 p3
 have c1:=stepsV_cell awT1.steps
 have c2:=stepsV_cell awT2.steps
 have c3:=stepsV_cell awT3.steps
 generalize stepsV awT1.steps = v1 at *
 generalize stepsV awT2.steps = v2 at *
 generalize stepsV awT3.steps = v3 at *
 simp [f231,start,EvCall_closed H.c20 rfl,EvCall_closed H.c235 rfl,h1,h2,h3,p1,p2,p3]
theorem printD_two (hx:isN x = true) (L:List Int):(∃ i e,printD x (madeT L) = ([],i,e)∧(e = 16∨e = 17∨e = 12))∨(printD x (madeT L) = (ptext x (madeT L),0,0)∧Prt x (madeT L)):=by
 obtain ⟨k1,k2,k3⟩:=madeT_ok L
 have hd:=made_deep L
 unfold printD
 cases h:missD x (madeT L).steps 0 with
 | some ie=>
  obtain ⟨i,e⟩:=ie
  refine .inl ⟨i,e,rfl,?_⟩
  rcases miss_er h with rfl | rfl
  ·exact .inl rfl
  ·exact .inr (.inl rfl)
 | none=>
  simp only
  rw [if_neg (by omega)]
  split
  ·exact .inl ⟨0,12,rfl,.inr (.inr rfl)⟩
  ·exact .inr ⟨rfl,hx,k1,k2,told_of _ _ h,hd,by omega⟩
set_option maxHeartbeats 1000000 in
set_option maxRecDepth 20000 in
theorem printBack_eq (H:Has 220 E) (n:Int) {v:AV} {L:List Int} (hv:IntsV v L):EvClosed E (.fn (.func 220) [] []) [.int .i64 n,v] = some (.bool true):=by
 obtain ⟨v',sv,hv'⟩:=ints_shut hv
 rw [EvClosed_eq H.c220 rfl (vs:=[.int .i64 n,v']) (by simp [sv]),EvFn_eq]
 have hk:1 ≤ 1 + n % 5∧1 + n % 5 ≤ 5:=by omega
 have hw:IntKind.i64.wrap (1 + n % 5) = 1 + n % 5:=w64
 have hr:=rest232_eq (H.to 232) (x:=n) (m:=5) (by omega) (by omega)
 generalize n % 5 = r at *
 have hkk:∃ k,k = 1 + r:=⟨_,rfl⟩
 obtain ⟨k,hkk⟩:=hkk
 rw [← hkk] at hk hw
 have hn:isN k = true:=by simp [isN,hk]
 have haw:=awake231_eq (H.to 231)
 have hm:=made_eq (H.to 163) hv'
 obtain ⟨k1,k2,k3⟩:=madeT_ok L
 have hp:=print235_eq (H.to 235) hn k1 k2 k3 (stepsV_tree _)
 have ct:=stepsV_cell (madeT L).steps
 rcases printD_two hn L with ⟨i,e,h0,he⟩ | ⟨h0,P⟩
 ·rw [h0] at hp
  simp only [prtT] at hp
  generalize stepsV (madeT L).steps = tv at *
  rw [hkk] at hw hp
  rcases he with rfl | rfl | rfl <;> simp [f220,start,EvCall_closed H.c231 rfl,EvCall_closed H.c232 rfl,EvCall_closed H.c163 rfl,EvCall_closed H.c235 rfl,haw,hr,hw,hm,hp]
 ·rw [h0] at hp
  simp only [prtT] at hp
  have pe:=parse_eq (H.to 20) k (ptext k (madeT L)) (by have:=P.len; omega)
  rw [P.parse] at pe
  simp only [Psd.cs] at pe
  have hs:=same_eq (H.to 160) (stepsV_tree (madeT L).steps) (stepsV_tree (madeT L).steps) (by omega)
  simp only [decide_true] at hs
  generalize stepsV (madeT L).steps = tv at *
  generalize ptext k (madeT L) = s at *
  rw [hkk] at hw hp pe
  simp [f220,start,EvCall_closed H.c231 rfl,EvCall_closed H.c232 rfl,EvCall_closed H.c163 rfl,EvCall_closed H.c235 rfl,EvCall_closed H.c20 rfl,EvCall_closed H.c160 rfl,haw,hr,hw,hm,hp,ct,pe,hs,push_setk]
end Go.Pv
/- A call's end as a row wants it, where its arguments hold no place. Conditions: none; lemmas. -/
namespace Go.Pv
open Go.RowKit Go.ChangeShapes Go.WideShapes
variable {H:Type} {enc:TypeId × Value→H} {P:Program}
end Go.Pv
/- Arguments: opened, and shut behind the call. Conditions: what the program's types are; lemmas. -/
namespace Go.Pv
open Go.RowKit Go.ChangeShapes Go.WideShapes Go.ChangeMaps Go.WideElems Go.Deep Go.Joins
variable {H:Type} {enc:TypeId × Value→H} {T:Tie} {W:World} {t e:TypeId} {v:Value} {d:DataW H} {ps:List MemPlace} {b0:Nat}
structure ArgOk (enc:TypeId × Value→H) (T:Tie) (W:World) (t:TypeId) (v:Value) (d:DataW H) (ps:List MemPlace) (av:AV):Prop where
 rep:RepV T (Ghost.met W) W av v
 shut:∀ W':World,W.keptBut W' (fun _=>False)→∀ sp:Nat→Bool,(∀ p ∈ ps,sp p.block = true)→DataW.Trod enc T.P W' 0 sp true t v d ps
theorem arg_int (ht:T.P.underlying t = some (.int .i64)) (hval:Value.okWide T.P W .any b0 t v) (hd:DataW.Trod enc T.P W 0 (fun _=>true) true t v d ps):∃ n,ArgOk enc T W t v d ps (.int .i64 n):=by
 obtain ⟨n,rfl,rfl,rfl,w⟩:=open_int ht hval hd
 exact ⟨n,⟨by simp [RepV],fun W' _ sp _=>shut_int ht w⟩⟩
theorem arg_string (ht:T.P.underlying t = some .string) (hval:Value.okWide T.P W .any b0 t v) (hd:DataW.Trod enc T.P W 0 (fun _=>true) true t v d ps):∃ s,ArgOk enc T W t v d ps (.str s):=by
 obtain ⟨s,rfl,rfl,rfl,w⟩:=open_string ht hval hd
 exact ⟨s.data.toList,⟨by simp [RepV],fun W' _ sp _=>shut_string ht w⟩⟩
theorem rep_ints {G:Ghost}:∀ l:List Int,RepL T G W (l.map (.int .i64)) (l.map (.int .i64))
 | []=>by simp [RepL]
 | n :: l=>by
  simp only [List.map_cons,RepL]
  exact ⟨_,_,rfl,by simp [RepV],rep_ints l⟩
theorem row_mem {a:Addr} {n:Nat} (hn:0 < n):MemPlace.cell a.block a.off ∈ MemPlace.row a n:=by
 simp only [MemPlace.row,List.mem_map,List.mem_range]
 exact ⟨0,hn,by simp⟩
theorem arg_ints (ht:T.P.underlying t = some (.slice e)) (he:T.P.underlying e = some (.int .i64)) (hc:T.P.cellsOf e = 1) (hval:Value.okWide T.P W .any b0 t v) (hd:DataW.Trod enc T.P W 0 (fun _=>true) true t v d ps):
  ∃ L av,IntsV av L∧ArgOk enc T W t v d ps av:=by
 obtain ⟨a0,l0,c0,rfl⟩:=okWide_slice ht hval
 obtain ⟨fuel,hf⟩:=hd
 rcases open_ints ht he hc hf with ⟨h1,h2⟩ | ⟨a,len,cap,zs,h1,hb,hl,hm,hz,h2,hcell,hw⟩
 ·simp only [Value.cells,List.cons.injEq,Value.slice.injEq,and_true] at h1
  obtain ⟨rfl,rfl,rfl⟩:=h1
  simp only [Prod.mk.injEq] at h2
  obtain ⟨rfl,rfl⟩:=h2
  refine ⟨[],.nils,.inl ⟨rfl,rfl⟩,by simp [RepV],fun W' _ sp _=>⟨1,?_⟩⟩
  simp [DataW.trod,Value.cells,ht]
 ·simp only [Value.cells,List.cons.injEq,Value.slice.injEq,and_true] at h1
  obtain ⟨rfl,rfl,rfl⟩:=h1
  simp only [Prod.mk.injEq] at h2
  obtain ⟨rfl,rfl⟩:=h2
  simp only [if_true] at hz
  have hlz:(zs.take l0).length = l0:=by rw [List.length_take]; omega
  refine ⟨zs.take l0,.vs .shared l0 ((zs.take l0).map (.int .i64)),.inr ⟨.shared,by rw [hlz]⟩,?_,fun W' hk sp hsp=>?_⟩
  ·simp only [RepV]
   refine ⟨_,_,rfl,hl,by simp,by simp,by simp,fun hne=>?_,fun h0=>by simp [h0]⟩
   have hpos:0 < zs.length:=by
    cases zs with
    | nil=>simp at hne
    | cons _ _=>simp
   obtain ⟨b,off,rfl,hcl⟩:=ints_at hcell hpos
   have hc0:=hcl 0 hpos
   obtain ⟨c,ce,fz,hblk⟩:∃ c ce fz,W.heap[b]? = some (.cells c ce fz):=by
    cases hq:W.heap[b]? with
    | none=>simp [World.cell?,hq] at hc0
    | some ob=>
     cases ob <;> first | (simp [World.cell?,hq] at hc0; done) | skip
     exact ⟨_,_,_,rfl⟩
   have hcell':∀ j,j < zs.length→c[off + j]? = some (.int .i64 (zs.getD j 0)):=fun j hj=>by
    have:=hcl j hj
    simp only [World.cell?,hblk] at this
    simpa using this
   refine ⟨b,off,c.size,rfl,by simp [Ghost.met,hblk],?_,?_⟩
   ·have:=hcell' (zs.length - 1) (by omega)
    have:=(Array.getElem?_eq_some_iff.1 this).1
    rw [List.length_map,hlz]
    omega
   ·refine RepM.of_list (rep_ints _) fun i x hx=>?_
    have hi:i < (zs.take l0).length:=by
     have:=(List.getElem?_eq_some_iff.1 hx).1
     simpa using this
    rw [List.getElem?_map,List.getElem?_eq_getElem hi] at hx
    simp only [Option.map_some,Option.some.injEq] at hx
    subst hx
    have hi2:i < zs.length:=by omega
    rw [hcl i hi2]
    congr 2
    rw [List.getElem_take]
    simp [List.getD,hi2]
  ·rcases Nat.eq_zero_or_pos zs.length with h0 | hpos
   ·refine ⟨0 + 2,?_⟩
    exact shut_ints 0 ht he hc (Nat.zero_le _) hl hm (by rw [h0]; split <;> omega) (fun i hi=>by omega) hw
   ·refine ⟨0 + 2,?_⟩
    have hspb:=hsp _ (row_mem (a:=a) hpos)
    obtain ⟨b,off,rfl,hcl⟩:=ints_at hcell hpos
    have hb':b < W.heap.size:=by
     have hc0:=hcl 0 hpos
     cases hq:W.heap[b]? with
     | none=>simp [World.cell?,hq] at hc0
     | some ob=>exact (Array.getElem?_eq_some_iff.1 hq).1
    exact shut_ints' 0 ht he hc (Nat.zero_le _) hl hm (by
     have:sp b = true:=hspb
     rw [this]; simpa using hz) (fun i hi=>by rw [hk.cell hb' (by simp)]; exact hcl i hi) hw
def Flat (enc:TypeId × Value→H) (P:Program) (t:TypeId):Prop:=∀ (W W':World) (sp sp':Nat→Bool) (n:Nat) (cs:List Value),DataW.trod enc P W 0 sp true n t cs = DataW.trod enc P W' 0 sp' true n t cs
variable {P:Program}
theorem flat_int {k:IntKind} (ht:P.underlying t = some (.int k)):Flat enc P t:=by
 intro W W' sp sp' n cs
 cases n with
 | zero=>rfl
 | succ n=>
  have one:∀ (W W':World) (sp sp':Nat→Bool) x,DataW.trod enc P W 0 sp true (n + 1) t cs = some x→DataW.trod enc P W' 0 sp' true (n + 1) t cs = some x:=by
   intro W W' sp sp' x h
   obtain ⟨m,rfl,rfl,hw⟩:=DataW.trod_int ht h
   exact trod_int_mk n ht hw
  apply Option.ext
  intro x
  exact ⟨one _ _ _ _ x,one _ _ _ _ x⟩
theorem mapM_same {α β:Type} {f g:α→Option β}:∀ l:List α,(∀ a ∈ l,f a = g a)→l.mapM f = l.mapM g
 | [],_=>rfl
 | a :: l,h=>by
  rw [List.mapM_cons,List.mapM_cons,h a (by simp),mapM_same l fun b hb=>h b (by simp [hb])]
theorem flat_array {m:Nat} (ht:P.underlying t = some (.array m e)) (hf:Flat enc P e):Flat enc P t:=by
 intro W W' sp sp' n cs
 cases n with
 | zero=>rfl
 | succ n=>
  simp only [DataW.trod,ht]
  rw [mapM_same _ fun i _=>hf W W' sp sp' n _]
theorem flat_shut (hf:Flat enc T.P t) {av:AV} (hr:RepV T (Ghost.met W) W av v) (hd:DataW.Trod enc T.P W 0 (fun _=>true) true t v d ps):ArgOk enc T W t v d ps av:=
 ⟨hr,fun W' _ sp _=>by
  obtain ⟨n,h⟩:=hd
  exact ⟨n,by rw [hf W' W sp (fun _=>true)]; exact h⟩⟩
section
variable {f0 f1 f2 f3:Field}
end
theorem post_kept {f:Func} {s:ChangeSpec} {apart fresh handsOn again:Bool} {W W':World} {args:Array Value} {v:Value} {ds gs:List (DataW H)} {before:List MemPlace}
  (hW:DataW.Whole enc P f.params.toList s.vars apart W args.toList ds gs before)
  (hres:∀ (b:Nat) (sp:Nat→Bool) (hd:Bool),DataW.TrodAll enc P W' b sp hd f.resultTypes.toList (v.resultList f.resultTypes.size) (s.fn H (ds++gs)).results [])
  (hargs:∀ sp:Nat→Bool,(∀ p ∈ before,sp p.block = true)→DataW.TrodAll enc P W' 0 sp true f.params.toList args.toList (s.fn H (ds++gs)).args before)
  (hvars:∀ sp:Nat→Bool,DataW.TrodVars enc P W' sp s.vars (s.fn H (ds++gs)).vars []) (hk:W.keptBut W' (fun _=>False))
  (hok:∀ (j:Nat) (t:TypeId) (r:Value),f.resultTypes[j]? = some t→(v.resultList f.resultTypes.size)[j]? = some r→Value.okWide P W' .any 0 t r):
  s.post enc P f apart fresh handsOn again W args v W':=by
 have hold:∀ p ∈ before,(fun b=>decide (b < W.heap.size)) p.block = true:=fun p hp=>by simpa using hW.lt p hp
 have hlt:=hW.lt
 refine ⟨ds,gs,before,[],before,[],hW,hres _ _ _,hargs _ hold,hvars _,World.keptBut_mono (fun p hp=>hp.elim) hk,fun _=>?_⟩
 obtain ⟨_,_,_,_,_,hz,hn⟩:=hW
 refine ⟨hok,_,_,([]++before)++[],⟨[]++before,[],trodAll_append (hargs _ (fun _ _=>rfl)) (hres _ _ _),hvars _,rfl,?_,?_⟩,?_⟩
 ·intro b off hp
  have hp':MemPlace.cell b off ∈ before:=by simpa using hp
  have h1:=hz b off hp'
  have h2:=hk.2.2 b (hlt _ hp')
  simp only [World.frozen?] at h1 ⊢
  cases hq:W.heap[b]? with
  | none=>
   rw [hq] at h2
   cases hq':W'.heap[b]? with
   | none=>rfl
   | some o=>rw [hq'] at h2; simp at h2
  | some o=>
   rw [hq] at h1 h2
   cases hq':W'.heap[b]? with
   | none=>rfl
   | some o'=>
    rw [hq'] at h2
    cases o <;> cases o' <;> simp_all
 ·intro ha
  simpa using hn ha
 ·intro p hp _
  simpa using hp
end Go.Pv
