/- A part of the proof: functions of the program in the evaluator's code, and what they come to. Conditions: none; definitions and theorems that the statement's proof uses. -/
import Derived.Test.YteiaohbhlapklaaGreatDoorSetPcBack4
import Derived.Test.YteiaohbhlapklaaGreatDoorSetPcTree3
import Derived.Test.YteiaohbhlapklaaGreatDoorSetPcNest0
import Derived.Test.YteiaohbhlapklaaGreatDoorSetPcPrint9
/- A text that is spoilt. Conditions: the functions' codes; theorems. -/
namespace Go.Pv
variable {E:Env}
def tlen (x:Int) (l:List Tok):Nat:=(joinS x l).length
theorem join_app (x:Int) (a b:List Tok):joinS x (a++b) = joinS x a++joinS x b:=by simp [joinS]
theorem joinV_eq (H:Has 165 E) (x:Int) (l:List Tok) (hl:l.length < 1000000) (ht:∀ t ∈ l,t.text.length < 1000000):EvClosed E (.fn (.func 165) [] []) [.int .i64 x,.vs .shared l.length (l.flatMap Tok.cs)] = some (.str (joinS x l)):=by
 cases l with
 | cons a r=>
  have:=join_eq H x (a :: r) hl ht
  simpa [toksV] using this
 | nil=>
  rw [EvClosed_eq H.c165 rfl (vs:=[.int .i64 x,.vs .shared 0 []]) (by simp),EvFn_eq]
  have ho:=refOf_eq (H.to 19) x
  simp only [Sty.cs] at ho
  simp [f165,start,EvCall_closed H.c19 rfl,ho,l165_0,joinS]
  rw [EvCode_loop]
  simp
end Go.Pv
/- What is printed is joined of its tokens, and has no small letters but in notes. Conditions: none; definitions and theorems. -/
namespace Go.Pv
variable {x:Int}
def Jn (x:Int) (s:List UInt8) (ts:List Tok):Prop:=joinS x ts = s
theorem jn_app {s1 s2:List UInt8} {a b:List Tok} (h1:Jn x s1 a) (h2:Jn x s2 b):Jn x (s1++s2) (a++b):=by
 unfold Jn at *
 rw [join_app,h1,h2]
theorem jn_cons {t:Tok} {b:List Tok} {c:UInt8} {s:List UInt8} (hk:t.kind ≠ 9) (ht:t.text = [c]) (h:Jn x s b):Jn x (c :: s) (t :: b):=by
 have hk':(t.kind == 9) = false:=by simpa using hk
 have e:tokT x t = [c]:=by simp [tokT,hk',ht]
 show tokT x t++joinS x b = _
 rw [e,h]
 rfl
theorem lxj_cons {c:UInt8} {k:Int} {s:List UInt8} (hk:kind x c = k) (h:k ≠ 0∧k ≠ 10∧k ≠ 1∧k ≠ 2∧k ≠ 9) (hs:Lx x s (Jn x s)):Lx x (c :: s) (Jn x (c :: s)):=
 lx_cons hk h hs fun t b h1 h2 h3=>jn_cons (by rw [h1]; exact h.2.2.2.2) h2 h3
theorem lxj_app {s1 s2:List UInt8} (h1:Lx x s1 (Jn x s1)) (h2:Lx x s2 (Jn x s2)) (hn:∀ rest,NJ x rest→NJ x (s2++rest)):Lx x (s1++s2) (Jn x (s1++s2)):=
 lx_app h1 h2 hn fun _ _ a b=>jn_app a b
theorem lxj_num (hx:isN x = true) {n:Int} (hn:n ≤ 9223372036854775807):Lx x (decS n.toNat) (Jn x (decS n.toNat)):=by
 intro rest p hr
 obtain ⟨d1,d2,d3⟩:=dec_ok (n:=n.toNat) (by omega)
 refine ⟨[⟨2,p,decS n.toNat,n.toNat⟩],by simp [Jn,joinS,tokT],?_⟩
 rw [lx_num hx d1 d2 d3 (by omega) (fun c r h=>(hr c r h).2) p]
 rfl
theorem lxj_pow (hx:isN x = true) {n:Int} (h1:-99 ≤ n) (h2:n ≤ 99):Lx x (powT (sty x) n) (Jn x (powT (sty x) n)):=by
 obtain ⟨_,_,_,_,k3,k6,_⟩:=kind_bytes hx
 have hnum:Lx x (if n < 0 then 45 :: decS (-n).toNat else decS n.toNat) (Jn x (if n < 0 then 45 :: decS (-n).toNat else decS n.toNat)):=by
  split
  ·exact lxj_cons k3 (by decide) (lxj_num hx (by omega))
  ·exact lxj_num hx (by omega)
 unfold powT
 split
 ·exact lx_nil rfl
 ·cases hp:(sty x).pow != 0
  ·simp only [Bool.false_eq_true,if_false,List.nil_append]
   exact hnum
  ·simp only [if_true,List.cons_append,List.nil_append]
   exact lxj_cons (k6 hp) (by decide) hnum
theorem lxj_brk (hx:isN x = true) {s:List UInt8} (h:Lx x s (Jn x s)) (b:Bool):Lx x (brkD b s) (Jn x (brkD b s)):=by
 obtain ⟨_,_,k7,k8,_⟩:=kind_bytes hx
 cases b with
 | false=>exact h
 | true=>
  simp only [brkD,if_true]
  exact lxj_cons k7 (by decide) (lxj_app h (lxj_cons k8 (by decide) (lx_nil rfl)) (fun rest _=>NJ.cons (by rw [k8]; decide) (by rw [k8]; decide)))
theorem lxj_note (hk:kind x (sty x).opn = 9) {w:List UInt8} (hw:plain x w = true):Lx x (noteD (sty x) w) (Jn x (noteD (sty x) w)):=by
 intro rest p _
 exact ⟨[⟨9,p,w,0⟩],by simp [Jn,joinS,tokT,noteD],lx_note hk hw rest p⟩
theorem lxj_tree (hx:isN x = true) {t:Tr} (ht:TrOk t):t.fits→t.told x→Lx x (ptext x t) (Jn x (ptext x t)):=by
 obtain ⟨k4,k5,k7,k8,k3,k6,k9⟩:=kind_bytes hx
 induction ht with
 | num n h1=>intro hf _; exact lxj_num hx hf
 | sym p a n a0 a1 p0 p1 n0 n1 hm=>
  intro _ hd rest q hr
  obtain ⟨c1,c2⟩:=symD_ok hx p a
  obtain ⟨t1,_⟩:=told_sym hd
  obtain ⟨us,hu,e⟩:=lxj_pow hx n0 n1 rest (q + (symD x p a).length) hr
  refine ⟨⟨1,q,symD x p a,0⟩ :: us,?_,?_⟩
  ·have e1:Jn x (symD x p a) [⟨1,q,symD x p a,0⟩]:=by simp [Jn,joinS,tokT]
   exact jn_app e1 hu
  simp only [ptext]
  rw [List.append_assoc,lx_sym c1 t1 (pow_head hx n0 n1 hr) q,c2,e,List.length_append,Nat.add_assoc]
  rfl
 | alone s h1 h2=>intro _ hd; exact lxj_note (k9 (plain_opn hd)) hd
 | note t s _ h1 h2 ih=>
  intro hf hd
  have:=k9 (plain_opn hd.2)
  exact lxj_app (lxj_brk hx (ih hf hd.1) _) (lxj_note this hd.2) (fun rest _=>NJ.cons (by rw [this]; decide) (by rw [this]; decide))
 | inv t _ ih=>
  intro hf hd
  exact lxj_cons k5 (by decide) (lxj_brk hx (ih hf hd) _)
 | bin o l r ho _ _ ih1 ih2=>
  intro hf hd
  have hkc:kind x (if o = 3 then (sty x).mul else (sty x).div) = (if o = 3 then 4 else 5):=by split <;> assumption
  have hkn:(if o = 3 then (4:Int) else 5) ≠ 0∧(if o = 3 then (4:Int) else 5) ≠ 10∧(if o = 3 then (4:Int) else 5) ≠ 1∧(if o = 3 then (4:Int) else 5) ≠ 2∧(if o = 3 then (4:Int) else 5) ≠ 9:=by split <;> decide
  exact lxj_app (ih1 hf.1 hd.1) (lxj_cons hkc hkn (lxj_brk hx (ih2 hf.2 hd.2) _)) (fun rest _=>NJ.cons (by rw [hkc]; exact hkn.2.2.1) (by rw [hkc]; exact hkn.2.2.2.1))
theorem join_print (hx:isN x = true) {t:Tr} (ht:TrOk t) (hf:t.fits) (hd:t.told x):∃ ts,TokT x t ts∧lexS x (ptext x t) = (ts,(ptext x t).length)∧joinS x ts = ptext x t:=by
 obtain ⟨ts,hts,e⟩:=lex_print hx ht hf hd
 obtain ⟨us,hus,e2⟩:=lxj_tree hx ht hf hd [] 0 NJ.nil
 rw [List.append_nil,lexG_nil,List.append_nil,Nat.zero_add] at e2
 have e3:lexS x (ptext x t) = (us,(ptext x t).length):=e2
 have:us = ts:=by
  rw [e3] at e
  exact congrArg Prod.fst e
 exact ⟨ts,hts,e,this ▸ hus⟩
theorem all_bytes {P:UInt8→Prop} (h:∀ i:Nat,i < 256→P (UInt8.ofNat i)) (c:UInt8):P c:=by
 have:=h c.toNat c.toNat_lt
 rwa [UInt8.ofNat_toNat] at this
def okR (x:Int) (c:UInt8):Bool:=(kind x c == 1 || raise1 (sty 2).fold c == c) && raise1 (sty 2).fold (raise1 (sty x).fold c) == raise1 (sty x).fold c
theorem okR_2:∀ i:Nat,i < 256→okR 2 (UInt8.ofNat i) = true:=by decide +kernel
theorem okR_4:∀ i:Nat,i < 256→okR 4 (UInt8.ofNat i) = true:=by decide +kernel
theorem okR_all (hx:x = 2∨x = 4) (c:UInt8):okR x c = true:=by
 rcases hx with rfl | rfl
 ·exact all_bytes (P:=fun c=>okR 2 c = true) okR_2 c
 ·exact all_bytes (P:=fun c=>okR 4 c = true) okR_4 c
theorem raise_same {s:List UInt8} (h:∀ c ∈ s,raise1 (sty 2).fold c = c):raise 2 s = s:=by
 unfold raise
 exact (List.map_congr_left fun c hc=>h c hc).trans (List.map_id _)
theorem run_all (x k:Int):∀ (s:List UInt8),∀ c ∈ s.take (runL x k s),(kind x c == k) = true
 | []=>fun c hc=>by simp at hc
 | c :: s=>by
  simp only [runL]
  split
  ·rename_i h
   intro d hd
   rw [List.take_succ_cons,List.mem_cons] at hd
   rcases hd with rfl | hd
   ·exact h
   ·exact run_all x k s d hd
  ·intro d hd
   simp at hd
theorem next_r (hx:x = 2∨x = 4) {s:List UInt8} {k n:Int} {t:List UInt8} {l:Nat} (h:nextS x s = some (k,t,n,l)):k = 9∨raise 2 t = t:=by
 have ok:=okR_all hx
 have single:∀ c,(kind x c == 1) = false→raise1 (sty 2).fold c = c:=by
  intro c hc
  have:=ok c
  simp only [okR,hc,Bool.false_or,Bool.and_eq_true,beq_iff_eq] at this
  exact this.1
 cases s with
 | nil=>cases h
 | cons c r=>
  simp only [nextS] at h
  split at h
  ·cases h
  ·split at h
   ·cases h
    refine .inr (raise_same fun d hd=>?_)
    unfold raise at hd
    obtain ⟨b,_,rfl⟩:=List.mem_map.1 hd
    have:=ok b
    simp only [okR,Bool.and_eq_true,beq_iff_eq] at this
    exact this.2
   ·rename_i h1
    split at h
    ·cases hn:numOf ((c :: r).take (runL x 2 (c :: r))) with
     | none=>rw [hn] at h; cases h
     | some v=>
      rw [hn] at h
      cases h
      refine .inr (raise_same fun d hd=>single d ?_)
      have:=run_all x 2 (c :: r) d hd
      rw [eq_of_beq this]
      rfl
    ·split at h
     ·cases hn:noteS x r with
      | none=>rw [hn] at h; cases h
      | some v=>rw [hn] at h; cases h; exact .inl rfl
     ·cases h
      refine .inr (raise_same fun d hd=>?_)
      rw [List.mem_singleton] at hd
      subst hd
      exact single _ (by simpa using h1)
def TokR (x:Int) (t:Tok):Prop:=(x = 2∨x = 4)→t.kind ≠ 9→raise 2 t.text = t.text
theorem lex_r (x:Int):∀ (f:Nat) (s:List UInt8) (p:Nat),∀ t ∈ (lexF x f s p).1,TokR x t
 | 0,s,p=>fun t ht=>by simp [lexF] at ht
 | f + 1,s,p=>by
  simp only [lexF]
  cases h:nextS x s with
  | none=>intro t ht; simp at ht
  | some g=>
   obtain ⟨k,tx,n,l⟩:=g
   intro t ht
   simp only [List.mem_cons] at ht
   rcases ht with rfl | ht
   ·intro hx hk
    rcases next_r hx h with h9 | h9
    ·exact absurd h9 hk
    ·exact h9
   ·exact lex_r x f _ _ t ht
def Tok3 (t:Tok):Prop:=t.kind = 3→t.text = [45]
theorem tok3_ne {t:Tok} (h:t.kind ≠ 3):Tok3 t:=fun e=>absurd e h
theorem t3_brk {P:List Tok→Prop} (h:∀ ts,P ts→∀ k ∈ ts,Tok3 k) (b:Bool) {ts:List Tok} (hb:Brk b P ts):∀ k ∈ ts,Tok3 k:=by
 cases b with
 | false=>exact h ts hb
 | true=>
  simp only [Brk,if_true] at hb
  obtain ⟨k,us,k',rfl,hk,hk',hu⟩:=hb
  intro q hq
  simp only [List.mem_cons,List.mem_append,List.not_mem_nil,or_false] at hq
  rcases hq with rfl | hq | rfl
  ·exact tok3_ne (by rw [hk]; decide)
  ·exact h us hu q hq
  ·exact tok3_ne (by rw [hk']; decide)
theorem t3_num {n:Int} {ts:List Tok} (h:NumTok n ts):∀ k ∈ ts,Tok3 k:=by
 unfold NumTok at h
 split at h
 ·obtain ⟨k,m,rfl,_,ht,hm,_⟩:=h
  intro q hq
  simp only [List.mem_cons,List.not_mem_nil,or_false] at hq
  rcases hq with rfl | rfl
  ·exact fun _=>ht
  ·exact tok3_ne (by rw [hm]; decide)
 ·obtain ⟨m,rfl,hm,_⟩:=h
  intro q hq
  rw [List.mem_singleton] at hq
  subst hq
  exact tok3_ne (by rw [hm]; decide)
theorem t3_tree:∀ (t:Tr) (ts:List Tok),TokT x t ts→∀ k ∈ ts,Tok3 k
 | .num n,_,⟨k,e,hk,_⟩=>by
  intro q hq
  rw [e,List.mem_singleton] at hq
  subst hq
  exact tok3_ne (by rw [hk]; decide)
 | .alone s,_,⟨k,e,hk,_⟩=>by
  intro q hq
  rw [e,List.mem_singleton] at hq
  subst hq
  exact tok3_ne (by rw [hk]; decide)
 | .sym p a n,_,⟨k,us,e,hk,_,hp⟩=>by
  intro q hq
  rw [e,List.mem_cons] at hq
  rcases hq with rfl | hq
  ·exact tok3_ne (by rw [hk]; decide)
  ·unfold PowTok at hp
   split at hp
   ·rw [hp] at hq
    simp at hq
   ·split at hp
    ·obtain ⟨k6,vs,rfl,hk6,hv⟩:=hp
     rcases List.mem_cons.1 hq with rfl | hq
     ·exact tok3_ne (by rw [hk6]; decide)
     ·exact t3_num hv q hq
    ·exact t3_num hp q hq
 | .note t s,_,⟨us,k,e,hb,hk,_⟩=>by
  intro q hq
  rw [e,List.mem_append,List.mem_singleton] at hq
  rcases hq with hq | rfl
  ·exact t3_brk (t3_tree t) _ hb q hq
  ·exact tok3_ne (by rw [hk]; decide)
 | .inv t,_,⟨k,us,e,hk,hb⟩=>by
  intro q hq
  rw [e,List.mem_cons] at hq
  rcases hq with rfl | hq
  ·exact tok3_ne (by rw [hk]; decide)
  ·exact t3_brk (t3_tree t) _ hb q hq
 | .bin o l r,_,⟨us,k,vs,e,hu,hk,hb⟩=>by
  intro q hq
  rw [e,List.mem_append,List.mem_cons] at hq
  rcases hq with hq | rfl | hq
  ·exact t3_tree l us hu q hq
  ·exact tok3_ne (by rw [hk]; split <;> decide)
  ·exact t3_brk (t3_tree r) _ hb q hq
end Go.Pv
/- PrintRaised is true. Conditions: the functions' codes; theorems. -/
namespace Go.Pv
variable {E:Env} {x:Int} {h:AHeap}
set_option maxHeartbeats 4000000 in
set_option maxRecDepth 20000 in
theorem t224_step (_H:Has 224 E) {b i nn:Nat} {own:Own} {ca:List AV} {e kd ps nm:Int} {tx s:List UInt8} (hb:h.bl b = some (.cells [.vs own nn ca,.int .i64 e])) (hro:h.ro = 0) (hlt:i < nn) (hnn:nn < 900000) (ll:ca.length = nn * 4)
  (e4:(ca.drop (i * 4)).take 4 = [.int .i64 kd,.int .i64 ps,.str tx,.int .i64 nm]) (hr:EvClosed E (.fn (.func 195) [] []) [.int .i64 2,.str tx] = some (.str (raise 2 tx)))
  (hT:(x = 2∨x = 4)→kd ≠ 9→raise 2 tx = tx) (h3:kd = 3→tx = [45]) {Q:Out}
  (ih:∀ F',mask k224_0 F' = s224_0 (.bool true) (.int .i64 x) (.str s) (.ref b 0) (.int .i64 ((i:Int) + 1))→EvCode E (.loop k224_0 l224_0) F' (h.push (.cells [.int .i64 kd,.int .i64 ps,.str tx,.int .i64 nm])) = Q)
  {F:Fr} (hF:mask k224_0 F = s224_0 (.bool true) (.int .i64 x) (.str s) (.ref b 0) (.int .i64 i)):EvCode E (.loop k224_0 l224_0) F h = Q:=by
 have w1:IntKind.i64.wrap ((i:Int) + 1) = (i:Int) + 1:=w64
 have h6:4 ≤ nn * 4 - i * 4:=by omega
 have h60:i * 4 < nn * 4:=by omega
 rw [EvCode_loop,hF]
 generalize EvCode E (.loop k224_0 l224_0) = lp at ih ⊢
 by_cases k9:kd = 9
 ·subst k9
  simp [l224_0,s224_0,hb,hlt,ll,h6,h60,e4,hro,push_setk,bl_push,w1]
  exact ih _ (by simp [s224_0])
 ·have q1:(kd == 9) = false:=by simpa using k9
  have p9:(kd != 9) = true:=by rw [bne,q1]; rfl
  by_cases k3:kd = 3
  ·subst k3
   have ht:=h3 rfl
   subst ht
   by_cases x2:x = 2
   ·subst x2
    have hT':=hT (.inl rfl) (by decide)
    simp [l224_0,s224_0,hb,hlt,ll,h6,h60,e4,hro,push_setk,bl_push,w1,hr,hT']
    exact ih _ (by simp [s224_0])
   ·by_cases x4:x = 4
    ·subst x4
     have hT':=hT (.inr rfl) (by decide)
     simp [l224_0,s224_0,hb,hlt,ll,h6,h60,e4,hro,push_setk,bl_push,w1,hr,hT']
     exact ih _ (by simp [s224_0])
    ·have x2':(x == 2) = false:=by simpa using x2
     have x4':(x == 4) = false:=by simpa using x4
     simp [l224_0,s224_0,hb,hlt,ll,h6,h60,e4,hro,push_setk,bl_push,w1,x2',x4']
     exact ih _ (by simp [s224_0])
  ·have k3':(kd == 3) = false:=by simpa using k3
   by_cases x2:x = 2
   ·subst x2
    have hT':=hT (.inl rfl) k9
    simp [l224_0,s224_0,hb,hlt,ll,h6,h60,e4,hro,push_setk,bl_push,w1,hr,hT',p9,k3']
    exact ih _ (by simp [s224_0])
   ·by_cases x4:x = 4
    ·subst x4
     have hT':=hT (.inr rfl) k9
     simp [l224_0,s224_0,hb,hlt,ll,h6,h60,e4,hro,push_setk,bl_push,w1,hr,hT',p9,k3']
     exact ih _ (by simp [s224_0])
    ·have x2':(x == 2) = false:=by simpa using x2
     have x4':(x == 4) = false:=by simpa using x4
     simp [l224_0,s224_0,hb,hlt,ll,h6,h60,e4,hro,push_setk,bl_push,w1,x2',x4',p9,k3']
     exact ih _ (by simp [s224_0])
theorem t224_loop (H:Has 224 E) {own:Own} {l:List Tok} (hl:l.length < 900000) (ht:∀ t ∈ l,t.text.length < 1000000∧TokR x t∧Tok3 t) {b:Nat} {e:Int} {s:List UInt8}:∀ (m i:Nat),i + m = l.length→∀ (h:AHeap),h.bl b = some (.cells [.vs own l.length (l.flatMap Tok.cs),.int .i64 e])→h.ro = 0 →
  ∃ h':AHeap,h'.bl b = h.bl b∧h'.ro = 0∧∀ F,mask k224_0 F = s224_0 (.bool true) (.int .i64 x) (.str s) (.ref b 0) (.int .i64 i)→EvCode E (.loop k224_0 l224_0) F h = some (.exit 0,x224_0 (.bool true) (.int .i64 x) (.str s) (.ref b 0),h')
 | 0,i,hi,h,hb,hro=>by
  have:i = l.length:=by omega
  subst this
  refine ⟨h,rfl,hro,fun F hF=>?_⟩
  rw [EvCode_loop,hF]
  generalize l.flatMap Tok.cs = ca at *
  simp [l224_0,s224_0,x224_0,hb]
 | m + 1,i,hi,h,hb,hro=>by
  have hlt:i < l.length:=by omega
  have e4:((l.flatMap Tok.cs).drop (i * 4)).take 4 = l[i].cs:=fm_el Tok.len hlt
  have ll:(l.flatMap Tok.cs).length = l.length * 4:=fm_len Tok.len l
  obtain ⟨t1,t2,t3⟩:=ht l[i] (List.getElem_mem hlt)
  have hr:=refRaise_eq (H.to 195) 2 l[i].text t1
  have hbl:b ≠ h.blks.length:=blk_ne hb
  have hb':(h.push (.cells l[i].cs)).bl b = some (.cells [.vs own l.length (l.flatMap Tok.cs),.int .i64 e]):=by rw [bl_push,if_neg hbl]; exact hb
  obtain ⟨h',q1,q2,q3⟩:=t224_loop H hl ht m (i + 1) (by omega) (h.push (.cells l[i].cs)) hb' (by simpa using hro)
  refine ⟨h',by rw [q1,hb',hb],q2,fun F hF=>?_⟩
  have cn:((i + 1:Nat):Int) = (i:Int) + 1:=by simp
  rw [cn] at q3
  exact t224_step H hb hro hlt hl ll e4 hr t2 t3 q3 hF
theorem joinW_eq (H:Has 165 E) (x:Int) (k:Nat) (l:List Tok) (hl:l.length < 1000000) (ht:∀ t ∈ l,t.text.length < 1000000):EvClosed E (.fn (.func 165) [] []) [.int .i64 x,.vs (.tok k 4) l.length (l.flatMap Tok.cs)] = some (.str (joinS x l)):=by
 have hs:=shutL_flat (n:=0) (t:=0) (f:=Tok.cs) (fun t=>t.shut) l
 have e:=joinV_eq H x l hl ht
 rw [EvClosed_eq H.c165 rfl (vs:=[.int .i64 x,.vs .shared l.length (l.flatMap Tok.cs)]) (by simp [hs])] at e ⊢
 exact e
set_option maxHeartbeats 2000000 in
set_option maxRecDepth 20000 in
theorem printRaised_eq (H:Has 224 E) (n:Int) {v:AV} {L:List Int} (hv:IntsV v L):EvClosed E (.fn (.func 224) [] []) [.int .i64 n,v] = some (.bool true):=by
 obtain ⟨v',sv,hv'⟩:=ints_shut hv
 rw [EvClosed_eq H.c224 rfl (vs:=[.int .i64 n,v']) (by simp [sv]),EvFn_eq]
 have hk:1 ≤ 1 + n % 5∧1 + n % 5 ≤ 5:=by omega
 have hw:IntKind.i64.wrap (1 + n % 5) = 1 + n % 5:=w64
 have hr:=rest232_eq (H.to 232) (x:=n) (m:=5) (by omega) (by omega)
 generalize n % 5 = r at *
 have hkk:∃ k,k = 1 + r:=⟨_,rfl⟩
 obtain ⟨k,hkk⟩:=hkk
 rw [← hkk] at hk hw
 have hn:isN k = true:=by simp [isN,hk]
 have haw:=awake231_eq (H.to 231)
 have hm:=made_eq (H.to 163) hv'
 obtain ⟨k1,k2,k3⟩:=madeT_ok L
 have hp:=print235_eq (H.to 235) hn k1 k2 k3 (stepsV_tree _)
 have ct:=stepsV_cell (madeT L).steps
 rcases printD_two hn L with ⟨i,e,h0,he⟩ | ⟨h0,P⟩
 ·rw [h0] at hp
  simp only [prtT] at hp
  generalize stepsV (madeT L).steps = tv at *
  rw [hkk] at hw hp
  rcases he with rfl | rfl | rfl <;> simp [f224,start,EvCall_closed H.c231 rfl,EvCall_closed H.c232 rfl,EvCall_closed H.c163 rfl,EvCall_closed H.c235 rfl,haw,hr,hw,hm,hp]
 ·rw [h0] at hp
  simp only [prtT] at hp
  obtain ⟨ts,hts,hlx,hj⟩:=join_print hn k1 k2 P.told
  have hlen:=P.len
  obtain ⟨g,w,e1,G,ro,rot,hold⟩:=each164_open (H.to 164) k (ptext k (madeT L)) (by omega) heap0 rfl (Nat.le_refl _)
  have hall:∀ t ∈ ts,t.text.length < 1000000∧TokR k t∧Tok3 t:=by
   intro t ht
   have ht':t ∈ (lexF k (ptext k (madeT L)).length (ptext k (madeT L)) 0).1:=by
    have e:lexF k (ptext k (madeT L)).length (ptext k (madeT L)) 0 = (ts,(ptext k (madeT L)).length):=hlx
    rw [e]
    exact ht
   exact ⟨by have:=(lexF_text k _ _ _ t ht').1; omega,lex_r k _ _ _ t ht',t3_tree _ ts hts t ht⟩
  have htl:ts.length ≤ (ptext k (madeT L)).length:=by
   have:=(lexF_len k (ptext k (madeT L)).length (ptext k (madeT L)) 0).1
   have e:lexF k (ptext k (madeT L)).length (ptext k (madeT L)) 0 = (ts,(ptext k (madeT L)).length):=hlx
   rw [e] at this
   exact this
  rw [hlx] at e1 G
  simp only at e1 G
  generalize stepsV (madeT L).steps = tv at *
  rcases G with ⟨rfl,hz,hz0⟩ | ⟨q,rfl,hcl,hk1,hk2,hpos⟩
  ·have hl0:ts = []:=List.eq_nil_of_length_eq_zero hz0
   subst hl0
   have hs0:ptext k (madeT L) = []:=hj.symm
   have hjn:=join_eq (H.to 165) k [] (by simp) (by simp)
   simp only [toksV,List.isEmpty_nil,if_true] at hjn
   rw [hj,hs0] at hjn
   rw [hs0] at hp e1
   rw [hkk] at hw hp e1 hjn
   simp [f224,start,EvCall_closed H.c231 rfl,EvCall_closed H.c232 rfl,EvCall_closed H.c163 rfl,EvCall_closed H.c235 rfl,haw,hr,hw,hm,hp,e1,ro,push_setk]
   rw [EvCode_loop]
   simp [l224_0,EvCall_closed H.c165 rfl,hjn,bl_push]
  ·have hjn:=joinW_eq (H.to 165) k q ts (by omega) (fun t ht=>(hall t ht).1)
   rw [hj] at hjn
   generalize ptext k (madeT L) = s at *
   obtain ⟨g',q1,q2,q3⟩:=t224_loop (E:=E) (x:=k) H (own:=.tok q 4) (l:=ts) (by omega) hall (b:=g.blks.length) (e:=(s.length:Nat)) (s:=s) ts.length 0 (by omega) (g.push (.cells [.vs (.tok q 4) ts.length (ts.flatMap Tok.cs),.int .i64 (s.length:Nat)])) (by rw [bl_push,if_pos rfl]) (by simpa using ro)
   rw [bl_push,if_pos rfl] at q1
   generalize ts.flatMap Tok.cs = ca at *
   rw [hkk] at hw hp e1 hjn q3
   simp [f224,start,EvCall_closed H.c231 rfl,EvCall_closed H.c232 rfl,EvCall_closed H.c163 rfl,EvCall_closed H.c235 rfl,haw,hr,hw,hm,hp,e1,ro,push_setk]
   rw [q3 _ (by simp [s224_0])]
   simp [x224_0,EvCall_closed H.c165 rfl,hjn,q1]
end Go.Pv
