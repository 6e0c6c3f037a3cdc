/- A part of the proof: functions of the program in the evaluator's code, and what they come to. Conditions: none; definitions and theorems that the statement's proof uses. -/
import Derived.Test.YtamopjeecnhfaaaGreatDoorSetwPcEv7
/- The program's Eval: its stack, its loop's parts. Conditions: the functions' codes; theorems. -/
namespace Go.Pv
variable {E:Env}
def tl283:SCode:=(.seq (.seq (.region false [ .m 80 9,.o 81 (.bin .neq .none (.t 80) (.i 0))]) (.cond (.t 81) (.seq (.region false [ .o 82 (.build [(.int .i64 0),(.int .i64 0),(.int .i64 0),(.int .i64 0),(.int .i64 0),(.int .i64 0),(.int .i64 0),(.int .i64 0),(.int .i64 0),(.int .i64 0),(.int .i64 0)] []),.m 83 9,.n (.store 11 (.t 2) (.t 82)),.m 3 83]) (.ret q283)) .skip)) (.region false [ .o 84 (.load false 1 (.t 4)),.o 85 (.load true 11 (.t 8)),.o 86 (.buildSlice 1 [(.int .i64 0),(.int .i64 0),(.int .i64 0),(.int .i64 0),(.int .i64 0),(.int .i64 0),(.int .i64 0),(.int .i64 0),(.int .i64 0),(.int .i64 0),(.int .i64 0)] [(0,11,(.t 85))]),.o 87 (.appendRow 11 88 (.t 84) (.t 86)),.n (.store 1 (.t 4) (.t 87))]))
def ab283:SCode:=(.seq (.region false [ .o 23 (.indexAddrVs 6 (.t 19) (.t 21)),.o 24 (.load true 6 (.t 23)),.o 7 (.alloc [(.int .i64 0),(.int .i64 0),(.int .i64 0),(.int .i64 0),(.int .i64 0),(.str [])]),.n (.store 6 (.t 7) (.t 24))]) (.seq (.region false [ .o 25 (.load true 11 (.glob 8)),.o 8 (.alloc [(.int .i64 0),(.int .i64 0),(.int .i64 0),(.int .i64 0),(.int .i64 0),(.int .i64 0),(.int .i64 0),(.int .i64 0),(.int .i64 0),(.int .i64 0),(.int .i64 0)]),.n (.store 11 (.t 8) (.t 25)),.o 9 (.mov (.i 0))]) (.seq (.region false [ .o 26 (.fieldAddr 0 (.t 7)),.o 27 (.load false 1 (.t 26))]) (.block 2 q283_2 (.seq (.region false [ .o 29 (.bin .eql .none (.t 27) (.i 1)),.m 28 29]) (.cond (.t 28) (.region false [ .o 31 (.fieldAddr 4 (.t 7)),.o 32 (.load false 1 (.t 31)),.o 33 (.call (.f 293) [(.t 32)]),.m 30 33,.o 34 (.extract 0 (.t 30)),.o 35 (.extract 1 (.t 30)),.n (.store 11 (.t 8) (.t 34)),.m 9 35]) (.seq (.region false [ .o 37 (.bin .eql .none (.t 27) (.i 2)),.m 36 37]) (.cond (.t 36) (.region false [ .o 39 (.load true 6 (.t 7)),.o 40 (.call (.f 287) [(.t 39)]),.m 38 40,.o 41 (.extract 0 (.t 38)),.o 42 (.extract 1 (.t 38)),.n (.store 11 (.t 8) (.t 41)),.m 9 42]) (.seq (.region false [ .o 44 (.bin .eql .none (.t 27) (.i 6)),.m 43 44]) (.cond (.t 43) (.region false [ .m 45 5,.o 46 (.call (.t 45) []),.n (.store 11 (.t 8) (.t 46))]) (.seq (.region false [ .o 48 (.bin .eql .none (.t 27) (.i 5)),.m 47 48]) (.cond (.t 47) (.mixed [ .o 50 (.load true 11 (.glob 8)),.m 51 5] (.o 52 (.call (.t 51) [])) [ .o 53 (.call (.f 294) [(.t 50),(.t 52)]),.m 49 53,.o 54 (.extract 0 (.t 49)),.o 55 (.extract 1 (.t 49)),.n (.store 11 (.t 8) (.t 54)),.m 9 55]) (.seq (.region false [ .o 57 (.bin .eql .none (.t 27) (.i 3)),.m 56 57]) (.cond (.t 56) (.seq (.region false [ .m 58 5,.o 59 (.call (.t 58) []),.m 60 5,.o 61 (.call (.t 60) []),.o 10 (.alloc [(.int .i64 0),(.int .i64 0),(.int .i64 0),(.int .i64 0),(.int .i64 0),(.int .i64 0),(.int .i64 0),(.int .i64 0),(.int .i64 0),(.int .i64 0),(.int .i64 0)]),.o 11 (.alloc [(.int .i64 0),(.int .i64 0),(.int .i64 0),(.int .i64 0),(.int .i64 0),(.int .i64 0),(.int .i64 0),(.int .i64 0),(.int .i64 0),(.int .i64 0),(.int .i64 0)]),.n (.store 11 (.t 10) (.t 59)),.n (.store 11 (.t 11) (.t 61))]) (.region false [ .o 63 (.load true 11 (.t 11)),.o 64 (.load true 11 (.t 10)),.o 65 (.call (.f 295) [(.t 63),(.t 64)]),.m 62 65,.o 66 (.extract 0 (.t 62)),.o 67 (.extract 1 (.t 62)),.n (.store 11 (.t 8) (.t 66)),.m 9 67])) (.seq (.region false [ .o 69 (.bin .eql .none (.t 27) (.i 4)),.m 68 69]) (.cond (.t 68) (.seq (.region false [ .m 70 5,.o 71 (.call (.t 70) []),.m 72 5,.o 73 (.call (.t 72) []),.o 12 (.alloc [(.int .i64 0),(.int .i64 0),(.int .i64 0),(.int .i64 0),(.int .i64 0),(.int .i64 0),(.int .i64 0),(.int .i64 0),(.int .i64 0),(.int .i64 0),(.int .i64 0)]),.o 13 (.alloc [(.int .i64 0),(.int .i64 0),(.int .i64 0),(.int .i64 0),(.int .i64 0),(.int .i64 0),(.int .i64 0),(.int .i64 0),(.int .i64 0),(.int .i64 0),(.int .i64 0)]),.n (.store 11 (.t 12) (.t 71)),.n (.store 11 (.t 13) (.t 73))]) (.region false [ .o 75 (.load true 11 (.t 13)),.o 76 (.load true 11 (.t 12)),.o 77 (.call (.f 294) [(.t 75),(.t 76)]),.m 74 77,.o 78 (.extract 0 (.t 74)),.o 79 (.extract 1 (.t 74)),.n (.store 11 (.t 8) (.t 78)),.m 9 79])) .skip))))))))))))))))
def body283:SCode:=(.seq (.region false [ .o 23 (.indexAddrVs 6 (.t 19) (.t 21)),.o 24 (.load true 6 (.t 23)),.o 7 (.alloc [(.int .i64 0),(.int .i64 0),(.int .i64 0),(.int .i64 0),(.int .i64 0),(.str [])]),.n (.store 6 (.t 7) (.t 24))]) (.seq (.region false [ .o 25 (.load true 11 (.glob 8)),.o 8 (.alloc [(.int .i64 0),(.int .i64 0),(.int .i64 0),(.int .i64 0),(.int .i64 0),(.int .i64 0),(.int .i64 0),(.int .i64 0),(.int .i64 0),(.int .i64 0),(.int .i64 0)]),.n (.store 11 (.t 8) (.t 25)),.o 9 (.mov (.i 0))]) (.seq (.seq (.region false [ .o 26 (.fieldAddr 0 (.t 7)),.o 27 (.load false 1 (.t 26))]) (.block 2 q283_2 (.seq (.region false [ .o 29 (.bin .eql .none (.t 27) (.i 1)),.m 28 29]) (.cond (.t 28) (.region false [ .o 31 (.fieldAddr 4 (.t 7)),.o 32 (.load false 1 (.t 31)),.o 33 (.call (.f 293) [(.t 32)]),.m 30 33,.o 34 (.extract 0 (.t 30)),.o 35 (.extract 1 (.t 30)),.n (.store 11 (.t 8) (.t 34)),.m 9 35]) (.seq (.region false [ .o 37 (.bin .eql .none (.t 27) (.i 2)),.m 36 37]) (.cond (.t 36) (.region false [ .o 39 (.load true 6 (.t 7)),.o 40 (.call (.f 287) [(.t 39)]),.m 38 40,.o 41 (.extract 0 (.t 38)),.o 42 (.extract 1 (.t 38)),.n (.store 11 (.t 8) (.t 41)),.m 9 42]) (.seq (.region false [ .o 44 (.bin .eql .none (.t 27) (.i 6)),.m 43 44]) (.cond (.t 43) (.region false [ .m 45 5,.o 46 (.call (.t 45) []),.n (.store 11 (.t 8) (.t 46))]) (.seq (.region false [ .o 48 (.bin .eql .none (.t 27) (.i 5)),.m 47 48]) (.cond (.t 47) (.mixed [ .o 50 (.load true 11 (.glob 8)),.m 51 5] (.o 52 (.call (.t 51) [])) [ .o 53 (.call (.f 294) [(.t 50),(.t 52)]),.m 49 53,.o 54 (.extract 0 (.t 49)),.o 55 (.extract 1 (.t 49)),.n (.store 11 (.t 8) (.t 54)),.m 9 55]) (.seq (.region false [ .o 57 (.bin .eql .none (.t 27) (.i 3)),.m 56 57]) (.cond (.t 56) (.seq (.region false [ .m 58 5,.o 59 (.call (.t 58) []),.m 60 5,.o 61 (.call (.t 60) []),.o 10 (.alloc [(.int .i64 0),(.int .i64 0),(.int .i64 0),(.int .i64 0),(.int .i64 0),(.int .i64 0),(.int .i64 0),(.int .i64 0),(.int .i64 0),(.int .i64 0),(.int .i64 0)]),.o 11 (.alloc [(.int .i64 0),(.int .i64 0),(.int .i64 0),(.int .i64 0),(.int .i64 0),(.int .i64 0),(.int .i64 0),(.int .i64 0),(.int .i64 0),(.int .i64 0),(.int .i64 0)]),.n (.store 11 (.t 10) (.t 59)),.n (.store 11 (.t 11) (.t 61))]) (.region false [ .o 63 (.load true 11 (.t 11)),.o 64 (.load true 11 (.t 10)),.o 65 (.call (.f 295) [(.t 63),(.t 64)]),.m 62 65,.o 66 (.extract 0 (.t 62)),.o 67 (.extract 1 (.t 62)),.n (.store 11 (.t 8) (.t 66)),.m 9 67])) (.seq (.region false [ .o 69 (.bin .eql .none (.t 27) (.i 4)),.m 68 69]) (.cond (.t 68) (.seq (.region false [ .m 70 5,.o 71 (.call (.t 70) []),.m 72 5,.o 73 (.call (.t 72) []),.o 12 (.alloc [(.int .i64 0),(.int .i64 0),(.int .i64 0),(.int .i64 0),(.int .i64 0),(.int .i64 0),(.int .i64 0),(.int .i64 0),(.int .i64 0),(.int .i64 0),(.int .i64 0)]),.o 13 (.alloc [(.int .i64 0),(.int .i64 0),(.int .i64 0),(.int .i64 0),(.int .i64 0),(.int .i64 0),(.int .i64 0),(.int .i64 0),(.int .i64 0),(.int .i64 0),(.int .i64 0)]),.n (.store 11 (.t 12) (.t 71)),.n (.store 11 (.t 13) (.t 73))]) (.region false [ .o 75 (.load true 11 (.t 13)),.o 76 (.load true 11 (.t 12)),.o 77 (.call (.f 294) [(.t 75),(.t 76)]),.m 74 77,.o 78 (.extract 0 (.t 74)),.o 79 (.extract 1 (.t 74)),.n (.store 11 (.t 8) (.t 78)),.m 9 79])) .skip)))))))))))))) tl283)))
def g283 (t2 t4 t5 t19 t20 t21:AV):Fr:=⟨[J,J,t2,J,t4,t5,J,J,J,J,J,J,J,J,J,J,J,J,J,t19,t20,t21,.bool true,J,J,J,J,J,J,J,J,J,J,J,J,J,J,J,J,J,J,J,J,J,J,J,J,J,J,J,J,J,J,J,J,J,J,J,J,J,J,J,J,J,J,J,J,J,J,J,J,J,J,J,J,J,J,J,J,J,J,J,J,J,J,J,J,J,J,J,J,J],[],.call⟩
theorem l283_eq:l283_0 = (.seq (.region false [ .o 22 (.bin .lss .none (.t 21) (.t 20))]) (.seq (.cond (.t 22) .skip (.exit 0 q283_0)) (.seq (.block 1 q283_1 body283) (.region false [ .o 88 (.bin .add .none (.t 21) (.i 1)),.m 21 88])))):=by rfl
theorem thenDo_thenDo {k k':Fr→AHeap→Out} {o:Out}:thenDo k' (thenDo k o) = thenDo (fun F h=>thenDo k' (k F h)) o:=by
 cases o with
 | none=>rfl
 | some p=>
  obtain ⟨x,F,h⟩:=p
  cases x <;> rfl
theorem body283_eq (F:Fr) (h:AHeap):EvCode E body283 F h = thenDo (EvCode E tl283) (EvCode E ab283 F h):=by
 unfold body283 ab283
 rw [EvCode_seq,EvCode_seq,thenDo_thenDo]
 congr 1
 funext F' h'
 rw [EvCode_seq,EvCode_seq,thenDo_thenDo]
 congr 1
 funext F' h'
 rw [EvCode_seq]
def StV (m:Nat) (st:List Wo) (V:AV) (h:AHeap):Prop:=
 (V = .nils∧st = [])∨∃ b cs,V = .row b 11 st.length∧1 < b∧b < m∧h.bl b = some (.cells cs)∧cs.take (st.length * 11) = st.reverse.flatMap Wo.C∧st.length * 11 ≤ cs.length
structure StH (m:Nat) (st:List Wo) (h:AHeap):Prop where
 ro:h.ro = 0
 b0:h.bl 0 = some (.cells z11C)
 b1:∃ V,h.bl 1 = some (.cells [V])∧StV m st V h
 wo:∀ w ∈ st,WoOk w
 two:2 ≤ m
 le:m ≤ h.blks.length
theorem StH.keep {m:Nat} {st:List Wo} {h h':AHeap} (s:StH m st h) (hr:h'.ro = h.ro) (hl:m ≤ h'.blks.length) (hk:∀ j,j < m→h'.bl j = h.bl j):StH m st h':=by
 obtain ⟨V,h1,hv⟩:=s.b1
 have two:=s.two
 refine ⟨hr.trans s.ro,(hk 0 (by omega)).trans s.b0,⟨V,(hk 1 (by omega)).trans h1,?_⟩,s.wo,two,hl⟩
 rcases hv with hv | ⟨b,cs,e1,e2,e3,e4,e5⟩
 ·exact .inl hv
 ·exact .inr ⟨b,cs,e1,e2,e3,(hk b e3).trans e4,e5⟩
theorem StH.push {m:Nat} {st:List Wo} {h:AHeap} (s:StH m st h) (y:ABlk):StH m st (h.push y):=by
 have le:=s.le
 exact s.keep rfl (by rw [blks_push_length]; omega) (fun j hj=>by rw [bl_push,if_neg (by omega)])
theorem StH.set {m:Nat} {st:List Wo} {h:AHeap} (s:StH m st h) {k:Nat} (hk:m ≤ k) (y:ABlk):StH m st (h.setBlk k y):=by
 have le:=s.le
 exact s.keep rfl (by rw [blks_set_length]; omega) (fun j hj=>by rw [bl_set,if_neg (by omega)])
theorem StH.up {m m':Nat} {st:List Wo} {h:AHeap} (s:StH m st h) (h1:m ≤ m') (h2:m' ≤ h.blks.length):StH m' st h:=by
 obtain ⟨V,hV,hv⟩:=s.b1
 have two:=s.two
 refine ⟨s.ro,s.b0,⟨V,hV,?_⟩,s.wo,by omega,h2⟩
 rcases hv with hv | ⟨b,cs,e1,e2,e3,e4,e5⟩
 ·exact .inl hv
 ·exact .inr ⟨b,cs,e1,e2,by omega,e4,e5⟩
theorem StV.cell {m:Nat} {st:List Wo} {V:AV} {h:AHeap} (s:StV m st V h):V.isCell = true∧V.cells? = some [V]:=by
 rcases s with ⟨rfl,_⟩ | ⟨b,cs,rfl,_⟩ <;> exact ⟨rfl,rfl⟩
theorem ic_row (b sz n:Nat):(AV.row b sz n).isCell = true:=rfl
set_option maxRecDepth 20000 in
theorem pop292 (H:Has 292 E) {m:Nat} {w:Wo} {st:List Wo} {h:AHeap} (s:StH m (w :: st) h) (hs:st.length < 1000000):∃ h',EvCall E (.fn (.func 292) [] [.ref 1 0]) [] h = some (.ret (.agg w.C),h')∧StH m st h'∧Keep1 1 h h':=by
 obtain ⟨V,h1,hv⟩:=s.b1
 rcases hv with ⟨_,hv⟩ | ⟨b,cs,rfl,b1,bm,hb,htk,hle⟩
 ·cases hv
 have mle:=s.le
 have two:=s.two
 have hwo:WoOk w:=s.wo w List.mem_cons_self
 have hso:∀ x ∈ st,WoOk x:=fun x hx=>s.wo x (List.mem_cons_of_mem _ hx)
 have l1:=blk_lt h1
 have lb:=blk_lt hb
 have lw:=Wo.C_len hwo.len
 have lr:(st.reverse.flatMap Wo.C).length = st.length * 11:=by
  rw [wo_len (ws:=st.reverse) (fun x hx=>hso x (List.mem_reverse.1 hx)),List.length_reverse]
 simp only [List.length_cons] at htk hle
 rw [List.reverse_cons,List.flatMap_append,List.flatMap_singleton] at htk
 have e1:cs.take (st.length * 11) = st.reverse.flatMap Wo.C:=by
  have:cs.take (st.length * 11) = (cs.take ((st.length + 1) * 11)).take (st.length * 11):=by rw [List.take_take,Nat.min_eq_left (by omega)]
  rw [this,htk,List.take_left' lr]
 have e2:(cs.drop (st.length * 11)).take 11 = w.C:=by
  have:(cs.drop (st.length * 11)).take 11 = (cs.take ((st.length + 1) * 11)).drop (st.length * 11):=by
   rw [List.drop_take]; congr 1; omega
  rw [this,htk,List.drop_left' lr]
 have hro:=s.ro
 have aw:=Wo.C_all w
 have tw:w.C.take 11 = w.C:=List.take_of_length_le (by omega)
 have sw:setCells 0 w.C z11C = w.C:=set_11 lw
 have n1:¬ 1 = h.blks.length:=by omega
 have n1':¬ 1 = h.blks.length + 1:=by omega
 have nb:¬ b = h.blks.length:=by omega
 have nb':¬ b = h.blks.length + 1:=by omega
 have nb1:¬ 1 = b:=by omega
 have ne:¬ h.blks = []:=by intro h'; rw [h'] at l1; simp at l1
 have m1:¬ h.blks.length = h.blks.length + 1:=by omega
 have i1:IntKind.i64.wrap (st.length:Int) = (st.length:Int):=w64
 have i2:(st.length:Int) < (st.length:Int) + 1:=by omega
 have i3:st.length * 11 + 11 ≤ cs.length:=by omega
 have i4:(st.length:Int) ≤ (st.length:Int) + 1:=by omega
 refine ⟨(((h.push (.cells z11C)).push (.cells w.C)).setBlk 1 (.cells [.row b 11 st.length])).setBlk h.blks.length (.cells w.C),?_,?_,?_⟩
 ·rw [EvCall_open H.c292 rfl,EvFn_eq]
  generalize w.C = W at *
  simp [f292,start,h1,hb,hro,n1,nb,ne,i1,i2,i3,i4,e2,lw,aw,tw,sw,ic_row,push_setk]
 ·have n0:¬ 0 = h.blks.length:=by omega
  have k1:¬ h.blks.length = 1:=by omega
  have k0:¬ h.blks.length = 0:=by omega
  have kb:¬ h.blks.length = b:=by omega
  refine ⟨by simp [hro],?_,⟨.row b 11 st.length,?_,.inr ⟨b,cs,rfl,b1,bm,?_,e1,by omega⟩⟩,hso,two,by rw [blks_set_length,blks_set_length,blks_push_length,blks_push_length]; omega⟩
  ·have:=s.b0
   simp [this,n0,k0]
  ·simp [n1,h1,ne,k1]
  ·simp [nb,nb',nb1,kb,hb]
 ·refine ⟨fun j hj hj1=>?_,by rw [blks_set_length,blks_set_length,blks_push_length,blks_push_length]; omega,rfl,rfl,rfl⟩
  have k1:¬ j = h.blks.length:=by omega
  have k2:¬ j = h.blks.length + 1:=by omega
  have k3:¬ 1 = j:=fun e=>hj1 e.symm
  have k4:¬ h.blks.length = j:=by omega
  simp [k1,k2,k3,k4]
theorem appR_row {h:AHeap} {b n:Nat} {cs xs:List AV} (hro:h.ro = 0) (hb:h.bl b = some (.cells cs)) (hl:n * 11 ≤ cs.length) (hn:n < 1000000) (hx:xs.length = 11) (hc:xs.all AV.isCell = true):
  appendR 11 88 h (.row b 11 n) (.vs .full 1 xs) = some (.row h.blks.length 11 (n + 1),(h.setBlk b .dead).push (.cells (cs.take (n * 11)++xs))):=by
 have h1:(n + 1) * 88 ≤ 140737488355328:=by omega
 have hc':=List.all_eq_true.1 hc
 simp [appendR,sliceCells,hb,hro,hl,hx,h1]
 exact hc'
theorem appR_nil {h:AHeap} {xs:List AV} (hx:xs.length = 11) (hc:xs.all AV.isCell = true):
  appendR 11 88 h .nils (.vs .full 1 xs) = some (.row h.blks.length 11 1,h.push (.cells xs)):=by
 have hc':=List.all_eq_true.1 hc
 simp [appendR,sliceCells,hx]
 exact hc'
theorem StH.app {m:Nat} {st:List Wo} {w:Wo} {h:AHeap} (s:StH m st h) (hw:WoOk w) (hn:st.length < 1000000) {V:AV} (hV:h.bl 1 = some (.cells [V])):
  ∃ V' h2,appendR 11 88 h V (.vs .full 1 w.C) = some (V',h2)∧V'.isCell = true∧V'.cells? = some [V']∧h2.ro = 0∧h2.bl 1 = some (.cells [V])∧StH h2.blks.length (w :: st) (h2.setBlk 1 (.cells [V'])):=by
 obtain ⟨V0,h1,hv⟩:=s.b1
 obtain rfl:V0 = V:=by rw [h1] at hV; cases hV; rfl
 have l1:=blk_lt h1
 have lw:=Wo.C_len hw.len
 have two:=s.two
 have mle:=s.le
 have hwo:∀ x ∈ w :: st,WoOk x:=fun x hx=>by
  rcases List.mem_cons.1 hx with rfl | hx
  ·exact hw
  ·exact s.wo x hx
 have n0:¬ 0 = h.blks.length:=by omega
 have n1:¬ 1 = h.blks.length:=by omega
 have z0:=s.b0
 have ne:¬ h.blks = []:=by intro h'; rw [h'] at l1; simp at l1
 rcases hv with ⟨rfl,rfl⟩ | ⟨b,cs,rfl,b1,bm,hb,htk,hle⟩
 ·refine ⟨_,_,appR_nil lw (Wo.C_all w),rfl,rfl,s.ro,by simp [n1,h1],⟨by simp [s.ro],by simp [n0,z0],⟨.row h.blks.length 11 1,by simp [n1,h1],.inr ⟨h.blks.length,w.C,rfl,by omega,by rw [blks_push_length]; omega,?_,?_,by rw [lw]; simp⟩⟩,hwo,by rw [blks_push_length]; omega,by rw [blks_set_length]; exact Nat.le_refl _⟩⟩
  ·rw [bl_set,if_neg (by omega),bl_push,if_pos rfl]
  ·rw [List.take_of_length_le (by rw [lw]; simp)]; simp
 ·have lb:=blk_lt hb
  have nb0:¬ b = 0:=by omega
  have nb1:¬ b = 1:=by omega
  have lr:(st.reverse.flatMap Wo.C).length = st.length * 11:=by
   rw [wo_len (ws:=st.reverse) (fun x hx=>s.wo x (List.mem_reverse.1 hx)),List.length_reverse]
  refine ⟨_,_,appR_row s.ro hb hle hn lw (Wo.C_all w),rfl,rfl,by simp [s.ro],by simp [n1,nb1,h1],⟨by simp [s.ro],by simp [n0,nb0,z0],⟨.row h.blks.length 11 (st.length + 1),by simp [n1,nb1,h1],.inr ⟨h.blks.length,cs.take (st.length * 11)++w.C,rfl,by omega,by rw [blks_push_length,blks_set_length]; omega,?_,?_,?_⟩⟩,hwo,by rw [blks_push_length,blks_set_length]; omega,by rw [blks_set_length]; exact Nat.le_refl _⟩⟩
  ·rw [bl_set,if_neg (by omega),bl_push,blks_set_length,if_pos rfl]
  ·rw [List.reverse_cons,List.flatMap_append,List.flatMap_singleton,htk,List.take_of_length_le (by rw [List.length_append,lr,lw,List.length_cons]; omega)]
  ·rw [List.length_append,List.length_take,lw,List.length_cons]; omega
set_option maxRecDepth 20000 in
theorem tail_err {m:Nat} {st:List Wo} {h:AHeap} (s:StH m st h) {e:Int} (he:e ≠ 0) {b8:Nat} {t5 t19 t20 t21:AV}:
  ∃ h',EvCode E tl283 (x283_2 (.ref 0 0) (.ref 1 0) t5 (.ref b8 0) (.int .i64 e) t19 t20 t21) h = some (.ret,r283 (.ref 0 0) (.int .i64 e),h')∧h'.bl 0 = some (.cells z11C):=by
 have h0:=s.b0
 have hro:=s.ro
 have he':(e != 0) = true:=by simpa using he
 have hl:=blk_lt h0
 refine ⟨h.setBlk 0 (.cells z11C),?_,by simp [h0]⟩
 simp [tl283,x283_2,he',h0,hro,r283]
set_option maxRecDepth 20000 in
theorem tail_ok {m:Nat} {st:List Wo} {h:AHeap} (s:StH m st h) {w:Wo} (hw:WoOk w) (hn:st.length < 1000000) {b8:Nat} (hb:h.bl b8 = some (.cells w.C)) {t5 t19 t20 t21:AV}:
  ∃ h' F',EvCode E tl283 (x283_2 (.ref 0 0) (.ref 1 0) t5 (.ref b8 0) (.int .i64 0) t19 t20 t21) h = some (.normal,F',h')∧mask q283_1 F' = x283_1 (.ref 0 0) (.ref 1 0) t5 t19 t20 t21∧StH h'.blks.length (w :: st) h':=by
 obtain ⟨V,h1,hv⟩:=s.b1
 obtain ⟨V',h2,a1,a2,a3,a4,a5,a6⟩:=s.app hw hn h1
 have hro:=s.ro
 obtain ⟨c1,c2⟩:=hv.cell
 unfold AV.cells? at a3
 have lw:=Wo.C_len hw.len
 have tw:w.C.take 11 = w.C:=List.take_of_length_le (by omega)
 have sw:setCells 0 w.C z11C = w.C:=set_11 lw
 generalize w.C = W at *
 refine ⟨_,⟨[J,J,.ref 0 0,J,.ref 1 0,t5,J,J,.ref b8 0,.int .i64 0,J,J,J,J,J,J,J,J,J,t19,t20,t21,J,J,J,J,J,J,J,J,J,J,J,J,J,J,J,J,J,J,J,J,J,J,J,J,J,J,J,J,J,J,J,J,J,J,J,J,J,J,J,J,J,J,J,J,J,J,J,J,J,J,J,J,J,J,J,J,J,J,.int .i64 0,.bool false,J,J,V,.agg W,.vs .full 1 W,V',J,J,J,J],[],.call⟩,?_,by simp [x283_1],by rw [blks_set_length]; exact a6⟩
 simp [tl283,x283_2,h1,hb,lw,tw,sw,a1,a2,a3,a4,a5]
end Go.Pv
/- What trees are worth, plain. Conditions: none; definitions and theorems. -/
namespace Go.Pv
def stepW (x:StepA) (st:List Wo):Except Int (List Wo):=
 if x.op = 1 then (match ofW x.num with | .ok w=>.ok (w :: st) | .error e=>.error e)
 else if x.op = 2 then (match symR x with | .ok w=>.ok (w :: st) | .error e=>.error e)
 else if x.op = 6 then .ok st
 else if x.op = 5 then (match st with
  | w :: r=>(match divW oneW w with | .ok v=>.ok (v :: r) | .error e=>.error e)
  | []=>.ok [])
 else if x.op = 3 then (match st with
  | b :: a :: r=>(match mulW a b with | .ok v=>.ok (v :: r) | .error e=>.error e)
  | _=>.ok st)
 else if x.op = 4 then (match st with
  | b :: a :: r=>(match divW a b with | .ok v=>.ok (v :: r) | .error e=>.error e)
  | _=>.ok st)
 else .ok (oneW :: st)
def runW:List StepA→List Wo→Except Int (List Wo)
 | [],st=>.ok st
 | x :: r,st=>match stepW x st with
  | .ok st'=>runW r st'
  | .error e=>.error e
def evalT:Tr→Except Int Wo
 | .num n=>ofW n
 | .sym p a n=>symR ⟨2,p,a,n,0,[]⟩
 | .alone _=>.ok oneW
 | .note t _=>evalT t
 | .inv t=>match evalT t with | .ok w=>divW oneW w | .error e=>.error e
 | .bin o l r=>match evalT l with
  | .error e=>.error e
  | .ok a=>match evalT r with
   | .error e=>.error e
   | .ok b=>if o = 3 then mulW a b else divW a b
theorem runW_app:∀ (a b:List StepA) (st:List Wo),runW (a++b) st = match runW a st with | .ok st'=>runW b st' | .error e=>.error e
 | [],b,st=>rfl
 | x :: a,b,st=>by
  rw [List.cons_append]
  simp only [runW]
  cases stepW x st with
  | error e=>rfl
  | ok st'=>exact runW_app a b st'
theorem run_tree {t:Tr} (ht:TrOk t):∀ st,runW t.steps st = match evalT t with | .ok w=>.ok (w :: st) | .error e=>.error e:=by
 induction ht with
 | num n _=>
  intro st
  simp only [Tr.steps,runW,stepW,evalT,if_true]
  cases ofW n <;> rfl
 | sym p a n _ _ _ _ _ _ _=>
  intro st
  simp [Tr.steps,runW,stepW,evalT]
  cases symR ⟨2,p,a,n,0,[]⟩ <;> rfl
 | alone s _ _=>
  intro st
  simp [Tr.steps,runW,stepW,evalT]
 | note t s _ _ _ ih=>
  intro st
  simp only [Tr.steps,runW_app,ih,evalT]
  cases evalT t <;> simp [runW,stepW]
 | inv t _ ih=>
  intro st
  simp only [Tr.steps,runW_app,ih,evalT]
  cases evalT t with
  | error e=>rfl
  | ok w=>
   simp [runW,stepO,stepW]
   cases divW oneW w <;> rfl
 | bin o l r ho _ _ ihl ihr=>
  intro st
  simp only [Tr.steps,runW_app,ihl,evalT]
  cases evalT l with
  | error e=>rfl
  | ok a=>
   simp only [ihr]
   cases evalT r with
   | error e=>rfl
   | ok b=>
    rcases ho with rfl | rfl
    ·simp [runW,stepO,stepW]
     cases mulW a b <;> rfl
    ·simp [runW,stepO,stepW]
     cases divW a b <;> rfl
def evalR (t:List StepA):Except Int Wo:=
 if soundB t then (match runW t [] with | .ok (w :: _)=>.ok w | .ok []=>.error 1 | .error e=>.error e) else .error 1
theorem evalR_tree {t:Tr} (ht:TrOk t) (hs:soundB t.steps = true):evalR t.steps = evalT t:=by
 unfold evalR
 rw [if_pos hs,run_tree ht]
 cases evalT t <;> rfl
def NumOk (t:List StepA):Prop:=∀ s ∈ t,s.num.natAbs ≤ 9223372036854775807∧s.text.length < 1000000
theorem ofW_ne {n e:Int} (h:ofW n = .error e):e ≠ 0:=by
 unfold ofW at h
 split at h
 ·rename_i e' he
  cases h; exact makeF_ne he
 ·cases h
theorem putR_ne {tg:Bool} {r:Except Int Fc} {d:List Int} {e:Int} (hr:∀ e,r = .error e→e ≠ 0) (h:putR tg r d = .error e):e ≠ 0:=by
 unfold putR at h
 split at h
 ·cases h; decide
 ·split at h
  ·cases h; exact hr _ rfl
  ·split at h
   ·cases h
   ·cases h; decide
theorem mulW_ne {a b:Wo} {e:Int} (h:mulW a b = .error e):e ≠ 0:=putR_ne (fun _ h=>mulF_ne h) h
theorem divW_ne {a b:Wo} {e:Int} (h:divW a b = .error e):e ≠ 0:=putR_ne (fun _ h=>divF_ne h) h
theorem powW_ne {a:Wo} {n e:Int} (h:powW a n = .error e):e ≠ 0:=putR_ne (fun _ h=>powF_ne h) h
theorem symR_ne {x:StepA} {e:Int} (h:symR x = .error e):e ≠ 0:=by
 unfold symR at h
 split at h
 ·unfold symW at h
  split at h
  ·rename_i e' he
   cases h
   unfold fracW at he
   split at he
   ·exact mulF_ne he
   ·cases he
  ·unfold powN1 at h
   split at h
   ·cases h
   ·exact powW_ne h
 ·cases h; decide
theorem symR_wo {x:StepA} {w:Wo} (h:symR x = .ok w):WoOk w:=by
 unfold symR at h
 split at h
 ·rename_i hc
  obtain ⟨hs,_,_⟩:=mayB_two hc.1 hc.2
  obtain ⟨⟨a0,a1⟩,⟨p0,p1⟩,_,_⟩:=symB_in hs
  exact symW_ok a0 a1 p1 h
 ·cases h
theorem evalT_ne {t:Tr} {e:Int} (h:evalT t = .error e):e ≠ 0:=by
 induction t generalizing e with
 | num n=>exact ofW_ne h
 | sym p a n=>exact symR_ne h
 | alone s=>cases h
 | note t s ih=>exact ih h
 | inv t ih=>
  simp only [evalT] at h
  split at h
  ·exact divW_ne h
  ·rename_i e' he
   cases h; exact ih he
 | bin o l r ihl ihr=>
  simp only [evalT] at h
  split at h
  ·rename_i e' he
   cases h; exact ihl he
  ·split at h
   ·rename_i e' he
    cases h; exact ihr he
   ·split at h
    ·exact mulW_ne h
    ·exact divW_ne h
theorem evalT_ok {t:Tr} (hn:NumOk t.steps) {w:Wo} (h:evalT t = .ok w):WoOk w:=by
 induction t generalizing w with
 | num n=>exact ofW_ok (hn _ (List.mem_singleton.2 rfl)).1 h
 | sym p a n=>exact symR_wo h
 | alone s=>cases h; exact oneW_ok
 | note t s ih=>exact ih (fun x hx=>hn x (List.mem_append_left _ hx)) h
 | inv t ih=>
  simp only [evalT] at h
  split at h
  ·rename_i v hv
   exact divW_ok oneW_ok (ih (fun x hx=>hn x (List.mem_append_left _ hx)) hv) h
  ·cases h
 | bin o l r ihl ihr=>
  simp only [evalT] at h
  split at h
  ·cases h
  ·rename_i a ha
   split at h
   ·cases h
   ·rename_i b hb
    have h1:=ihl (fun x hx=>hn x (List.mem_append_left _ (List.mem_append_left _ hx))) ha
    have h2:=ihr (fun x hx=>hn x (List.mem_append_left _ (List.mem_append_right _ hx))) hb
    split at h
    ·exact mulW_ok h1 h2 h
    ·exact divW_ok h1 h2 h
end Go.Pv
