/- A part of the proof: an evaluator of the program's code, and that it is sound. Conditions: none; definitions and theorems that the statement's proof uses. -/
import Derived.WalkKit
import Derived.RangeFuncLeaves
import Derived.RangeFuncNested
import Derived.ChangeKeysEq
import Derived.Laws.BytesArg
/- An evaluator of translated Go code over pure values: its values, its code, and the code's making out of a program's own. Conditions: none; these are definitions. -/
namespace Go.Pv
inductive AFn where
 | func (f:Nat)
 | yield (l:Nat)
 deriving DecidableEq
inductive Own where
 | shared
 | full
 | tok (k sz:Nat)
 deriving DecidableEq
inductive AV where
 | junk
 | bool (b:Bool)
 | int (k:IntKind) (n:Int)
 | str (s:List UInt8)
 | nilp
 | ref (b off:Nat)
 | pin (cells:List AV)
 | vs (own:Own) (len:Nat) (cells:List AV)
 | rs (b off len:Nat)
 | row (b sz len:Nat)
 | nils
 | nilmap
 | map (b:Nat)
 | fn (f:AFn) (first caps:List AV)
 | nilfn
 | iface (t:Nat) (v:AV)
 | niliface
 | agg (cells:List AV)
 | tuple (vs:List AV)
 deriving Inhabited
def AV.cells?:AV→Option (List AV)
 | .junk=>none
 | .agg cs=>some cs
 | v=>some [v]
inductive SOpd where
 | tmp (t:Nat)
 | const (v:AV)
 | glob (g:Nat)
 deriving Inhabited
inductive CellK where
 | bool | int | str
 deriving DecidableEq
inductive EqK where
 | none | bool | flat (ks:List CellK) | ptr | ifc | ifi (ts:List Nat)
 deriving DecidableEq
inductive CvK where
 | int (k:IntKind) | same | toBytes | toStr | ofInt
 deriving DecidableEq
inductive KeyK where
 | str | int
 deriving DecidableEq
inductive NilK where
 | slc | map | fn
 deriving DecidableEq
inductive LenK where
 | str | slc | map
 deriving DecidableEq
inductive SOp where
 | mov (x:SOpd)
 | pick (c a b:SOpd)
 | alloc (zero:List AV)
 | box (n:Nat) (x:SOpd)
 | build (zero:List AV) (parts:List (Nat × Nat × SOpd))
 | buildSlice (len:Nat) (zero:List AV) (parts:List (Nat × Nat × SOpd))
 | load (agg:Bool) (n:Nat) (a:SOpd)
 | store (n:Nat) (a x:SOpd)
 | nilCheck (x:SOpd)
 | bin (op:BinOp) (ek:EqK) (x y:SOpd)
 | un (op:UnOp) (x:SOpd)
 | isNil (k:NilK) (op:BinOp) (x:SOpd)
 | conv (k:CvK) (x:SOpd)
 | mkIface (t:Nat) (x:SOpd)
 | mkFn (f:Nat) (first caps:List SOpd)
 | mkMap
 | mkSlice (zero:List AV) (bytes:Nat) (len cap:SOpd)
 | sliceStr (x:SOpd) (lo hi:Option SOpd)
 | sliceVs (size:Nat) (x:SOpd) (lo hi max:Option SOpd)
 | sliceArr (len size:Nat) (x:SOpd) (lo hi:Option SOpd)
 | fieldAddr (off:Nat) (x:SOpd)
 | field (agg:Bool) (off n:Nat) (x:SOpd)
 | indexAddrVs (size:Nat) (x i:SOpd)
 | indexAddrArr (len size:Nat) (x i:SOpd)
 | indexArr (len:Nat) (agg:Bool) (size:Nat) (x i:SOpd)
 | indexStr (x i:SOpd)
 | lookup (kk:KeyK) (zero:AV) (ok:Bool) (m k:SOpd)
 | mapUpdate (kk:KeyK) (m k v:SOpd)
 | extract (i:Nat) (x:SOpd)
 | len (k:LenK) (x:SOpd)
 | lenArr (n:Nat)
 | append (size bytes:Nat) (s x:SOpd)
 | appendRow (size bytes:Nat) (s x:SOpd)
 | call (f:SOpd) (args:List SOpd)
 | panic (x:SOpd)
 | defer (f:SOpd) (args:List SOpd)
 | typeAssert (t:Nat) (zero:AV) (ok:Bool) (x:SOpd)
 | recover
 | minmax (mx:Bool) (x y:SOpd)
 deriving Inhabited
structure SOper where
 dst:Option Nat
 guard:Option (Nat × Bool)
 op:SOp
 deriving Inhabited
inductive SCode where
 | skip
 | region (draw:Bool) (ops:List SOper)
 | mixed (pre:List SOper) (c:SOper) (post:List SOper)
 | stored (ops:List (SOper × Nat))
 | seq (a b:SCode)
 | cond (c:SOpd) (a b:SCode)
 | block (id:Nat) (keep:List Bool) (c:SCode)
 | loop (keep:List Bool) (c:SCode)
 | rangeFunc (f:SOpd) (params:List Nat) (assign body:SCode)
 | exit (id:Nat) (keep:List Bool)
 | scope (c:SCode)
 | ret (keep:List Bool)
 deriving Inhabited
inductive SRes where
 | tmp (t:Nat)
 | cell (t:Nat) (agg:Bool) (n:Nat)
inductive SMode where
 | open_ | closed | reader
 deriving DecidableEq
structure SFunc where
 mode:SMode
 ntmps:Nat
 results:List SRes
 body:SCode
inductive LState where
 | ready | busy | done
 deriving DecidableEq
inductive AJump where
 | ret
 | exit (id:Nat)
inductive ABlk where
 | cells (cs:List AV)
 | map (es:List (AV × AV))
 | loop (st:LState) (pend:Option AJump) (tmps:List AV) (params:List Nat) (assign body:SCode)
 | dead
structure AHeap where
 blks:List ABlk
 toks:List Nat
 ro:Nat
 rot:Nat
inductive FK where
 | call | round | defd
 deriving DecidableEq
structure Fr where
 t:List AV
 ds:List (Nat × List AV)
 rnd:FK
structure Env where
 fn:Nat→Option SFunc
 glob:Nat→Option (List AV)
 /-- Functions whose answer is told by a function of their arguments,told by a proof of its own. -/
 ext:Nat→Option (List AV→Option AV)
inductive AExit where
 | normal
 | exit (id:Nat)
 | ret
 | panic (v:AV)
def Fr.get (F:Fr) (t:Nat):AV:=F.t.getD t .junk
def Fr.put (F:Fr) (d:Option Nat) (v:AV):Fr:=
 match d with
 | some d=>{ F with t:=F.t.set d v }
 | none=>F
def opd (E:Env) (F:Fr):SOpd→AV
 | .tmp t=>F.get t
 | .const v=>v
 | .glob g=>match E.glob g with | some cs=>.pin cs | none=>.junk
def maskL:List Bool→List AV→List AV
 | [],l=>l
 | _,[]=>[]
 | true :: ks,v :: vs=>v :: maskL ks vs
 | false :: ks,_ :: vs=>.junk :: maskL ks vs
def mask (keep:List Bool) (F:Fr):Fr:={ F with t:=maskL keep F.t }
def AV.isCell:AV→Bool
 | .junk | .agg _ | .tuple _=>false
 | _=>true
def setCells:Nat→List AV→List AV→List AV
 | _,[],l=>l
 | off,c :: cs,l=>setCells (off + 1) cs (l.set off c)
def fillA:List (Nat × Nat × AV)→List AV→Option (List AV)
 | [],cells=>some cells
 | (off,size,v) :: rest,cells=>
  match v.cells? with
  | some cs=>if cs.length = size∧off + size ≤ cells.length then fillA rest (setCells off cs cells) else none
  | none=>none
def peek (h:AHeap) (n:Nat):AV→Option (List AV)
 | .ref b off=>
  match h.blks[b]? with
  | some (.cells cs)=>if off + n ≤ cs.length then some ((cs.drop off).take n) else none
  | _=>none
 | .pin cs=>if n ≤ cs.length then some (cs.take n) else none
 | _=>none
def whole (agg:Bool) (l:List AV):Option AV:=
 if agg then some (.agg l) else match l with | [v]=>some v | _=>none
def AHeap.setBlk (h:AHeap) (b:Nat) (x:ABlk):AHeap:={ h with blks:=h.blks.set b x }
def AHeap.push (h:AHeap) (x:ABlk):AHeap:={ h with blks:=h.blks++[x] }
def eqCell:AV→AV→Option Bool
 | .int k a,.int k' b=>if k = k' then some (a == b) else none
 | .str a,.str b=>some (a == b)
 | .bool a,.bool b=>some (a == b)
 | _,_=>none
def eqCellK:CellK→AV→AV→Option Bool
 | .int,.int k a,.int k' b=>if k = k' then some (a == b) else none
 | .str,.str a,.str b=>some (a == b)
 | .bool,.bool a,.bool b=>some (a == b)
 | _,_,_=>none
def eqCells:List CellK→List AV→List AV→Option Bool
 | [],[],[]=>some true
 | k :: ks,a :: as,b :: bs=>
  match eqCellK k a b,eqCells ks as bs with
  | some x,some y=>some (x && y)
  | _,_=>none
 | _,_,_=>none
def intBin (op:BinOp) (k:IntKind) (a b:Int):Option AV:=
 match op with
 | .add=>some (.int k (k.wrap (a + b)))
 | .sub=>some (.int k (k.wrap (a - b)))
 | .mul=>some (.int k (k.wrap (a * b)))
 | .quo=>if b = 0 then none else some (.int k (k.wrap (a.tdiv b)))
 | .rem=>if b = 0 then none else some (.int k (a.tmod b))
 | .eql=>some (.bool (a == b))
 | .neq=>some (.bool (a != b))
 | .lss=>some (.bool (decide (a < b)))
 | .leq=>some (.bool (decide (a ≤ b)))
 | .gtr=>some (.bool (decide (a > b)))
 | .geq=>some (.bool (decide (a ≥ b)))
 | .and=>some (.int k (k.wrap (BitVec.ofInt k.bits a &&& BitVec.ofInt k.bits b).toNat))
 | .or=>some (.int k (k.wrap (BitVec.ofInt k.bits a ||| BitVec.ofInt k.bits b).toNat))
 | .xor=>some (.int k (k.wrap (BitVec.ofInt k.bits a ^^^ BitVec.ofInt k.bits b).toNat))
 | _=>none
def shiftA (op:BinOp) (k:IntKind) (a b:Int):Option AV:=
 if b < 0 then none else
 match op with
 | .shl=>some (.int k (k.wrap (a * 2 ^ (min b.toNat k.bits))))
 | .shr=>some (.int k (a.fdiv (2 ^ (min b.toNat k.bits))))
 | _=>none
def strBin (op:BinOp) (a b:List UInt8):Option AV:=
 match op with
 | .add=>if a.length + b.length ≤ 9223372036854775807 then some (.str (a++b)) else none
 | .eql=>some (.bool (a == b))
 | .neq=>some (.bool (!(a == b)))
 | .lss=>some (.bool (Op.bytesLess a b))
 | .leq=>some (.bool (Op.bytesLess a b || a == b))
 | .gtr=>some (.bool (!(Op.bytesLess a b || a == b)))
 | .geq=>some (.bool (!Op.bytesLess a b))
 | _=>none
def eqTell (op:BinOp) (b:Bool):Option AV:=
 match op with
 | .eql=>some (.bool b)
 | .neq=>some (.bool (!b))
 | _=>none
def evBin (op:BinOp) (ek:EqK):AV→AV→Option AV
 | .int k a,.int k' b=>match op with | .shl=>shiftA .shl k a b | .shr=>shiftA .shr k a b | op=>if k = k' then intBin op k a b else none
 | .str a,.str b=>strBin op a b
 | .bool a,.bool b=>if ek = .bool then eqTell op (a == b) else none
 | .agg a,.agg b=>match ek with | .flat ks=>(eqCells ks a b).bind (eqTell op) | _=>none
 | .nilp,.nilp=>if ek = .ptr then eqTell op true else none
 | .nilp,.ref _ _=>if ek = .ptr then eqTell op false else none
 | .ref _ _,.nilp=>if ek = .ptr then eqTell op false else none
 | .nilp,.pin _=>if ek = .ptr then eqTell op false else none
 | .pin _,.nilp=>if ek = .ptr then eqTell op false else none
 | .niliface,.niliface=>if ek = .ifc then eqTell op true else none
 | .niliface,.iface _ _=>if ek = .ifc then eqTell op false else none
 | .iface _ _,.niliface=>if ek = .ifc then eqTell op false else none
 | .iface t (.int k a),.iface u (.int k' b)=>match ek with | .ifi ts=>if t = u∧k = k'∧ts.contains t then eqTell op (a == b) else none | _=>none
 | _,_=>none
def evUn (op:UnOp):AV→Option AV
 | .int k n=>match op with | .neg=>some (.int k (k.wrap (0 - n))) | _=>none
 | .bool b=>match op with | .not=>some (.bool (!b)) | _=>none
 | _=>none
def evMinmax (mx:Bool):AV→AV→Option AV
 | .int k a,.int k' b=>if k = k' then some (.int k (if mx then (if b > a then b else a) else (if b < a then b else a))) else none
 | _,_=>none
def idx (v:AV) (y:Nat):Option Nat:=
 match v with
 | .int _ i=>if 0 ≤ i∧i ≤ (y:Int) then some i.toNat else none
 | _=>none
def bounds (len cap:Nat) (lo hi max:Option AV):Option (Nat × Nat × Nat):=
 match (match max with | some v=>idx v cap | none=>some cap) with
 | none=>none
 | some m=>
  match (match hi with | some v=>idx v m | none=>if max.isSome then none else some len) with
  | none=>none
  | some h=>
   match (match lo with | some v=>idx v h | none=>some 0) with
   | none=>none
   | some l=>some (l,h,m)
def bytesOf:List AV→Option (List UInt8)
 | []=>some []
 | .int .u8 n :: r=>(bytesOf r).map (UInt8.ofNat n.toNat :: ·)
 | _ :: _=>none
def fitsKey:KeyK→AV→Bool
 | .str,.str _=>true
 | .int,.int _ _=>true
 | _,_=>false
def findKeyA (k:AV):List (AV × AV)→Option (Option AV)
 | []=>some none
 | e :: es=>
  match eqCell k e.1 with
  | some true=>some (some e.2)
  | some false=>findKeyA k es
  | none=>none
def setKeyA (k v:AV):List (AV × AV)→List (AV × AV)
 | []=>[(k,v)]
 | e :: es=>if eqCell k e.1 = some true then (k,v) :: es else e :: setKeyA k v es
def den:AV→AV
 | .nils=>.vs .full 0 []
 | v=>v
def nilTell (op:BinOp):NilK→AV→Option AV
 | .slc,.nils | .map,.nilmap | .fn,.nilfn=>eqTell op true
 | .slc,.vs _ len _=>if 0 < len then eqTell op false else none
 | .slc,.rs _ _ _ | .slc,.row _ _ _ | .map,.map _ | .fn,.fn _ _ _=>eqTell op false
 | _,_=>none
def sliceCells (h:AHeap) (size:Nat):AV→Option (Nat × List AV)
 | .vs _ len cells=>if cells.length = len * size then some (len,cells) else none
 | .rs b off len=>
  match h.blks[b]? with
  | some (.cells cs)=>if off + len * size ≤ cs.length then some (len,(cs.drop off).take (len * size)) else none
  | _=>none
 | .row b sz len=>
  match h.blks[b]? with
  | some (.cells cs)=>if sz = size∧len * size ≤ cs.length then some (len,cs.take (len * size)) else none
  | _=>none
 | .nils=>some (0,[])
 | .str s=>if size = 1 then some (s.length,s.map fun c=>.int .u8 c.toNat) else none
 | _=>none
def appendA (size bytes:Nat) (h:AHeap) (s x:AV):Option (AV × AHeap):=
 match s,sliceCells h size x with
 | .vs own len cells,some (m,xs)=>
  if cells.length = len * size∧(len + m) * bytes ≤ 140737488355328∧0 < size∧xs.all AV.isCell then
   if m = 0 then some (s,h) else
   match own with
   | .shared=>none
   | .full=>some (.vs (.tok h.toks.length size) (len + m) (cells++xs),{ h with toks:=h.toks++[cells.length + xs.length] })
   | .tok k sz=>
    if sz = size∧h.toks[k]? = some cells.length∧h.rot ≤ k then
     some (.vs (.tok k size) (len + m) (cells++xs),{ h with toks:=h.toks.set k (cells.length + xs.length) })
    else none
  else none
 | _,_=>none
def appendR (size bytes:Nat) (h:AHeap) (s x:AV):Option (AV × AHeap):=
 match sliceCells h size x with
 | none=>none
 | some (m,xs)=>
  if 0 < size∧0 < m∧xs.all AV.isCell then
   match s with
   | .nils=>if m * bytes ≤ 140737488355328 then some (.row h.blks.length size m,h.push (.cells xs)) else none
   | .row b sz len=>
    match h.blks[b]? with
    | some (.cells cs)=>if h.ro ≤ b∧sz = size∧len * size ≤ cs.length∧(len + m) * bytes ≤ 140737488355328 then some (.row h.blks.length size (len + m),(h.setBlk b .dead).push (.cells (cs.take (len * size)++xs))) else none
    | _=>none
   | _=>none
  else none
def ev1 (E:Env) (F:Fr) (h:AHeap):SOp→Option (AV × AHeap)
 | .mov x=>some (opd E F x,h)
 | .pick c a b=>
  match opd E F c with
  | .bool t=>some (if t then opd E F a else opd E F b,h)
  | _=>none
 | .alloc zero=>some (.ref h.blks.length 0,h.push (.cells zero))
 | .box n x=>
  match (opd E F x).cells? with
  | some cs=>if cs.length = n then some (.ref h.blks.length 0,h.push (.cells cs)) else none
  | none=>none
 | .build zero parts=>(fillA (parts.map fun p=>(p.1,p.2.1,opd E F p.2.2)) zero).map fun cs=>(.agg cs,h)
 | .buildSlice len zero parts=>(fillA (parts.map fun p=>(p.1,p.2.1,opd E F p.2.2)) zero).map fun cs=>(.vs .full len cs,h)
 | .load agg n a=>((peek h n (opd E F a)).bind (whole agg)).map fun v=>(v,h)
 | .store n a x=>
  match opd E F a,(opd E F x).cells? with
  | .ref b off,some cs=>
   match h.blks[b]? with
   | some (.cells old)=>if cs.length = n∧off + n ≤ old.length∧h.ro ≤ b∧cs.all AV.isCell then some (.junk,h.setBlk b (.cells (setCells off cs old))) else none
   | _=>none
  | _,_=>none
 | .nilCheck x=>
  match opd E F x with
  | .ref b off=>some (.ref b off,h)
  | .pin cs=>some (.pin cs,h)
  | .fn (.func f) a b=>some (.fn (.func f) a b,h)
  | _=>none
 | .bin op ek x y=>(evBin op ek (opd E F x) (opd E F y)).map fun v=>(v,h)
 | .un op x=>(evUn op (opd E F x)).map fun v=>(v,h)
 | .isNil k op x=>(nilTell op k (opd E F x)).map fun v=>(v,h)
 | .conv k x=>
  match k with
  | .int k=>match opd E F x with | .int _ n=>some (.int k (k.wrap n),h) | _=>none
  | .same=>match opd E F x with | .str s=>some (.str s,h) | _=>none
  | .ofInt=>match opd E F x with | .int _ n=>if 0 ≤ n∧n < 128 then some (.str [UInt8.ofNat n.toNat],h) else none | _=>none
  | .toBytes=>
   match opd E F x with
   | .str s=>if s.length ≤ 140737488355328 then some (.rs h.blks.length 0 s.length,h.push (.cells (s.map fun c=>.int .u8 c.toNat))) else none
   | _=>none
  | .toStr=>
   match opd E F x with
   | .str _=>none
   | v=>match sliceCells h 1 v with
    | some (_,cs)=>(bytesOf cs).map fun s=>(.str s,h)
    | none=>none
 | .mkIface t x=>some (.iface t (opd E F x),h)
 | .mkFn f first caps=>some (.fn (.func f) (first.map (opd E F)) (caps.map (opd E F)),h)
 | .mkMap=>some (.map h.blks.length,h.push (.map []))
 | .mkSlice _ _ _ _=>none
 | .sliceStr x lo hi=>
  match opd E F x with
  | .str s=>
   match bounds s.length s.length (lo.map (opd E F)) (hi.map (opd E F)) none with
   | some (l,u,_)=>some (.str ((s.take u).drop l),h)
   | none=>none
  | _=>none
 | .sliceVs size x lo hi max=>
  match den (opd E F x) with
  | .vs own len cells=>
   if cells.length = len * size then
   match own,max.map (opd E F) with
   | .full,none | .shared,none | .tok _ _,none=>
    match bounds len len (lo.map (opd E F)) (hi.map (opd E F)) none with
    | some (l,u,_)=>some (.vs (if u = len then (match own with | .full=>.full | _=>.shared) else .shared) (u - l) ((cells.take (u * size)).drop (l * size)),h)
    | none=>none
   | _,some mx=>
    match bounds len len (lo.map (opd E F)) (hi.map (opd E F)) (some mx) with
    | some (l,u,m)=>some (.vs (if u = m then .full else .shared) (u - l) ((cells.take (u * size)).drop (l * size)),h)
    | none=>none
   else none
  | .rs b off len=>
   match bounds len len (lo.map (opd E F)) (hi.map (opd E F)) none,max with
   | some (l,u,_),none=>if l < len then some (.rs b (off + l * size) (u - l),h) else none
   | _,_=>none
  | .row b sz len=>
   match bounds len len (lo.map (opd E F)) (hi.map (opd E F)) none,max with
   | some (l,u,_),none=>if l = 0 then some (.row b sz u,h) else none
   | _,_=>none
  | _=>none
 | .sliceArr len size x lo hi=>
  match opd E F x with
  | .pin cs=>
   if cs.length = len * size then
   match bounds len len (lo.map (opd E F)) (hi.map (opd E F)) none with
   | some (l,u,_)=>some (.vs (if u = len then .full else .shared) (u - l) ((cs.take (u * size)).drop (l * size)),h)
   | none=>none
   else none
  | .ref b off=>
   match bounds len len (lo.map (opd E F)) (hi.map (opd E F)) none with
   | some (l,u,_)=>if l < len then some (.rs b (off + l * size) (u - l),h) else none
   | none=>none
  | _=>none
 | .fieldAddr off x=>
  match opd E F x with
  | .ref b o=>some (.ref b (o + off),h)
  | .pin cs=>if off < cs.length then some (.pin (cs.drop off),h) else none
  | _=>none
 | .field agg off n x=>
  match opd E F x with
  | .agg cs=>if off + n ≤ cs.length then (whole agg ((cs.drop off).take n)).map fun v=>(v,h) else none
  | _=>none
 | .indexAddrVs size x i=>
  match opd E F x,opd E F i with
  | .vs _ len cells,.int _ i=>if 0 ≤ i∧i < (len:Int)∧i.toNat * size < cells.length then some (.pin (cells.drop (i.toNat * size)),h) else none
  | .rs b off len,.int _ i=>if 0 ≤ i∧i < (len:Int) then some (.ref b (off + i.toNat * size),h) else none
  | .row b sz len,.int _ i=>if 0 ≤ i∧i < (len:Int)∧sz = size then some (.ref b (i.toNat * size),h) else none
  | _,_=>none
 | .indexAddrArr len size x i=>
  match opd E F x,opd E F i with
  | .ref b o,.int _ i=>if 0 ≤ i∧i < (len:Int) then some (.ref b (o + i.toNat * size),h) else none
  | .pin cs,.int _ i=>if 0 ≤ i∧i < (len:Int)∧i.toNat * size < cs.length then some (.pin (cs.drop (i.toNat * size)),h) else none
  | _,_=>none
 | .indexArr len agg size x i=>
  match opd E F x,opd E F i with
  | .agg cs,.int _ i=>if 0 ≤ i∧i < (len:Int)∧i.toNat * size + size ≤ cs.length then (whole agg ((cs.drop (i.toNat * size)).take size)).map fun v=>(v,h) else none
  | _,_=>none
 | .indexStr x i=>
  match opd E F x,opd E F i with
  | .str s,.int _ i=>if 0 ≤ i then (s[i.toNat]?).map fun c=>(.int .u8 c.toNat,h) else none
  | _,_=>none
 | .lookup kk zero ok m k=>
  match (match opd E F m with
   | .nilmap=>some []
   | .map b=>(match h.blks[b]? with | some (.map es)=>some es | _=>none)
   | _=>none) with
  | none=>none
  | some es=>
   match (if fitsKey kk (opd E F k) then findKeyA (opd E F k) es else none) with
   | none=>none
   | some r=>
    let p:AV × Bool:=match r with | some v=>(v,true) | none=>(zero,false)
    some (if ok then .tuple [p.1,.bool p.2] else p.1,h)
 | .mapUpdate kk m k v=>
  match opd E F m with
  | .map b=>
   match h.blks[b]? with
   | some (.map es)=>
    match (if fitsKey kk (opd E F k) then findKeyA (opd E F k) es else none) with
    | none=>none
    | some _=>if h.ro ≤ b then some (.junk,h.setBlk b (.map (setKeyA (opd E F k) (opd E F v) es))) else none
   | _=>none
  | _=>none
 | .extract i x=>
  match opd E F x with
  | .tuple vs=>(vs[i]?).map fun v=>(v,h)
  | _=>none
 | .len k x=>
  match k with
  | .str=>match opd E F x with | .str s=>some (.int .i64 s.length,h) | _=>none
  | .slc=>
   match opd E F x with
   | .vs _ n _=>some (.int .i64 n,h)
   | .rs _ _ n=>some (.int .i64 n,h)
   | .row _ _ n=>some (.int .i64 n,h)
   | .nils=>some (.int .i64 0,h)
   | _=>none
  | .map=>
   match opd E F x with
   | .nilmap=>some (.int .i64 0,h)
   | .map b=>match h.blks[b]? with | some (.map es)=>some (.int .i64 es.length,h) | _=>none
   | _=>none
 | .lenArr n=>some (.int .i64 n,h)
 | .append size bytes s x=>appendA size bytes h (den (opd E F s)) (opd E F x)
 | .appendRow size bytes s x=>appendR size bytes h (opd E F s) (opd E F x)
 | .typeAssert t zero ok x=>
  match opd E F x with
  | .niliface=>if ok then some (.tuple [zero,.bool false],h) else none
  | .iface u v=>if u = t then some (if ok then .tuple [v,.bool true] else v,h) else none
  | _=>none
 | .minmax mx x y=>(evMinmax mx (opd E F x) (opd E F y)).map fun v=>(v,h)
 | .call _ _ | .panic _ | .defer _ _ | .recover=>none
mutual
def shut (n t:Nat):AV→Option AV
 | .junk=>some .junk
 | .bool b=>some (.bool b)
 | .int k i=>some (.int k i)
 | .str s=>some (.str s)
 | .nilp=>some .nilp
 | .ref b off=>if b < n then some (.ref b off) else none
 | .pin cs=>(shutL n t cs).map .pin
 | .vs own len cs=>(shutL n t cs).map fun cs=>.vs (match own with | .tok k sz=>if k < t then .tok k sz else .shared | o=>o) len cs
 | .rs b off len=>if b < n then some (.rs b off len) else none
 | .row b sz len=>if b < n then some (.row b sz len) else none
 | .nils=>some .nils
 | .nilmap=>some .nilmap
 | .map b=>if b < n then some (.map b) else none
 | .fn (.func f) a b=>match shutL n t a,shutL n t b with | some a,some b=>some (.fn (.func f) a b) | _,_=>none
 | .fn (.yield l) a b=>match shutL n t a,shutL n t b with | some a,some b=>if l < n then some (.fn (.yield l) a b) else none | _,_=>none
 | .nilfn=>some .nilfn
 | .iface u v=>(shut n t v).map (.iface u)
 | .niliface=>some .niliface
 | .agg cs=>(shutL n t cs).map .agg
 | .tuple cs=>(shutL n t cs).map .tuple
def shutL (n t:Nat):List AV→Option (List AV)
 | []=>some []
 | v :: vs=>match shut n t v,shutL n t vs with | some v,some vs=>some (v :: vs) | _,_=>none
end
def unasked:AV:=.tuple []
def wanted (g:Option (Nat × Bool)) (F:Fr):Option Bool:=
 match g with
 | none=>some true
 | some (t,want)=>match F.get t with | .bool b=>some (b == want) | .tuple _=>some false | _=>none
inductive CRes where
 | ret (v:AV)
 | pan (v:AV)
def resultsA (h:AHeap) (F:Fr):List SRes→Option (List AV)
 | []=>some []
 | .tmp t :: rs=>(resultsA h F rs).map (F.get t :: ·)
 | .cell t agg n :: rs=>
  match (peek h n (F.get t)).bind (whole agg),resultsA h F rs with
  | some v,some vs=>some (v :: vs)
  | _,_=>none
def oneOf:List AV→AV
 | [v]=>v
 | vs=>.tuple vs
def setAll:List Nat→List AV→List AV→List AV
 | p :: ps,a :: as,t=>setAll ps as (t.set p a)
 | _,_,t=>t
abbrev Out:=Option (AExit × Fr × AHeap)
def evOper (E:Env) (call:AV→List AV→AHeap→Option (CRes × AHeap)) (o:SOper) (F:Fr) (h:AHeap):Out:=
 match wanted o.guard F with
 | none=>none
 | some false=>some (.normal,F.put o.dst unasked,h)
 | some true=>
  match o.op with
  | .call f args=>
   match call (opd E F f) (args.map (opd E F)) h with
   | none=>none
   | some (.ret v,h')=>some (.normal,F.put o.dst v,h')
   | some (.pan v,h')=>some (.panic v,F,h')
  | .panic x=>
   match opd E F x with
   | .iface t v=>some (.panic (.iface t v),F,h)
   | _=>none
  | .defer f args=>
   match opd E F f with
   | .fn (.func j) first caps=>if F.rnd = .call then some (.normal,({ F with ds:=(j,first++args.map (opd E F)++caps) :: F.ds }:Fr).put o.dst .junk,h) else none
   | _=>none
  | op=>(ev1 E F h op).map fun p=>(.normal,F.put o.dst p.1,p.2)
def evOps (E:Env) (call:AV→List AV→AHeap→Option (CRes × AHeap)):List SOper→Fr→AHeap→Out
 | [],F,h=>some (.normal,F,h)
 | o :: os,F,h=>
  match evOper E call o F h with
  | some (.normal,F',h')=>evOps E call os F' h'
  | r=>r
def evDraw1 (E:Env) (call:AV→List AV→Option AV) (o:SOper) (F:Fr) (h:AHeap):Option (Fr × AHeap):=
 match wanted o.guard F with
 | none=>none
 | some false=>some (F.put o.dst unasked,h)
 | some true=>
  match o.op with
  | .call f args=>(call (opd E F f) (args.map (opd E F))).map fun v=>(F.put o.dst v,h)
  | op=>(ev1 E F h op).map fun p=>(F.put o.dst p.1,p.2)
def evDraw (E:Env) (call:AV→List AV→Option AV):List SOper→Fr→AHeap→Option (Fr × AHeap)
 | [],F,h=>some (F,h)
 | o :: os,F,h=>
  match evDraw1 E call o F h with
  | some (F',h')=>evDraw E call os F' h'
  | none=>none
def heap0:AHeap:={ blks:=[],toks:=[],ro:=0,rot:=0 }
def runDefs (df:Nat→List AV→Option AV→AHeap→Option (Option AV × AHeap)):List (Nat × List AV)→Option AV→AHeap→Option (Option AV × AHeap)
 | [],p,h=>some (p,h)
 | d :: ds,p,h=>
  match df d.1 d.2 p h with
  | some (p',h')=>runDefs df ds p' h'
  | none=>none
def endRes (sf:SFunc) (F:Fr):Option (Option AV × AHeap)→Option (CRes × AHeap)
 | some (none,h)=>(resultsA h F sf.results).map fun vs=>(.ret (oneOf vs),h)
 | some (some v,h)=>some (.pan v,h)
 | none=>none
def endFn (sf:SFunc) (df:Nat→List AV→Option AV→AHeap→Option (Option AV × AHeap)):Out→Option (CRes × AHeap)
 | some (.normal,F,h') | some (.ret,F,h')=>endRes sf F (runDefs df F.ds none h')
 | some (.panic v,F,h')=>endRes sf F (runDefs df F.ds (some v) h')
 | _=>none
def SOp.isRecover:SOp→Bool
 | .recover=>true
 | _=>false
def evOpsR (E:Env):Option AV→List SOper→Fr→AHeap→Option (Option AV × Fr × AHeap)
 | p,[],F,h=>some (p,F,h)
 | p,o :: os,F,h=>
  match wanted o.guard F with
  | none=>none
  | some false=>evOpsR E p os (F.put o.dst unasked) h
  | some true=>
   match o.op with
   | .recover=>
    match p with
    | some v=>evOpsR E none os (F.put o.dst v) h
    | none=>evOpsR E none os (F.put o.dst .niliface) h
   | op=>
    match ev1 E F h op with
    | some (v,h')=>evOpsR E p os (F.put o.dst v) h'
    | none=>none
abbrev OutS:=Option (AExit × Fr × Option AV × AHeap)
def thenS (k:Fr→Option AV→AHeap→OutS):OutS→OutS
 | some (.normal,F,p,h)=>k F p h
 | r=>r
def endDef (sf:SFunc):OutS→Option (Option AV × AHeap)
 | some (.normal,F,p,h') | some (.ret,F,p,h')=>
  match F.ds with
  | []=>(resultsA h' F sf.results).bind fun _=>if F.rnd = .defd then some (p,h') else none
  | _=>none
 | _=>none
def endRd (l:Nat):Out→Option (CRes × AHeap)
 | some (x,F,h)=>
  if h.ro ≤ l then
  match F.ds,h.blks[l]? with
  | [],some (.loop _ _ t p a b)=>
   match x with
   | .normal=>some (.ret (.bool true),h.setBlk l (.loop .ready none t p a b))
   | .ret=>some (.ret (.bool false),h.setBlk l (.loop .done (some .ret) t p a b))
   | .exit id=>some (.ret (.bool false),h.setBlk l (.loop .done (some (.exit id)) t p a b))
   | .panic _=>none
  | _,_=>none
  else none
 | none=>none
def beginRd (l:Nat) (k:Fr→AHeap→Out):Out→Out
 | some (.normal,F,h)=>
  if h.ro ≤ l then
  match F.ds,h.blks[l]? with
  | [],some (.loop .ready pend t p a b)=>k F (h.setBlk l (.loop .busy pend t p a b))
  | _,_=>none
  else none
 | _=>none
def endRange (l:Nat) (F:Fr):Option (CRes × AHeap)→Out
 | some (.ret _,h)=>
  if h.ro ≤ l then
  match h.blks[l]? with
  | some (.loop .ready none _ _ _ _)=>some (.normal,F,h.setBlk l .dead)
  | some (.loop .done (some .ret) _ _ _ _)=>some (.ret,F,h.setBlk l .dead)
  | some (.loop .done (some (.exit id)) _ _ _ _)=>some (.exit id,F,h.setBlk l .dead)
  | _=>none
  else none
 | _=>none
def start (sf:SFunc) (args:List AV):Fr:={ t:=args++List.replicate (sf.ntmps - args.length) .junk,ds:=[],rnd:=.call }
def startD (sf:SFunc) (args:List AV):Fr:={ t:=args++List.replicate (sf.ntmps - args.length) .junk,ds:=[],rnd:=.defd }
def blockEnd (id:Nat) (keep:List Bool):Out→Out
 | some (.normal,F,h)=>some (.normal,mask keep F,h)
 | some (.exit i,F,h)=>if i = id then some (.normal,mask keep F,h) else some (.exit i,F,h)
 | r=>r
def thenDo (k:Fr→AHeap→Out):Out→Out
 | some (.normal,F,h)=>k F h
 | r=>r
def closedEnd:Option (CRes × AHeap)→Option AV
 | some (.ret v,_)=>shut 0 0 v
 | _=>none
def AHeap.still (h:AHeap):AHeap:={ h with ro:=h.blks.length,rot:=h.toks.length }
def readEnd (h:AHeap):Option (CRes × AHeap)→Option (CRes × AHeap)
 | some (.ret v,_)=>(shut h.blks.length h.toks.length v).map fun v=>(.ret v,h)
 | _=>none
def val0 (E:Env) (o:SOper) (F:Fr) (h:AHeap):Option (AV × AHeap):=
 match wanted o.guard F with
 | none=>none
 | some false=>some (unasked,h)
 | some true=>ev1 E F h o.op
def Twin (E:Env):List SOper→Fr→AHeap→AHeap→Fr→Prop
 | [],F,_,_,F1=>F1 = F
 | o :: os,F,h,h2,F1=>∃ v,val0 E o F h = some (v,h)∧val0 E o F h2 = some (v,h2)∧Twin E os (F.put o.dst v) h h2 F1
open Classical in
noncomputable def evMixed (E:Env) (cc:AV→List AV→Option AV) (call:AV→List AV→AHeap→Option (CRes × AHeap)) (pre:List SOper) (c:SOper) (post:List SOper) (F:Fr) (h:AHeap):Out:=
 match evDraw E (fun _ _=>none) pre F h with
 | none=>none
 | some (F1,_)=>
  match evOper E call c F1 h with
  | some (.normal,F2,h2)=>if Twin E pre F h h2 F1 then (evDraw E cc post F2 h2).map fun p=>(.normal,p.1,p.2) else none
  | _=>none
def val1 (E:Env) (cc:AV→List AV→Option AV) (o:SOper) (F:Fr) (h:AHeap):Option (AV × AHeap):=
 match wanted o.guard F with
 | none=>none
 | some false=>some (unasked,h)
 | some true=>
  match o.op with
  | .call f args=>(cc (opd E F f) (args.map (opd E F))).map fun v=>(v,h)
  | op=>ev1 E F h op
def SOp.isStore:SOp→Bool
 | .store _ _ _=>true
 | _=>false
def nextP (E:Env) (o:SOper) (k:Nat) (F:Fr) (v:AV) (pend:List (Nat × (AHeap→Prop))):List (Nat × (AHeap→Prop)):=
 if o.op.isStore then pend.map (fun p=>(p.1 - 1,p.2)) else if 0 < k then (k,fun h2=>val0 E o F h2 = some (v,h2)) :: pend else pend
def StP (E:Env) (cc:AV→List AV→Option AV):List (SOper × Nat)→List (Nat × (AHeap→Prop))→Fr→AHeap→Fr × AHeap→Prop
 | [],_,F,h,r=>r = (F,h)
 | (o,k) :: os,pend,F,h,r=>∃ v h',val1 E cc o F h = some (v,h')∧(o.op.isStore = true→∀ p ∈ pend,0 < p.1→p.2 h')∧StP E cc os (nextP E o k F v pend) (F.put o.dst v) h' r
open Classical in
noncomputable def evStored (E:Env) (cc:AV→List AV→Option AV) (ops:List (SOper × Nat)) (F:Fr) (h:AHeap):Out:=
 match evDraw E cc (ops.map (·.1)) F h with
 | none=>none
 | some p=>if StP E cc ops [] F h p then some (.normal,p.1,p.2) else none
noncomputable section
mutual
def evClosed (E:Env):Nat→AV→List AV→Option AV
 | 0,_,_=>none
 | n + 1,f,args=>
  match f with
  | .fn (.func j) first caps=>
   match E.ext j with
   | some g=>(shutL 0 0 (first++args++caps)).bind g
   | none=>
   match E.fn j with
   | none=>none
   | some sf=>
    match sf.mode,shutL 0 0 (first++args++caps) with
    | .closed,some as=>closedEnd (evFn E n sf as heap0)
    | _,_=>none
  | _=>none
def evCall (E:Env):Nat→AV→List AV→AHeap→Option (CRes × AHeap)
 | 0,_,_,_=>none
 | n + 1,f,args,h=>
  match f with
  | .fn (.func j) first caps=>
   match E.ext j with
   | some _=>(evClosed E n (.fn (.func j) first caps) args).map fun v=>(.ret v,h)
   | none=>
   match E.fn j with
   | none=>none
   | some sf=>
    match sf.mode with
    | .open_=>evFn E n sf (first++args++caps) h
    | .closed=>(evClosed E n (.fn (.func j) first caps) args).map fun v=>(.ret v,h)
    | .reader=>readEnd h (evFn E n sf (first++args++caps) h.still)
  | .fn (.yield l) [] []=>evRound E n l args h
  | _=>none
def evFn (E:Env):Nat→SFunc→List AV→AHeap→Option (CRes × AHeap)
 | 0,_,_,_=>none
 | n + 1,sf,args,h=>endFn sf (evDef E n) (evCode E n sf.body (start sf args) h)
def evDef (E:Env):Nat→Nat→List AV→Option AV→AHeap→Option (Option AV × AHeap)
 | 0,_,_,_,_=>none
 | n + 1,j,args,p,h=>
  match E.ext j,E.fn j with
  | none,some sf=>endDef sf (evS E n sf.body (startD sf args) p h)
  | _,_=>none
def evS (E:Env):Nat→SCode→Fr→Option AV→AHeap→OutS
 | 0,_,_,_,_=>none
 | n + 1,c,F,p,h=>
  match c with
  | .seq a b=>thenS (evS E n b) (evS E n a F p h)
  | .region false ops=>
   if ops.any (fun o=>o.op.isRecover) then (evOpsR E p ops F h).map fun r=>(.normal,r.2.1,r.1,r.2.2)
   else (evCode E n (.region false ops) F h).map fun r=>(r.1,r.2.1,p,r.2.2)
  | c=>(evCode E n c F h).map fun r=>(r.1,r.2.1,p,r.2.2)
def evRound (E:Env):Nat→Nat→List AV→AHeap→Option (CRes × AHeap)
 | 0,_,_,_=>none
 | n + 1,l,args,h=>
  match h.blks[l]? with
  | some (.loop .ready _ tmps params assign body)=>
   if args.length = params.length then
    endRd l (beginRd l (evCode E n body) (evCode E n assign { t:=setAll params args tmps,ds:=[],rnd:=.round } h))
   else none
  | _=>none
def evCode (E:Env):Nat→SCode→Fr→AHeap→Out
 | 0,_,_,_=>none
 | n + 1,c,F,h=>
  match c with
  | .skip=>some (.normal,F,h)
  | .region false ops=>evOps E (evCall E n) ops F h
  | .region true ops=>(evDraw E (evClosed E n) ops F h).map fun p=>(.normal,p.1,p.2)
  | .mixed pre c post=>evMixed E (evClosed E n) (evCall E n) pre c post F h
  | .stored ops=>evStored E (evClosed E n) ops F h
  | .seq a b=>thenDo (evCode E n b) (evCode E n a F h)
  | .cond c a b=>
   match opd E F c with
   | .bool true=>evCode E n a F h
   | .bool false=>evCode E n b F h
   | _=>none
  | .block id keep c=>blockEnd id keep (evCode E n c F h)
  | .loop keep c=>thenDo (evCode E n (.loop keep c)) (evCode E n c (mask keep F) h)
  | .rangeFunc f params assign body=>
   match opd E F f with
   | .fn (.func j) first caps=>if F.rnd = .defd then none else endRange h.blks.length F (evCall E n (.fn (.func j) first caps) [.fn (.yield h.blks.length) [] []] (h.push (.loop .ready none F.t params assign body)))
   | _=>none
  | .exit id keep=>some (.exit id,mask keep F,h)
  | .scope c=>evCode E n c F h
  | .ret keep=>some (.ret,mask keep F,h)
end
end
end Go.Pv
/- How pure values stand for the model's values, and how that is kept as the world grows. Conditions: none; definitions and lemmas. -/
namespace Go.Pv
structure Tie where
 P:Program
 fnum:Nat→Nat
 ffind:Nat→Option Nat
 gnum:Nat→Nat
 gfind:Nat→Option Nat
 tnum:Nat→Nat
 tfind:Nat→Option Nat
structure Ghost where
 mu:List Nat
 vals:Nat→Option Nat
 tau:Nat→Nat→Option Nat
 ro:Nat
 rot:Nat
variable (T:Tie)
mutual
def RepV (G:Ghost) (w:World):AV→Value→Prop
 | .junk,_=>True
 | .bool b,v=>v = .bool b
 | .int k n,v=>v = .int k n
 | .str s,v=>v = .string ⟨⟨s⟩⟩
 | .nilp,v=>v = .pointer none
 | .ref b off,v=>∃ r,G.mu[b]? = some r∧v = .pointer (some ⟨r,off,none⟩)
 | .pin cs,v=>∃ r off m,v = .pointer (some ⟨r,off,none⟩)∧G.vals r = some m∧off + cs.length ≤ m∧RepM G w r off cs
 | .vs own len cs,v=>∃ a cap,v = .slice a len cap∧len ≤ cap∧(own = .full→cap = len)∧(a = none→len = 0) ∧
   (∀ k sz,own = .tok k sz→cs.length = len * sz∧∃ (r:Nat) (c:Array Value) (e:TypeId) (fz:Nat × Nat),a = some ⟨r,0,none⟩∧G.tau k cs.length = some r∧w.heap[r]? = some (Obj.cells c e fz)∧cap * sz ≤ c.size) ∧
   (cs ≠ []→∃ r off m,a = some ⟨r,off,none⟩∧G.vals r = some m∧off + cs.length ≤ m∧RepM G w r off cs)∧(len = 0→cs = [])
 | .rs b off len,v=>∃ r cap,G.mu[b]? = some r∧v = .slice (some ⟨r,off,none⟩) len cap∧len ≤ cap
 | .row b sz len,v=>∃ (r cap:Nat) (c:Array Value) (e:TypeId) (fz:Nat × Nat),G.mu[b]? = some r∧v = .slice (some ⟨r,0,none⟩) len cap∧len ≤ cap∧0 < cap∧w.heap[r]? = some (Obj.cells c e fz)∧cap * sz ≤ c.size
 | .nils,v=>v = .slice none 0 0
 | .nilmap,v=>v = .map none
 | .map b,v=>∃ r,G.mu[b]? = some r∧v = .map (some r)
 | .fn (.func f) first caps,v=>∃ a b,v = .func (.func (T.fnum f)) ⟨a⟩ ⟨b⟩∧RepL G w first a∧RepL G w caps b
 | .fn (.yield l) first caps,v=>∃ r a b,G.mu[l]? = some r∧v = .func (.yield r) ⟨a⟩ ⟨b⟩∧RepL G w first a∧RepL G w caps b
 | .nilfn,v=>v = .nilFunc
 | .iface t x,v=>∃ y,v = .iface (T.tnum t) y∧RepV G w x y
 | .niliface,v=>v = .nilIface
 | .agg cs,v=>∃ l,v = .agg ⟨l⟩∧RepL G w cs l
 | .tuple cs,v=>∃ l,v = .tuple ⟨l⟩∧RepL G w cs l
def RepL (G:Ghost) (w:World):List AV→List Value→Prop
 | [],l=>l = []
 | a :: as,l=>∃ v vs,l = v :: vs∧RepV G w a v∧RepL G w as vs
def RepM (G:Ghost) (w:World) (r:Nat):Nat→List AV→Prop
 | _,[]=>True
 | off,a :: as=>(∃ v,w.cell? ⟨r,off,none⟩ = some v∧RepV G w a v)∧RepM G w r (off + 1) as
end
structure Ext (G:Ghost) (w:World) (G':Ghost) (w':World):Prop where
 mu:∃ l,G'.mu = G.mu++l
 mulate:∀ r ∈ G'.mu.drop G.mu.length,w.heap.size ≤ r∨r ∈ G.mu.drop G.ro
 ro:G'.ro = G.ro
 rot:G'.rot = G.rot
 size:w.heap.size ≤ w'.heap.size
 vlt:∀ b m,G.vals b = some m→b < w.heap.size
 vals:∀ b m,G.vals b = some m→∃ m',G'.vals b = some m'∧m ≤ m'
 valsfix:∀ b m,G.vals b = some m→(∀ k n,G.rot ≤ k→G.tau k n ≠ some b)→G'.vals b = some m
 valsfresh:∀ b m,G'.vals b = some m→(∃ m0,G.vals b = some m0)∨w.heap.size ≤ b
 cells:∀ b m,G.vals b = some m→∀ i,i < m→w'.cell? ⟨b,i,none⟩ = w.cell? ⟨b,i,none⟩
 tau:∀ k n b,G.tau k n = some b→G'.tau k n = some b
 taufresh:∀ k n b,G'.tau k n = some b→(∃ n',G.tau k n' = some b)∨w.heap.size ≤ b
 taufix:∀ k n b,k < G.rot→G'.tau k n = some b→G.tau k n = some b
 frame:∀ b,b < w.heap.size→b ∉ G.mu.drop G.ro→(∀ k n,G.rot ≤ k→G.tau k n ≠ some b)→w'.heap[b]? = w.heap[b]?
 shape:∀ (b:Nat) (c:Array Value) (e:TypeId) (fz:Nat × Nat),w.heap[b]? = some (Obj.cells c e fz)→∃ c' fz',w'.heap[b]? = some (Obj.cells c' e fz')∧c'.size = c.size
 loops:∀ (b:Nat) (L:Loop),w.heap[b]? = some (Obj.loop L)→∃ L',w'.heap[b]? = some (Obj.loop L')
 os:w'.os = w.os
 tape:w'.tape = w.tape
 output:w'.output = w.output
theorem Ext.refl {G:Ghost} {w:World} (hv:∀ b m,G.vals b = some m→b < w.heap.size):Ext G w G w where
 mu:=⟨[],by simp⟩
 mulate:=by simp
 ro:=rfl
 rot:=rfl
 size:=Nat.le_refl _
 vlt:=hv
 vals:=fun b m h=>⟨m,h,Nat.le_refl _⟩
 valsfix:=fun b m h _=>h
 valsfresh:=fun b m h=>.inl ⟨m,h⟩
 cells:=fun _ _ _ _ _=>rfl
 tau:=fun _ _ _ h=>h
 taufresh:=fun k n b h=>.inl ⟨n,h⟩
 taufix:=fun k n b _ h=>h
 frame:=fun _ _ _ _=>rfl
 shape:=fun b c e fz h=>⟨c,fz,h,rfl⟩
 loops:=fun b L h=>⟨L,h⟩
 os:=rfl
 tape:=rfl
 output:=rfl
theorem Ext.trans {G G' G'':Ghost} {w w' w'':World} (h:Ext G w G' w') (k:Ext G' w' G'' w''):Ext G w G'' w'' where
 mu:=by
  obtain ⟨l,hl⟩:=h.mu
  obtain ⟨l',hl'⟩:=k.mu
  exact ⟨l++l',by rw [hl',hl,List.append_assoc]⟩
 mulate:=fun r hr=>by
  obtain ⟨l,hl⟩:=h.mu
  obtain ⟨l',hl'⟩:=k.mu
  have h1:=h.mulate
  have h2:=k.mulate
  rw [hl',hl,List.append_assoc,List.drop_left] at hr
  rw [hl,List.drop_left] at h1
  rw [hl',List.drop_left] at h2
  rcases List.mem_append.1 hr with q | q
  ·exact h1 r q
  ·rcases h2 r q with h2 | h2
   ·exact .inl (Nat.le_trans h.size h2)
   ·rw [h.ro,hl,List.drop_append] at h2
    rcases List.mem_append.1 h2 with q2 | q2
    ·exact .inr q2
    ·exact h1 r (List.mem_of_mem_drop q2)
 ro:=k.ro.trans h.ro
 rot:=k.rot.trans h.rot
 size:=Nat.le_trans h.size k.size
 vlt:=h.vlt
 vals:=fun b m hb=>by
  obtain ⟨m',h1,h2⟩:=h.vals b m hb
  obtain ⟨m'',h3,h4⟩:=k.vals b m' h1
  exact ⟨m'',h3,Nat.le_trans h2 h4⟩
 valsfix:=fun b m hb ht=>by
  refine k.valsfix b m (h.valsfix b m hb ht) fun k' n' hk' he=>?_
  rw [h.rot] at hk'
  rcases h.taufresh k' n' b he with ⟨n2,h2⟩ | h2
  ·exact ht k' n2 hk' h2
  ·have:=h.vlt b m hb; omega
 valsfresh:=fun b m hb=>by
  rcases k.valsfresh b m hb with ⟨m0,h1⟩ | h1
  ·exact h.valsfresh b m0 h1
  ·exact .inr (Nat.le_trans h.size h1)
 cells:=fun b m hb i hi=>by
  obtain ⟨m',h1,h2⟩:=h.vals b m hb
  rw [k.cells b m' h1 i (by omega),h.cells b m hb i hi]
 tau:=fun a n b hb=>k.tau a n b (h.tau a n b hb)
 taufresh:=fun a n b hb=>by
  rcases k.taufresh a n b hb with ⟨n2,h2⟩ | h2
  ·exact h.taufresh a n2 b h2
  ·exact .inr (Nat.le_trans h.size h2)
 taufix:=fun a n b ha hb=>h.taufix a n b ha (k.taufix a n b (by rw [h.rot]; exact ha) hb)
 frame:=fun b hb hm ht=>by
  rw [k.frame b (Nat.lt_of_lt_of_le hb h.size) (fun hc=>?_) (fun a n ha hc=>?_),h.frame b hb hm ht]
  ·obtain ⟨l,hl⟩:=h.mu
   have h1:=h.mulate
   rw [hl,List.drop_left] at h1
   rw [h.ro,hl,List.drop_append] at hc
   rcases List.mem_append.1 hc with q | q
   ·exact hm q
   ·rcases h1 b (List.mem_of_mem_drop q) with h1 | h1
    ·omega
    ·exact hm h1
  ·rw [h.rot] at ha
   rcases h.taufresh a n b hc with ⟨n2,h2⟩ | h2
   ·exact ht a n2 ha h2
   ·omega
 shape:=fun b c e fz hb=>by
  obtain ⟨c',fz',h1,h2⟩:=h.shape b c e fz hb
  obtain ⟨c'',fz'',h3,h4⟩:=k.shape b c' e fz' h1
  exact ⟨c'',fz'',h3,h4.trans h2⟩
 loops:=fun b L hb=>by
  obtain ⟨L',h1⟩:=h.loops b L hb
  exact k.loops b L' h1
 os:=k.os.trans h.os
 tape:=k.tape.trans h.tape
 output:=k.output.trans h.output
structure Keep (G:Ghost) (w:World) (G':Ghost) (w':World):Prop where
 mu:∀ (i r:Nat),G.mu[i]? = some r→G'.mu[i]? = some r
 vals:∀ b m,G.vals b = some m→∃ m',G'.vals b = some m'∧m ≤ m'
 cells:∀ b m,G.vals b = some m→∀ i,i < m→w'.cell? ⟨b,i,none⟩ = w.cell? ⟨b,i,none⟩
 tau:∀ k n b,G.tau k n = some b→G'.tau k n = some b
 shape:∀ (b:Nat) (c:Array Value) (e:TypeId) (fz:Nat × Nat),w.heap[b]? = some (Obj.cells c e fz)→∃ c' fz',w'.heap[b]? = some (Obj.cells c' e fz')∧c'.size = c.size
theorem Ext.mufresh {G G':Ghost} {w w':World} (h:Ext G w G' w') (r:Nat) (hr:r ∈ G'.mu):r ∈ G.mu∨w.heap.size ≤ r:=by
 obtain ⟨l,hl⟩:=h.mu
 have h1:=h.mulate
 rw [hl,List.drop_left] at h1
 rw [hl] at hr
 rcases List.mem_append.1 hr with q | q
 ·exact .inl q
 ·rcases h1 r q with h1 | h1
  ·exact .inr h1
  ·exact .inl (List.mem_of_mem_drop h1)
theorem Ext.keep {G G':Ghost} {w w':World} (h:Ext G w G' w'):Keep G w G' w' where
 mu:=fun i r hr=>by
  obtain ⟨l,hl⟩:=h.mu
  rw [hl,List.getElem?_append_left (List.getElem?_eq_some_iff.1 hr).1]
  exact hr
 vals:=h.vals
 cells:=h.cells
 tau:=h.tau
 shape:=h.shape
section
variable {T} {G G':Ghost} {w w':World}
mutual
theorem RepV.mono (E:Keep G w G' w'):∀ (a:AV) (v:Value),RepV T G w a v→RepV T G' w' a v
 | .junk,_,_=>by simp only [RepV]
 | .bool _,_,h=>by simpa only [RepV] using h
 | .int _ _,_,h=>by simpa only [RepV] using h
 | .str _,_,h=>by simpa only [RepV] using h
 | .nilp,_,h=>by simpa only [RepV] using h
 | .ref b off,v,h=>by
  simp only [RepV] at h ⊢
  obtain ⟨r,h1,h2⟩:=h
  exact ⟨r,E.mu b r h1,h2⟩
 | .pin cs,v,h=>by
  simp only [RepV] at h ⊢
  obtain ⟨r,off,m,h1,h2,h3,h4⟩:=h
  obtain ⟨m',h5,h6⟩:=E.vals r m h2
  exact ⟨r,off,m',h1,h5,by omega,RepM.mono E r m h2 off cs h3 h4⟩
 | .vs own len cs,v,h=>by
  simp only [RepV] at h ⊢
  obtain ⟨a,cap,h1,h2,h3,h3',h4,h5,h6⟩:=h
  refine ⟨a,cap,h1,h2,h3,h3',?_,?_,h6⟩
  ·intro k sz ho
   obtain ⟨hl,r,c,e,fz,q1,q2,q3,q4⟩:=h4 k sz ho
   obtain ⟨c',fz',q5,q6⟩:=E.shape r c e fz q3
   exact ⟨hl,r,c',e,fz',q1,E.tau k _ r q2,q5,by rw [q6]; exact q4⟩
  ·intro hne
   obtain ⟨r,off,m,q1,q2,q3,q4⟩:=h5 hne
   obtain ⟨m',h7,h8⟩:=E.vals r m q2
   exact ⟨r,off,m',q1,h7,by omega,RepM.mono E r m q2 off cs q3 q4⟩
 | .rs b off len,v,h=>by
  simp only [RepV] at h ⊢
  obtain ⟨r,cap,h1,h2⟩:=h
  exact ⟨r,cap,E.mu b r h1,h2⟩
 | .row b sz len,v,h=>by
  simp only [RepV] at h ⊢
  obtain ⟨r,cap,c,e,fz,h1,h2,h3,h0,h4,h5⟩:=h
  obtain ⟨c',fz',q5,q6⟩:=E.shape r c e fz h4
  exact ⟨r,cap,c',e,fz',E.mu b r h1,h2,h3,h0,q5,by rw [q6]; exact h5⟩
 | .nils,_,h=>by simpa only [RepV] using h
 | .nilmap,_,h=>by simpa only [RepV] using h
 | .map b,v,h=>by
  simp only [RepV] at h ⊢
  obtain ⟨r,h1,h2⟩:=h
  exact ⟨r,E.mu b r h1,h2⟩
 | .fn (.func f) first caps,v,h=>by
  simp only [RepV] at h ⊢
  obtain ⟨a,b,h1,h2,h3⟩:=h
  exact ⟨a,b,h1,RepL.mono E first a h2,RepL.mono E caps b h3⟩
 | .fn (.yield l) first caps,v,h=>by
  simp only [RepV] at h ⊢
  obtain ⟨r,a,b,h0,h1,h2,h3⟩:=h
  exact ⟨r,a,b,E.mu l r h0,h1,RepL.mono E first a h2,RepL.mono E caps b h3⟩
 | .nilfn,_,h=>by simpa only [RepV] using h
 | .iface t x,v,h=>by
  simp only [RepV] at h ⊢
  obtain ⟨y,h1,h2⟩:=h
  exact ⟨y,h1,RepV.mono E x y h2⟩
 | .niliface,_,h=>by simpa only [RepV] using h
 | .agg cs,v,h=>by
  simp only [RepV] at h ⊢
  obtain ⟨l,h1,h2⟩:=h
  exact ⟨l,h1,RepL.mono E cs l h2⟩
 | .tuple cs,v,h=>by
  simp only [RepV] at h ⊢
  obtain ⟨l,h1,h2⟩:=h
  exact ⟨l,h1,RepL.mono E cs l h2⟩
theorem RepL.mono (E:Keep G w G' w'):∀ (as:List AV) (l:List Value),RepL T G w as l→RepL T G' w' as l
 | [],l,h=>by simpa only [RepL] using h
 | a :: as,l,h=>by
  simp only [RepL] at h ⊢
  obtain ⟨v,vs,h1,h2,h3⟩:=h
  exact ⟨v,vs,h1,RepV.mono E a v h2,RepL.mono E as vs h3⟩
theorem RepM.mono (E:Keep G w G' w') (r m:Nat) (hm:G.vals r = some m):∀ (off:Nat) (as:List AV),off + as.length ≤ m→RepM T G w r off as→RepM T G' w' r off as
 | _,[],_,_=>by simp only [RepM]
 | off,a :: as,hl,h=>by
  simp only [RepM] at h ⊢
  simp only [List.length_cons] at hl
  obtain ⟨⟨v,h1,h2⟩,h3⟩:=h
  refine ⟨⟨v,?_,RepV.mono E a v h2⟩,RepM.mono E r m hm (off + 1) as (by omega) h3⟩
  rw [E.cells r m hm off (by omega)]
  exact h1
end
theorem RepL.length:∀ {as:List AV} {l:List Value},RepL T G w as l→l.length = as.length
 | [],l,h=>by simp only [RepL] at h; simp [h]
 | a :: as,l,h=>by
  simp only [RepL] at h
  obtain ⟨v,vs,rfl,_,h3⟩:=h
  simp [RepL.length h3]
theorem RepL.get:∀ {as:List AV} {l:List Value} {i:Nat} {a:AV},RepL T G w as l→as[i]? = some a→∃ v,l[i]? = some v∧RepV T G w a v
 | [],_,i,a,_,ha=>by simp at ha
 | x :: as,l,0,a,h,ha=>by
  simp only [RepL] at h
  obtain ⟨v,vs,rfl,h2,_⟩:=h
  simp at ha
  subst ha
  exact ⟨v,by simp,h2⟩
 | x :: as,l,i + 1,a,h,ha=>by
  simp only [RepL] at h
  obtain ⟨v,vs,rfl,_,h3⟩:=h
  simp only [List.getElem?_cons_succ] at ha ⊢
  exact RepL.get h3 ha
theorem RepL.set:∀ {as:List AV} {l:List Value} {a:AV} {v:Value} (i:Nat),RepL T G w as l→RepV T G w a v→RepL T G w (as.set i a) (l.set i v)
 | [],l,a,v,i,h,_=>by simp only [RepL] at h; subst h; simp only [List.set_nil,RepL]
 | x :: as,l,a,v,0,h,hv=>by
  simp only [RepL] at h
  obtain ⟨y,vs,rfl,h2,h3⟩:=h
  simp only [List.set_cons_zero,RepL]
  exact ⟨v,vs,rfl,hv,h3⟩
 | x :: as,l,a,v,i + 1,h,hv=>by
  simp only [RepL] at h
  obtain ⟨y,vs,rfl,h2,h3⟩:=h
  simp only [List.set_cons_succ,RepL]
  exact ⟨y,_,rfl,h2,RepL.set i h3 hv⟩
theorem RepL.append:∀ {as bs:List AV} {l m:List Value},RepL T G w as l→RepL T G w bs m→RepL T G w (as++bs) (l++m)
 | [],bs,l,m,h,k=>by simp only [RepL] at h; subst h; simpa using k
 | x :: as,bs,l,m,h,k=>by
  simp only [RepL] at h
  obtain ⟨y,vs,rfl,h2,h3⟩:=h
  simp only [List.cons_append,RepL]
  exact ⟨y,_,rfl,h2,RepL.append h3 k⟩
theorem RepL.drop:∀ {as:List AV} {l:List Value} (i:Nat),RepL T G w as l→RepL T G w (as.drop i) (l.drop i)
 | as,l,0,h=>by simpa using h
 | [],l,i + 1,h=>by simp only [RepL] at h; subst h; simp [RepL]
 | x :: as,l,i + 1,h=>by
  simp only [RepL] at h
  obtain ⟨y,vs,rfl,h2,h3⟩:=h
  simpa using RepL.drop i h3
theorem RepL.take:∀ {as:List AV} {l:List Value} (i:Nat),RepL T G w as l→RepL T G w (as.take i) (l.take i)
 | as,l,0,h=>by simp [RepL]
 | [],l,i + 1,h=>by simp only [RepL] at h; subst h; simp [RepL]
 | x :: as,l,i + 1,h=>by
  simp only [RepL] at h
  obtain ⟨y,vs,rfl,h2,h3⟩:=h
  simp only [List.take_succ_cons,RepL]
  exact ⟨y,_,rfl,h2,RepL.take i h3⟩
theorem RepL.replicate (n:Nat):RepL T G w (List.replicate n .junk) (List.replicate n undef):=by
 induction n with
 | zero=>simp [RepL]
 | succ n ih=>simp only [List.replicate_succ,RepL]; exact ⟨_,_,rfl,by simp [RepV],ih⟩
def setVL:Nat→List Value→List Value→List Value
 | _,[],l=>l
 | off,v :: vs,l=>setVL (off + 1) vs (l.set off v)
theorem setVL_length:∀ (vs:List Value) (off:Nat) (l:List Value),(setVL off vs l).length = l.length
 | [],_,_=>rfl
 | v :: vs,off,l=>by simp [setVL,setVL_length vs]
theorem setCells_length:∀ (vs:List AV) (off:Nat) (l:List AV),(setCells off vs l).length = l.length
 | [],_,_=>rfl
 | v :: vs,off,l=>by simp [setCells,setCells_length vs]
theorem RepL.setCells:∀ {cs:List AV} {vs:List Value} {as:List AV} {l:List Value} (off:Nat),RepL T G w cs vs→RepL T G w as l→RepL T G w (setCells off cs as) (setVL off vs l)
 | [],vs,as,l,off,h,k=>by simp only [RepL] at h; subst h; simpa [Pv.setCells,setVL] using k
 | c :: cs,vs,as,l,off,h,k=>by
  simp only [RepL] at h
  obtain ⟨y,vs,rfl,h2,h3⟩:=h
  simp only [Pv.setCells,setVL]
  exact RepL.setCells (off + 1) h3 (RepL.set _ k h2)
theorem RepM.get {r:Nat}:∀ {as:List AV} {off i:Nat} {a:AV},RepM T G w r off as→as[i]? = some a→∃ v,w.cell? ⟨r,off + i,none⟩ = some v∧RepV T G w a v
 | [],_,i,a,_,ha=>by simp at ha
 | x :: as,off,0,a,h,ha=>by
  simp only [RepM] at h
  simp at ha
  subst ha
  exact h.1
 | x :: as,off,i + 1,a,h,ha=>by
  simp only [RepM] at h
  simp only [List.getElem?_cons_succ] at ha
  have:=RepM.get h.2 ha
  rwa [show off + 1 + i = off + (i + 1) by omega] at this
theorem RepM.drop {r:Nat}:∀ {as:List AV} {off:Nat} (i:Nat),i ≤ as.length→RepM T G w r off as→RepM T G w r (off + i) (as.drop i)
 | as,off,0,_,h=>by simpa using h
 | [],off,i + 1,hi,h=>by simp at hi
 | x :: as,off,i + 1,hi,h=>by
  simp only [RepM] at h
  have:=RepM.drop i (by simpa using hi) h.2
  simpa [show off + 1 + i = off + (i + 1) by omega] using this
theorem RepM.take {r:Nat}:∀ {as:List AV} {off:Nat} (i:Nat),RepM T G w r off as→RepM T G w r off (as.take i)
 | as,off,0,_=>by simp [RepM]
 | [],off,i + 1,h=>by simp [RepM]
 | x :: as,off,i + 1,h=>by
  simp only [RepM] at h
  simp only [List.take_succ_cons,RepM]
  exact ⟨h.1,RepM.take i h.2⟩
theorem RepM.list {r:Nat}:∀ {as:List AV} {off:Nat},RepM T G w r off as→∃ l,RepL T G w as l∧∀ i v,l[i]? = some v→w.cell? ⟨r,off + i,none⟩ = some v
 | [],off,_=>⟨[],by simp [RepL],by simp⟩
 | x :: as,off,h=>by
  simp only [RepM] at h
  obtain ⟨⟨v,h1,h2⟩,h3⟩:=h
  obtain ⟨l,q1,q2⟩:=RepM.list h3
  refine ⟨v :: l,by simp only [RepL]; exact ⟨v,l,rfl,h2,q1⟩,fun i u hu=>?_⟩
  cases i with
  | zero=>simp at hu; subst hu; exact h1
  | succ i=>
   simp only [List.getElem?_cons_succ] at hu
   have:=q2 i u hu
   rwa [show off + 1 + i = off + (i + 1) by omega] at this
theorem RepM.of_list {r:Nat}:∀ {as:List AV} {l:List Value} {off:Nat},RepL T G w as l→(∀ i v,l[i]? = some v→w.cell? ⟨r,off + i,none⟩ = some v)→RepM T G w r off as
 | [],_,_,_,_=>by simp [RepM]
 | x :: as,l,off,h,k=>by
  simp only [RepL] at h
  obtain ⟨y,vs,rfl,h2,h3⟩:=h
  simp only [RepM]
  refine ⟨⟨y,by simpa using k 0 y (by simp),h2⟩,RepM.of_list h3 fun i v hv=>?_⟩
  have:=k (i + 1) v (by simpa using hv)
  rwa [show off + (i + 1) = off + 1 + i by omega] at this
theorem RepM.append {r:Nat}:∀ {as bs:List AV} {off:Nat},RepM T G w r off as→RepM T G w r (off + as.length) bs→RepM T G w r off (as++bs)
 | [],bs,off,_,k=>by simpa using k
 | x :: as,bs,off,h,k=>by
  simp only [RepM,List.cons_append] at h ⊢
  refine ⟨h.1,RepM.append h.2 ?_⟩
  simpa [show off + 1 + as.length = off + (as.length + 1) by omega] using k
end
end Go.Pv
/- How a program's own code is made into the evaluator's code. Conditions: none; definitions. -/
namespace Go.Pv
variable (T:Tie)
def fOf (i:Nat):Option Nat:=match T.ffind i with | some j=>if T.fnum j = i then some j else none | none=>none
def gOf (i:Nat):Option Nat:=match T.gfind i with | some j=>if T.gnum j = i then some j else none | none=>none
def tOf (i:Nat):Option Nat:=match T.tfind i with | some j=>if T.tnum j = i then some j else none | none=>none
def avScal:Value→Option AV
 | .bool b=>some (.bool b)
 | .int k n=>some (.int k n)
 | .string s=>some (.str s.data.toList)
 | .pointer none=>some .nilp
 | .slice none 0 0=>some .nils
 | .map none=>some .nilmap
 | .nilFunc=>some .nilfn
 | .nilIface=>some .niliface
 | _=>none
def avScals:List Value→Option (List AV)
 | []=>some []
 | v :: vs=>match avScal v,avScals vs with | some a,some as=>some (a :: as) | _,_=>none
def avAgg:Value→Option AV
 | .agg cs=>(avScals cs.toList).map .agg
 | v=>avScal v
def avAggs:List Value→Option (List AV)
 | []=>some []
 | v :: vs=>match avAgg v,avAggs vs with | some a,some as=>some (a :: as) | _,_=>none
def avOf:Value→Option AV
 | .tuple vs=>(avAggs vs.toList).map .tuple
 | v=>avAgg v
def cOpd:Operand→Option SOpd
 | .tmp t=>some (.tmp t)
 | .const v=>(avOf v).map .const
 | .global g=>(gOf T g).map .glob
 | .func f=>(fOf T f).map fun j=>.const (.fn (.func j) [] [])
def cOpds:List Operand→Option (List SOpd)
 | []=>some []
 | v :: vs=>match cOpd T v,cOpds vs with | some a,some as=>some (a :: as) | _,_=>none
def cOpt:Option Operand→Option (Option SOpd)
 | none=>some none
 | some x=>(cOpd T x).map some
def szT (t:TypeId):Option Nat:=(T.P.info? t).map (·.size)
def byT (t:TypeId):Option Nat:=(T.P.info? t).map (·.bytes)
def aggT (t:TypeId):Option Bool:=
 match T.P.underlying t with
 | some (.struct _) | some (.array _ _)=>some true
 | some _=>some false
 | none=>none
def ldT (t:TypeId):Option (Bool × Nat):=
 match aggT T t,szT T t with
 | some true,some n=>some (true,n)
 | some false,some _=>some (false,1)
 | _,_=>none
def zeroT (t:TypeId):Option AV:=
 match T.P.info? t with
 | some i=>match i.zero with | some z=>avAgg z | none=>none
 | none=>none
def zeroCs (t:TypeId):Option (List AV):=(zeroT T t).bind AV.cells?
def tileF (ck:TypeId→Option (List CellK)):List Field→Nat→Option (List CellK)
 | [],_=>some []
 | f :: fs,off=>
  if f.name ≠ "_" ∧ f.offset = off then
   match ck f.type with
   | some ks=>if szT T f.type = some ks.length then (tileF ck fs (off + ks.length)).map (ks++·) else none
   | none=>none
  else none
def tileK:Nat→List CellK→List CellK
 | 0,_=>[]
 | n + 1,ks=>ks++tileK n ks
def flatN:Nat→TypeId→Option (List CellK)
 | 0,_=>none
 | n + 1,t=>
  match T.P.underlying t with
  | some .bool=>some [.bool]
  | some (.int _)=>some [.int]
  | some .string=>some [.str]
  | some (.struct fs)=>
   if T.P.stoodInHeld t = false then
    match tileF T (flatN n) fs.toList 0 with
    | some ks=>if szT T t = some ks.length then some ks else none
    | none=>none
   else none
  | some (.array len e)=>
   match flatN n e with
   | some ks=>if szT T e = some ks.length∧ks ≠ [] then some (tileK len ks) else none
   | none=>none
  | _=>none
def intTs:List Nat:=(List.range 24).filter fun t=>
 match T.P.info? (T.tnum t),T.P.underlying (T.tnum t) with
 | some i,some (.int _)=>i.comparable && tOf T (T.tnum t) == some t
 | _,_=>false
def eqkT (x y:Operand) (t:TypeId):EqK:=
 match T.P.underlying t with
 | some .bool=>.bool
 | some (.pointer _)=>.ptr
 | some (.interface _)=>if Region.isConst x || Region.isConst y then .ifc else .ifi (intTs T)
 | some (.struct _) | some (.array _ _)=>
  match flatN T 12 t with
  | some ks=>if T.P.eqGuardType T.P.depth t = false then .flat ks else .none
  | none=>.none
 | _=>.none
def cParts (place:Nat→Option (Nat × Nat)):List (Nat × Operand)→Option (List (Nat × Nat × SOpd))
 | []=>some []
 | (i,x) :: ps=>
  match place i,cOpd T x,cParts place ps with
  | some (off,size),some x,some ps=>some ((off,size,x) :: ps)
  | _,_,_=>none
def structPlaces (fs:List Field):Option (List (Nat × Nat)):=
 match fs with
 | []=>some []
 | f :: fs=>match szT T f.type,structPlaces fs with | some s,some ps=>some ((f.offset,s) :: ps) | _,_=>none
def tile (zero:List AV):Nat→List AV
 | 0=>[]
 | n + 1=>zero++tile zero n
def cCall (c:Call):Option (SOpd × List SOpd):=
 match c.callee with
 | .value f=>match cOpd T f,cOpds T c.args.toList with | some f,some as=>some (f,as) | _,_=>none
 | _=>none
variable (R:Nat→Bool)
def cBuiltin (b:Builtin) (c:Call):Option SOp:=
 match b,c.args.toList,c.argTypes.toList with
 | .len,[x],[t]=>
  match T.P.underlying t with
  | some .string=>(cOpd T x).map (.len .str)
  | some (.slice _)=>(cOpd T x).map (.len .slc)
  | some (.map _ _)=>(cOpd T x).map (.len .map)
  | some (.array n _)=>some (.lenArr n)
  | _=>none
 | .append,[s,x],[t,u]=>
  match T.P.underlying t,T.P.underlying u,cOpd T s,cOpd T x with
  | some (.slice e),some (.slice _),some s,some x | some (.slice e),some .string,some s,some x=>
   match szT T e,byT T e,zeroCs T e with
   | some n,some b,some z=>if 0 < n∧0 < b∧z.length = n then some (if R e then .appendRow n b s x else .append n b s x) else none
   | _,_,_=>none
  | _,_,_,_=>none
 | .panic,[x],_=>(cOpd T x).map .panic
 | .recover,[],_=>some .recover
 | .max,[x,y],_=>match cOpd T x,cOpd T y with | some x,some y=>some (.minmax true x y) | _,_=>none
 | .min,[x,y],_=>match cOpd T x,cOpd T y with | some x,some y=>some (.minmax false x y) | _,_=>none
 | _,_,_=>none
def cOp (o:Oper):Option SOp:=
 match o.op with
 | .move x | .assign x=>(cOpd T x).map .mov
 | .pick c a b=>match cOpd T c,cOpd T a,cOpd T b with | some c,some a,some b=>some (.pick c a b) | _,_,_=>none
 | .alloc t=>(zeroCs T t).map .alloc
 | .box t x=>match szT T t,cOpd T x with | some n,some x=>some (.box n x) | _,_=>none
 | .build t parts=>
  match T.P.underlying t,zeroT T t with
  | some (.struct fs),some (.agg z)=>
   match structPlaces T fs.toList with
   | some pl=>(cParts T (fun i=>pl[i]?) parts.toList).map (.build z)
   | none=>none
  | some (.array _ e),some (.agg z)=>
   match szT T e with
   | some n=>(cParts T (fun i=>some (i * n,n)) parts.toList).map (.build z)
   | none=>none
  | _,_=>none
 | .buildSlice t len parts=>
  match T.P.underlying t with
  | some (.slice e)=>
   match szT T e,zeroCs T e with
   | some n,some z=>
    if len * n ≤ 16777216∧z.length = n∧0 < n then (cParts T (fun i=>some (i * n,n)) parts.toList).map (.buildSlice len (tile z len)) else none
   | _,_=>none
  | _=>none
 | .load t a=>match ldT T t,cOpd T a with | some (g,n),some a=>some (.load g n a) | _,_=>none
 | .store t a x=>match szT T t,cOpd T a,cOpd T x with | some n,some a,some x=>some (.store n a x) | _,_,_=>none
 | .nilCheck x=>(cOpd T x).map .nilCheck
 | .binOp op t x (.const (.slice none 0 0)) _=>match T.P.underlying t,cOpd T x with | some (.slice _),some x=>some (.isNil .slc op x) | _,_=>none
 | .binOp op t x (.const (.map none)) _=>match T.P.underlying t,cOpd T x with | some (.map _ _),some x=>some (.isNil .map op x) | _,_=>none
 | .binOp op t x (.const .nilFunc) _=>match T.P.underlying t,cOpd T x with | some (.func _ _ _),some x=>some (.isNil .fn op x) | _,_=>none
 | .binOp op t x y _=>match cOpd T x,cOpd T y with | some x',some y'=>some (.bin op (eqkT T x y t) x' y') | _,_=>none
 | .unOp op _ x=>(cOpd T x).map (.un op)
 | .convert src dst x=>
  match T.P.underlying src,T.P.underlying dst,cOpd T x with
  | some (.int _),some (.int k),some x=>some (.conv (.int k) x)
  | some .string,some .string,some x=>some (.conv .same x)
  | some (.int _),some .string,some x=>some (.conv .ofInt x)
  | some .string,some (.slice e),some x=>match T.P.underlying e with | some (.int .u8)=>some (.conv .toBytes x) | _=>none
  | some (.slice e),some .string,some x=>match T.P.underlying e with | some (.int .u8)=>some (.conv .toStr x) | _=>none
  | _,_,_=>none
 | .makeInterface t x=>
  match T.P.underlying t,tOf T t,cOpd T x with
  | some (.interface _),_,_=>none
  | some _,some u,some x=>some (.mkIface u x)
  | _,_,_=>none
 | .makeFunc (.func f) first caps=>
  match fOf T f,cOpds T first.toList,cOpds T caps.toList with | some j,some a,some b=>some (.mkFn j a b) | _,_,_=>none
 | .makeMap _ none=>some .mkMap
 | .slice t x lo hi mx=>
  match T.P.underlying t,cOpd T x,cOpt T lo,cOpt T hi,cOpt T mx with
  | some .string,some x,some lo,some hi,some none=>some (.sliceStr x lo hi)
  | some (.slice e),some x,some lo,some hi,some mx=>(szT T e).map fun n=>.sliceVs n x lo hi mx
  | some (.array len e),some x,some lo,some hi,some none=>(szT T e).map fun n=>.sliceArr len n x lo hi
  | _,_,_,_,_=>none
 | .fieldAddr t x i=>
  match T.P.underlying t,cOpd T x with
  | some (.struct fs),some x=>
   match fs[i]? with
   | some f=>match szT T f.type with | some n=>if 0 < n then some (.fieldAddr f.offset x) else none | none=>none
   | none=>none
  | _,_=>none
 | .field t x i=>
  match T.P.underlying t,cOpd T x with
  | some (.struct fs),some x=>
   match fs[i]? with
   | some f=>(ldT T f.type).map fun p=>.field p.1 f.offset p.2 x
   | none=>none
  | _,_=>none
 | .indexAddr t x i=>
  match T.P.underlying t,cOpd T x,cOpd T i with
  | some (.slice e),some x,some i=>(szT T e).map fun n=>.indexAddrVs n x i
  | some (.array len e),some x,some i=>(szT T e).map fun n=>.indexAddrArr len n x i
  | _,_,_=>none
 | .index t x i=>
  match T.P.underlying t,cOpd T x,cOpd T i with
  | some .string,some x,some i=>some (.indexStr x i)
  | some (.array len e),some x,some i=>
   match ldT T e,szT T e with | some (g,n),some m=>if n = m then some (.indexArr len g n x i) else none | _,_=>none
  | _,_,_=>none
 | .lookup t m k ok=>
  match T.P.underlying t,cOpd T m,cOpd T k with
  | some (.map kt e),some m,some k=>
   match T.P.underlying kt,zeroT T e with
   | some .string,some z=>some (.lookup .str z ok m k)
   | some (.int _),some z=>some (.lookup .int z ok m k)
   | _,_=>none
  | _,_,_=>none
 | .mapUpdate t m k v=>
  match T.P.underlying t,cOpd T m,cOpd T k,cOpd T v with
  | some (.map kt _),some m,some k,some v=>
   match T.P.underlying kt with
   | some .string=>some (.mapUpdate .str m k v)
   | some (.int _)=>some (.mapUpdate .int m k v)
   | _=>none
  | _,_,_,_=>none
 | .extract x i=>(cOpd T x).map (.extract i)
 | .call c=>
  match c.callee with
  | .builtin b=>cBuiltin T R b c
  | _=>(cCall T c).map fun p=>.call p.1 p.2
 | .defer c=>(cCall T c).map fun p=>.defer p.1 p.2
 | .panic x=>(cOpd T x).map .panic
 | .typeAssert x _ a ok=>
  match T.P.underlying a,tOf T a,zeroT T a,cOpd T x with
  | some (.interface _),_,_,_=>none
  | some _,some u,some z,some x=>some (.typeAssert u z ok x)
  | _,_,_,_=>none
 | _=>none
def cGuard (ops:List Oper):Option (Nat × Bool)→Option (Option (Nat × Bool))
 | none=>some none
 | some (j,want)=>match (ops[j]?).bind (·.dst) with | some d=>some (some (d,want)) | none=>none
def cOpers (all:List Oper):List Oper→Option (List SOper)
 | []=>some []
 | o :: os=>
  match cOp T R o,cGuard all o.guard,cOpers all os with
  | some op,some g,some os=>some ({ dst:=o.dst,guard:=g,op } :: os)
  | _,_,_=>none
inductive Cls where
 | quiet | read | new | app | last
 deriving DecidableEq
def cls:SOp→Cls
 | .alloc _ | .box _ _ | .mkMap | .conv .toBytes _=>.new
 | .append _ _ _ _=>.app
 | .appendRow _ _ _ _ | .store _ _ _ | .mapUpdate _ _ _ _ | .panic _ | .defer _ _ | .recover | .mkSlice _ _ _ _=>.last
 | .load _ _ _ | .lookup _ _ _ _ _ | .len .map _ | .conv .toStr _=>.read
 | _=>.quiet
def commute:Cls→Cls→Bool
 | .quiet,.last=>true
 | .quiet,_=>true
 | _,.quiet=>true
 | .read,.read=>true
 | .read,.new=>true
 | .read,.app=>true
 | .app,.read=>true
 | .app,.new=>true
 | _,_=>false
def firstRegion:Code→Nat
 | .region id _ _=>id
 | .seq a _=>firstRegion a
 | .block _ c | .loop c | .scope c=>firstRegion c
 | _=>0
structure Keeps where
 blk:Nat→List Bool
 lp:Nat→List Bool
 rt:List Bool
 /-- Whose slices,by their elements' types,are written in place. -/
 rows:Nat→Bool:=fun _=>false
variable (K:Keeps)
def SOpd.tmps:SOpd→List Nat
 | .tmp t=>[t]
 | _=>[]
def oTmps:Option SOpd→List Nat
 | some x=>x.tmps
 | none=>[]
def lTmps:List SOpd→List Nat
 | []=>[]
 | x :: xs=>x.tmps++lTmps xs
def pTmps:List (Nat × Nat × SOpd)→List Nat
 | []=>[]
 | p :: ps=>p.2.2.tmps++pTmps ps
def reads:SOp→List Nat
 | .mov x | .box _ x | .load _ _ x | .nilCheck x | .un _ x | .isNil _ _ x | .conv _ x | .mkIface _ x | .fieldAddr _ x | .field _ _ _ x | .extract _ x | .len _ x | .panic x | .typeAssert _ _ _ x=>x.tmps
 | .pick c a b=>c.tmps++a.tmps++b.tmps
 | .alloc _ | .mkMap | .lenArr _ | .recover=>[]
 | .build _ ps | .buildSlice _ _ ps=>pTmps ps
 | .store _ a x | .bin _ _ a x | .minmax _ a x | .indexAddrVs _ a x | .indexAddrArr _ _ a x | .indexArr _ _ _ a x | .indexStr a x | .lookup _ _ _ a x | .append _ _ a x | .appendRow _ _ a x | .mkSlice _ _ a x=>a.tmps++x.tmps
 | .mkFn _ a b=>lTmps a++lTmps b
 | .sliceStr x lo hi | .sliceArr _ _ x lo hi=>x.tmps++oTmps lo++oTmps hi
 | .sliceVs _ x lo hi mx=>x.tmps++oTmps lo++oTmps hi++oTmps mx
 | .mapUpdate _ m k v=>m.tmps++k.tmps++v.tmps
 | .call f as | .defer f as=>f.tmps++lTmps as
def SOper.looks (o:SOper):List Nat:=(match o.guard with | some (t,_)=>[t] | none=>[])++reads o.op
def apartS (a b:SOper):Bool:=
 (match a.dst with | some d=>!(b.looks.contains d) && b.dst != some d | none=>true) && (match b.dst with | some d=>!(a.looks.contains d) | none=>true)
def drawOk (ops:Array Oper) (sops:List SOper):Bool:=
 (List.range ops.size).all fun i=>
  match ops[i]?,sops[i]? with
  | some o,some b=>
   (o.after.all fun e=>!Region.binds .any e || decide (e.on < i)) &&
   (List.range i).all fun j=>(o.after.any fun e=>Region.binds .any e && e.on == j) || (match sops[j]? with | some a=>commute (cls a.op) (cls b.op) && apartS a b | none=>false)
  | _,_=>false
def mixOk (ops:Array Oper) (sops:List SOper) (c m:Nat):Bool:=
 decide (c + m < ops.size) && (List.range ops.size).all fun i=>
  match ops[i]?,sops[i]? with
  | some o,some b=>
   (o.after.all fun e=>!Region.binds .any e || decide (e.on < i)) &&
   (decide (i ≠ c∧i ≤ c + m) && decide (cls b.op = .quiet∨cls b.op = .read) && (match b.op with | .call _ _=>false | _=>true) && (decide (i < c) || (match sops[c]? with | some a=>apartS b a | none=>false)) ||
    i == c && (match b.op with | .call _ _=>true | _=>false) ||
    decide (c + m < i) && o.after.any fun e=>Region.binds .any e && (e.on == c || decide (c + m < e.on))) &&
   (List.range i).all fun j=>j == c || (o.after.any fun e=>Region.binds .any e && e.on == j) || (match sops[j]? with | some a=>(i == c || commute (cls a.op) (cls b.op)) && apartS a b | none=>false)
  | _,_=>false
def Keeps.mix (K:Keeps) (id:Nat):Option (Nat × Nat):=match K.blk (id + 1000000) with | []=>none | _ :: l=>some ((l.filter fun b=>b).length,(l.filter fun b=>!b).length)
def flagS (ops:Array Oper) (sops:List SOper) (j i:Nat):Bool:=
 decide (j < i) && (match sops[j]?,sops[i]?,ops[i]? with
  | some a,some b,some o=>decide (cls a.op = .read) && b.op.isStore && !(o.after.any fun e=>Region.binds .any e && e.on == j)
  | _,_,_=>false)
def markS (ops:Array Oper) (sops:List SOper) (l:List Nat) (j:Nat):Nat:=(l.filter (flagS ops sops j)).length
def markedS (ops:Array Oper) (sops:List SOper) (l0 l:List Nat):List (SOper × Nat):=l.filterMap fun j=>(sops[j]?).map fun s=>(s,markS ops sops l0 j)
def ordF (ops:Array Oper):Nat→Nat→Nat→Bool
 | 0,_,_=>false
 | n + 1,i,j=>match ops[i]? with | some o=>o.after.any fun e=>Region.binds .any e && (e.on == j || ordF ops n e.on j) | none=>false
def stOk (ops:Array Oper) (sops:List SOper):Bool:=
 (List.range ops.size).all fun i=>
  match ops[i]?,sops[i]? with
  | some o,some b=>
   (o.after.all fun e=>!Region.binds .any e || decide (e.on < i)) &&
   (List.range i).all fun j=>ordF ops 2 i j || (match sops[j]? with | some a=>(commute (cls a.op) (cls b.op) || decide (cls a.op = .read) && b.op.isStore) && apartS a b | none=>false)
  | _,_=>false
def cCode:Code→Option SCode
 | .skip=>some .skip
 | .label _=>some .skip
 | .region _ ops false=>(cOpers T K.rows ops.toList ops.toList).map (.region false)
 | .region id ops true=>
  match cOpers T K.rows ops.toList ops.toList with
  | some sops=>
   match K.mix id with
   | none=>if drawOk ops sops then some (.region true sops) else if stOk ops sops then some (.stored (markedS ops sops (List.range ops.size) (List.range ops.size))) else none
   | some (c,m)=>match sops[c]? with | some b=>if mixOk ops sops c m then some (.mixed (sops.take c++(sops.drop (c + 1)).take m) b (sops.drop (c + 1 + m))) else none | none=>none
  | none=>none
 | .seq a b=>match cCode a,cCode b with | some a,some b=>some (.seq a b) | _,_=>none
 | .cond c a b=>match cOpd T c,cCode a,cCode b with | some c,some a,some b=>some (.cond c a b) | _,_,_=>none
 | .block id c=>(cCode c).map (.block id (K.blk id))
 | .loop c=>(cCode c).map (.loop (K.lp (firstRegion c)))
 | .rangeFunc f ps a b=>match cOpd T f,cCode a,cCode b with | some f,some a,some b=>some (.rangeFunc f ps.toList a b) | _,_,_=>none
 | .exit id=>some (.exit id (K.blk id))
 | .scope c=>(cCode c).map .scope
 | .ret=>some (.ret K.rt)
 | .goto _ | .refuse _=>none
def cResult:ResultVar→Option SRes
 | .tmp t=>some (.tmp t)
 | .cell a t=>(ldT T t).map fun p=>.cell a p.1 p.2
def cResults:List ResultVar→Option (List SRes)
 | []=>some []
 | r :: rs=>match cResult T r,cResults rs with | some r,some rs=>some (r :: rs) | _,_=>none
def cFunc (mode:SMode) (f:Func):Option SFunc:=
 match f.body with
 | none=>none
 | some c=>
  match cCode T K c,cResults T f.results.toList with
  | some body, some results => if f.name == "runtime.NumGoroutine" then none else some { mode, ntmps := f.ntmps, results, body }
  | _,_=>none
end Go.Pv
/- What the evaluator's heap says of the world, and how it is kept by each turn of the world. Conditions: none; definitions and lemmas. -/
namespace Go.Pv
open Go.RowKit
variable (T:Tie) (E:Env)
def stC:LState→LoopState
 | .ready=>.ready
 | .busy=>.busy
 | .done=>.done
def jumpC:AJump→Code
 | .ret=>.ret
 | .exit id=>.exit id
def RepE (G:Ghost) (w:World):List (AV × AV)→List MapEntry→Prop
 | [],l=>l = []
 | e :: es,l=>∃ x xs,l = x :: xs∧RepV T G w e.1 x.key∧RepV T G w e.2 x.val∧RepE G w es xs
def RepB (G:Ghost) (w:World):ABlk→Nat→Prop
 | .cells cs,r=>∃ (l tail:List Value) (e:TypeId) (fz:Nat × Nat),w.heap[r]? = some (.cells ⟨l++tail⟩ e fz)∧(∀ i,i < l.length + tail.length→w.frozen? ⟨r,i,none⟩ = false)∧RepL T G w cs l
 | .map es,r=>∃ (es':Array MapEntry) (ck:Nat),w.heap[r]? = some (.map es' ck)∧RepE T G w es es'.toList
 | .loop st pend tmps params assign body,r=>∃ (L:Loop) (K:Keeps),w.heap[r]? = some (.loop L)∧L.state = stC st∧L.pending = pend.map jumpC∧RepL T G w tmps L.tmps.toList∧L.params.toList = params ∧
   cCode T K L.assign = some assign∧cCode T K L.body = some body
 | .dead,_=>True
def GlobOk (G:Ghost) (w:World) (g:Nat) (cs:List AV):Prop:=
 RepV T G w (.pin cs) (.pointer (some ⟨T.gnum g,0,none⟩))∧∃ (c:Array Value) (e:TypeId) (fz:Nat × Nat),w.heap[T.gnum g]? = some (.cells c e fz)∧c.size = cs.length
structure Inv (G:Ghost) (h:AHeap) (w:World):Prop where
 len:G.mu.length = h.blks.length
 inj:∀ (i j r:Nat),G.mu[i]? = some r→G.mu[j]? = some r→h.blks[i]? ≠ some .dead→h.blks[j]? ≠ some .dead→i = j
 lt:∀ r ∈ G.mu,r < w.heap.size
 blk:∀ (i:Nat) (b:ABlk) (r:Nat),h.blks[i]? = some b→G.mu[i]? = some r→RepB T G w b r
 vlt:∀ b m,G.vals b = some m→b < w.heap.size
 vmu:∀ b m,G.vals b = some m→b ∉ G.mu
 vcell:∀ b m,G.vals b = some m→∃ (c:Array Value) (e:TypeId) (fz:Nat × Nat),w.heap[b]? = some (.cells c e fz)∧m ≤ c.size
 tlt:∀ k n b,G.tau k n = some b→b < w.heap.size∧b ∉ G.mu∧k < h.toks.length
 tok:∀ (k n:Nat),h.toks[k]? = some n→∃ (b:Nat) (c:Array Value) (e:TypeId) (fz:Nat × Nat),G.tau k n = some b∧w.heap[b]? = some (.cells c e fz)∧n ≤ c.size∧G.vals b = some n ∧
   (∀ i,n ≤ i→i < c.size→w.frozen? ⟨b,i,none⟩ = false)
 tmax:∀ (k n b N:Nat),G.tau k n = some b→h.toks[k]? = some N→n ≤ N
 tdisj:∀ k n b k' n',G.tau k n = some b→G.tau k' n' = some b→k = k'
 glob:∀ g cs,E.glob g = some cs→GlobOk T G w g cs
 ro:G.ro = h.ro
 rot:G.rot = h.rot
 rle:h.ro ≤ h.blks.length
 rtle:h.rot ≤ h.toks.length
variable {T E}
theorem GlobOk.mono {G G':Ghost} {w w':World} (K:Keep G w G' w') {g:Nat} {cs:List AV} (h:GlobOk T G w g cs):GlobOk T G' w' g cs:=by
 obtain ⟨h1,c,e,fz,h2,h3⟩:=h
 obtain ⟨c',fz',h4,h5⟩:=K.shape _ c e fz h2
 exact ⟨RepV.mono K _ _ h1,c',e,fz',h4,by omega⟩
theorem RepE.mono {G G':Ghost} {w w':World} (K:Keep G w G' w'):∀ (es:List (AV × AV)) (l:List MapEntry),RepE T G w es l→RepE T G' w' es l
 | [],l,h=>by simpa only [RepE] using h
 | e :: es,l,h=>by
  simp only [RepE] at h ⊢
  obtain ⟨x,xs,h1,h2,h3,h4⟩:=h
  exact ⟨x,xs,h1,RepV.mono K _ _ h2,RepV.mono K _ _ h3,RepE.mono K es xs h4⟩
theorem frozen_of_heap {w w':World} {r:Nat} (h:w'.heap[r]? = w.heap[r]?) (i:Nat):w'.frozen? ⟨r,i,none⟩ = w.frozen? ⟨r,i,none⟩:=by
 simp only [World.frozen?,h]
theorem cell_of_heap {w w':World} {r:Nat} (h:w'.heap[r]? = w.heap[r]?) (i:Nat):w'.cell? ⟨r,i,none⟩ = w.cell? ⟨r,i,none⟩:=by
 simp only [World.cell?,h]
theorem RepB.mono {G G':Ghost} {w w':World} (K:Keep G w G' w') {b:ABlk} {r:Nat} (hr:w'.heap[r]? = w.heap[r]?) (h:RepB T G w b r):RepB T G' w' b r:=by
 cases b with
 | cells cs=>
  obtain ⟨l,tail,e,fz,h1,h2,h3⟩:=h
  exact ⟨l,tail,e,fz,hr.trans h1,fun i hi=>(frozen_of_heap hr i).trans (h2 i hi),RepL.mono K _ _ h3⟩
 | map es=>
  obtain ⟨es',ck,h1,h2⟩:=h
  exact ⟨es',ck,hr.trans h1,RepE.mono K _ _ h2⟩
 | loop st pend tmps params assign body=>
  obtain ⟨L,K',h1,h2,h3,h4,h5⟩:=h
  exact ⟨L,K',hr.trans h1,h2,h3,RepL.mono K _ _ h4,h5⟩
 | dead=>trivial
theorem Inv.put {G:Ghost} {h:AHeap} {w:World} (I:Inv T E G h w) {i:Nat} {b:ABlk} {r:Nat} (o:Obj) (hi:i < h.blks.length) (ha:h.blks[i]? ≠ some .dead) (hri:h.ro ≤ i) (hr:G.mu[i]? = some r)
  (hs:∀ (c:Array Value) (e:TypeId) (fz:Nat × Nat),w.heap[r]? = some (.cells c e fz)→∃ (c':Array Value) (fz':Nat × Nat),o = .cells c' e fz'∧c'.size = c.size)
  (hl:∀ (L:Loop),w.heap[r]? = some (.loop L)→∃ L',o = .loop L')
  (hb:Keep G w G (w.putObj r o)→RepB T G (w.putObj r o) b r):Ext G w G (w.putObj r o)∧Inv T E G (h.setBlk i b) (w.putObj r o):=by
 have hmem:r ∈ G.mu:=List.mem_of_getElem? hr
 have hlt:r < w.heap.size:=I.lt r hmem
 have hsame:(w.putObj r o).heap[r]? = some o:=World.putObj_heap_same hlt
 have hoth:∀ k,k ≠ r→(w.putObj r o).heap[k]? = w.heap[k]?:=fun k hk=>World.putObj_heap_other hk
 have hsize:(w.putObj r o).heap.size = w.heap.size:=by simp [World.putObj]
 have hX:Ext G w G (w.putObj r o):={
  mu:=⟨[],by simp⟩
  mulate:=by simp
  ro:=rfl
  rot:=rfl
  size:=by rw [hsize]; exact Nat.le_refl _
  vlt:=I.vlt
  vals:=fun b m h=>⟨m,h,Nat.le_refl _⟩
  valsfix:=fun b m h _=>h
  valsfresh:=fun b m h=>.inl ⟨m,h⟩
  cells:=fun b m hb i _=>cell_of_heap (hoth b (fun e=>I.vmu b m hb (e ▸ hmem))) i
  tau:=fun _ _ _ h=>h
  taufresh:=fun k n b h=>.inl ⟨n,h⟩
  taufix:=fun k n b _ h=>h
  frame:=fun b _ hb _=>hoth b (fun e=>hb (e ▸ List.mem_of_getElem? (i:=i - G.ro) (by rw [List.getElem?_drop,I.ro,show h.ro + (i - h.ro) = i by omega]; exact hr)))
  shape:=fun b2 c e fz hb2=>by
   by_cases hbr:b2 = r
   ·subst hbr
    obtain ⟨c',fz',h1,h2⟩:=hs c e fz hb2
    exact ⟨c',fz',by rw [hsame,h1],h2⟩
   ·exact ⟨c,fz,by rw [hoth b2 hbr]; exact hb2,rfl⟩
  loops:=fun b2 L hb2=>by
   by_cases hbr:b2 = r
   ·subst hbr
    obtain ⟨L',h1⟩:=hl L hb2
    exact ⟨L',by rw [hsame,h1]⟩
   ·exact ⟨L,by rw [hoth b2 hbr]; exact hb2⟩
  os:=rfl
  tape:=rfl
  output:=rfl }
 have hK:=hX.keep
 refine ⟨hX,?_⟩
 exact {
  len:=by simpa [AHeap.setBlk] using I.len
  inj:=fun i1 j1 r1 h1 h2 h3 h4=>by
   simp only [AHeap.setBlk,List.getElem?_set] at h3 h4
   refine I.inj i1 j1 r1 h1 h2 (fun q=>?_) (fun q=>?_)
   ·by_cases e:i = i1
    ·subst e; exact ha q
    ·rw [if_neg e] at h3; exact h3 q
   ·by_cases e:i = j1
    ·subst e; exact ha q
    ·rw [if_neg e] at h4; exact h4 q
  lt:=fun r hr=>by rw [hsize]; exact I.lt r hr
  blk:=fun j b' r' hj hr'=>by
   simp only [AHeap.setBlk,List.getElem?_set] at hj
   by_cases hij:i = j
   ·subst hij
    rw [hr] at hr'
    cases hr'
    simp only [if_true,hi] at hj
    cases hj
    exact hb hK
   ·rw [if_neg hij] at hj
    by_cases hd:b' = .dead
    ·subst hd
     trivial
    ·refine RepB.mono hK (hoth r' fun e=>hij ?_) (I.blk j b' r' hj hr')
     subst e
     exact I.inj i j _ hr hr' ha (fun q=>hd (Option.some.inj (hj.symm.trans q)))
  vlt:=fun b m hb=>by rw [hsize]; exact I.vlt b m hb
  vmu:=I.vmu
  vcell:=fun b m hb=>by
   obtain ⟨c,e,fz,h1,h2⟩:=I.vcell b m hb
   exact ⟨c,e,fz,by rw [hoth b (fun e=>I.vmu b m hb (e ▸ hmem))]; exact h1,h2⟩
  tlt:=fun k n b hb=>by rw [hsize]; exact I.tlt k n b hb
  tok:=fun k n hk=>by
   obtain ⟨b,c,e,fz,h1,h2,h3,h4,h5⟩:=I.tok k n hk
   have hne:b ≠ r:=fun e=>(I.tlt k n b h1).2.1 (e ▸ hmem)
   exact ⟨b,c,e,fz,h1,by rw [hoth b hne]; exact h2,h3,h4,fun i a b'=>(frozen_of_heap (hoth b hne) i).trans (h5 i a b')⟩
  tmax:=I.tmax
  tdisj:=I.tdisj
  glob:=fun g cs hg=>GlobOk.mono hK (I.glob g cs hg)
  ro:=I.ro
  rot:=I.rot
  rle:=by simpa [AHeap.setBlk] using I.rle
  rtle:=I.rtle }
theorem alloc_lt {w:World} {o:Obj} {k:Nat} (h:k < w.heap.size):(w.alloc o).heap[k]? = w.heap[k]?:=by
 show (w.heap.push o)[k]? = _
 rw [Array.getElem?_push,if_neg (by omega)]
theorem alloc_at (w:World) (o:Obj):(w.alloc o).heap[w.heap.size]? = some o:=by
 show (w.heap.push o)[_]? = _
 rw [Array.getElem?_push,if_pos rfl]
theorem frozen_new (w:World) (c:Array Value) (e:TypeId) (i:Nat):(w.alloc (.cells c e)).frozen? ⟨w.heap.size,i,none⟩ = false:=by
 unfold World.frozen?
 rw [alloc_at]
 simp
theorem cell_new (w:World) (c:Array Value) (e:TypeId) (i:Nat):(w.alloc (.cells c e)).cell? ⟨w.heap.size,i,none⟩ = c[i]?:=by
 unfold World.cell?
 rw [alloc_at]
 simp
theorem heap_lt {w:World} {b:Nat} {o:Obj} (h:w.heap[b]? = some o):b < w.heap.size:=(Array.getElem?_eq_some_iff.1 h).1
theorem Inv.push {G:Ghost} {h:AHeap} {w:World} (I:Inv T E G h w) (b:ABlk) (o:Obj)
  (hb:Keep G w { G with mu:=G.mu++[w.heap.size] } (w.alloc o)→RepB T { G with mu:=G.mu++[w.heap.size] } (w.alloc o) b w.heap.size):
  Ext G w { G with mu:=G.mu++[w.heap.size] } (w.alloc o)∧Inv T E { G with mu:=G.mu++[w.heap.size] } (h.push b) (w.alloc o):=by
 have hX:Ext G w { G with mu:=G.mu++[w.heap.size] } (w.alloc o):={
  mu:=⟨_,rfl⟩
  mulate:=fun r hr=>by
   simp only [List.drop_left,List.mem_singleton] at hr
   exact .inl (by omega)
  ro:=rfl
  rot:=rfl
  size:=by simp
  vlt:=I.vlt
  vals:=fun b m h=>⟨m,h,Nat.le_refl _⟩
  valsfix:=fun b m h _=>h
  valsfresh:=fun b m h=>.inl ⟨m,h⟩
  cells:=fun b m hb i _=>cell_of_heap (alloc_lt (I.vlt b m hb)) i
  tau:=fun _ _ _ h=>h
  taufresh:=fun k n b h=>.inl ⟨n,h⟩
  taufix:=fun k n b _ h=>h
  frame:=fun b hb _ _=>alloc_lt hb
  shape:=fun b c e fz hb=>⟨c,fz,by rw [alloc_lt (heap_lt hb)]; exact hb,rfl⟩
  loops:=fun b L hb=>⟨L,by rw [alloc_lt (heap_lt hb)]; exact hb⟩
  os:=rfl
  tape:=rfl
  output:=rfl }
 have hK:=hX.keep
 refine ⟨hX,?_⟩
 exact {
  len:=by simp [AHeap.push,I.len]
  inj:=fun i j r h1 h2 h3 h4=>by
   have cut:∀ k,(G.mu++[w.heap.size])[k]? = some r→(k < G.mu.length∧G.mu[k]? = some r)∨(k = G.mu.length∧r = w.heap.size):=by
    intro k hk
    by_cases hkl:k < G.mu.length
    ·rw [List.getElem?_append_left hkl] at hk
     exact .inl ⟨hkl,hk⟩
    ·rw [List.getElem?_append_right (by omega)] at hk
     have:=(List.getElem?_eq_some_iff.1 hk).1
     simp at this
     have e:k = G.mu.length:=by omega
     subst e
     simp at hk
     exact .inr ⟨rfl,hk.symm⟩
   simp only [AHeap.push] at h3 h4
   rcases cut i h1 with ⟨hi,q1⟩ | ⟨hi,q1⟩ <;> rcases cut j h2 with ⟨hj,q2⟩ | ⟨hj,q2⟩
   ·rw [List.getElem?_append_left (by rw [← I.len]; exact hi)] at h3
    rw [List.getElem?_append_left (by rw [← I.len]; exact hj)] at h4
    exact I.inj i j r q1 q2 h3 h4
   ·have:=I.lt r (List.mem_of_getElem? q1); omega
   ·have:=I.lt r (List.mem_of_getElem? q2); omega
   ·omega
  lt:=fun r hr=>by
   simp only [List.mem_append,List.mem_singleton] at hr
   simp only [World.size_alloc]
   rcases hr with hr | hr
   ·have:=I.lt r hr; omega
   ·omega
  blk:=fun j b' r' hj hr'=>by
   simp only [AHeap.push] at hj
   by_cases hjl:j < h.blks.length
   ·rw [List.getElem?_append_left hjl] at hj
    rw [List.getElem?_append_left (by rw [I.len]; exact hjl)] at hr'
    exact RepB.mono hK (alloc_lt (I.lt r' (List.mem_of_getElem? hr'))) (I.blk j b' r' hj hr')
   ·have hje:j = h.blks.length:=by
     have:=(List.getElem?_eq_some_iff.1 hj).1
     simp at this
     omega
    subst hje
    rw [List.getElem?_append_right (Nat.le_refl _)] at hj
    rw [← I.len,List.getElem?_append_right (Nat.le_refl _)] at hr'
    simp at hj hr'
    subst hj
    subst hr'
    exact hb hK
  vlt:=fun b m hb=>by have:=I.vlt b m hb; simp; omega
  vmu:=fun b m hb hm=>by
   simp only [List.mem_append,List.mem_singleton] at hm
   rcases hm with hm | hm
   ·exact I.vmu b m hb hm
   ·have:=I.vlt b m hb; omega
  vcell:=fun b m hb=>by
   obtain ⟨c,e,fz,h1,h2⟩:=I.vcell b m hb
   exact ⟨c,e,fz,by rw [alloc_lt (I.vlt b m hb)]; exact h1,h2⟩
  tlt:=fun k n b hb=>by
   obtain ⟨h1,h2,h3⟩:=I.tlt k n b hb
   refine ⟨by simp; omega,fun hm=>?_,h3⟩
   simp only [List.mem_append,List.mem_singleton] at hm
   rcases hm with hm | hm
   ·exact h2 hm
   ·omega
  tok:=fun k n hk=>by
   obtain ⟨b,c,e,fz,h1,h2,h3,h4,h5⟩:=I.tok k n hk
   have hl:=alloc_lt (o:=o) (heap_lt h2)
   exact ⟨b,c,e,fz,h1,by rw [hl]; exact h2,h3,h4,fun i a b'=>(frozen_of_heap hl i).trans (h5 i a b')⟩
  tmax:=I.tmax
  tdisj:=I.tdisj
  glob:=fun g cs hg=>GlobOk.mono hK (I.glob g cs hg)
  ro:=I.ro
  rot:=I.rot
  rle:=by have:=I.rle; simp [AHeap.push]; omega
  rtle:=I.rtle }
theorem Inv.newVal {G:Ghost} {h:AHeap} {w:World} (I:Inv T E G h w) (c:Array Value) (e:TypeId):
  Ext G w { G with vals:=fun b=>if b = w.heap.size then some c.size else G.vals b } (w.alloc (.cells c e)) ∧
  Inv T E { G with vals:=fun b=>if b = w.heap.size then some c.size else G.vals b } h (w.alloc (.cells c e)):=by
 have hX:Ext G w { G with vals:=fun b=>if b = w.heap.size then some c.size else G.vals b } (w.alloc (.cells c e)):={
  mu:=⟨[],by simp⟩
  mulate:=by simp
  ro:=rfl
  rot:=rfl
  size:=by simp
  vlt:=I.vlt
  vals:=fun b m hb=>⟨m,by have:=I.vlt b m hb; simp only []; rw [if_neg (by omega)]; exact hb,Nat.le_refl _⟩
  valsfix:=fun b m hb _=>by have:=I.vlt b m hb; simp only []; rw [if_neg (by omega)]; exact hb
  valsfresh:=fun b m hb=>by
   simp only [] at hb
   by_cases hbe:b = w.heap.size
   ·exact .inr (by omega)
   ·rw [if_neg hbe] at hb; exact .inl ⟨m,hb⟩
  cells:=fun b m hb i _=>cell_of_heap (alloc_lt (I.vlt b m hb)) i
  tau:=fun _ _ _ h=>h
  taufresh:=fun k n b h=>.inl ⟨n,h⟩
  taufix:=fun k n b _ h=>h
  frame:=fun b hb _ _=>alloc_lt hb
  shape:=fun b c e fz hb=>⟨c,fz,by rw [alloc_lt (heap_lt hb)]; exact hb,rfl⟩
  loops:=fun b L hb=>⟨L,by rw [alloc_lt (heap_lt hb)]; exact hb⟩
  os:=rfl
  tape:=rfl
  output:=rfl }
 have hK:=hX.keep
 refine ⟨hX,?_⟩
 exact {
  len:=I.len
  inj:=I.inj
  lt:=fun r hr=>by have:=I.lt r hr; simp; omega
  blk:=fun j b' r' hj hr'=>RepB.mono hK (alloc_lt (I.lt r' (List.mem_of_getElem? hr'))) (I.blk j b' r' hj hr')
  vlt:=fun b m hb=>by
   simp only [] at hb
   simp only [World.size_alloc]
   by_cases hbe:b = w.heap.size
   ·omega
   ·rw [if_neg hbe] at hb; have:=I.vlt b m hb; omega
  vmu:=fun b m hb hm=>by
   simp only [] at hb
   by_cases hbe:b = w.heap.size
   ·have:=I.lt b hm; omega
   ·rw [if_neg hbe] at hb; exact I.vmu b m hb hm
  vcell:=fun b m hb=>by
   simp only [] at hb
   by_cases hbe:b = w.heap.size
   ·subst hbe
    simp only [if_true] at hb
    cases hb
    exact ⟨c,e,(0,0),alloc_at _ _,Nat.le_refl _⟩
   ·rw [if_neg hbe] at hb
    obtain ⟨c',e',fz,h1,h2⟩:=I.vcell b m hb
    exact ⟨c',e',fz,by rw [alloc_lt (I.vlt b m hb)]; exact h1,h2⟩
  tlt:=fun k n b hb=>by
   obtain ⟨h1,h2,h3⟩:=I.tlt k n b hb
   exact ⟨by simp; omega,h2,h3⟩
  tok:=fun k n hk=>by
   obtain ⟨b,c',e',fz,h1,h2,h3,h4,h5⟩:=I.tok k n hk
   have hlt:=heap_lt h2
   have hl:=alloc_lt (o:=.cells c e) hlt
   exact ⟨b,c',e',fz,h1,by rw [hl]; exact h2,h3,by simp only []; rw [if_neg (by omega)]; exact h4,fun i a b'=>(frozen_of_heap hl i).trans (h5 i a b')⟩
  tmax:=I.tmax
  tdisj:=I.tdisj
  glob:=fun g cs hg=>GlobOk.mono hK (I.glob g cs hg)
  ro:=I.ro
  rot:=I.rot
  rle:=I.rle
  rtle:=I.rtle }
theorem Inv.drew {G:Ghost} {h:AHeap} {w:World} (I:Inv T E G h w):Ext G w G w.drew∧Inv T E G h w.drew:=by
 have hX:Ext G w G w.drew:={
  mu:=⟨[],by simp⟩,mulate:=by simp,ro:=rfl,rot:=rfl,size:=Nat.le_refl _,vlt:=I.vlt,vals:=fun b m h=>⟨m,h,Nat.le_refl _⟩,valsfix:=fun b m h _=>h,valsfresh:=fun b m h=>.inl ⟨m,h⟩,
  cells:=fun _ _ _ _ _=>rfl,tau:=fun _ _ _ h=>h,taufresh:=fun k n b h=>.inl ⟨n,h⟩,taufix:=fun k n b _ h=>h,frame:=fun _ _ _ _=>rfl,shape:=fun b c e fz hb=>⟨c,fz,hb,rfl⟩,loops:=fun b L hb=>⟨L,hb⟩,os:=rfl,tape:=rfl,output:=rfl }
 have hK:=hX.keep
 exact ⟨hX,{
  len:=I.len,inj:=I.inj,lt:=I.lt,blk:=fun j b r hj hr=>RepB.mono hK rfl (I.blk j b r hj hr),vlt:=I.vlt,vmu:=I.vmu,vcell:=I.vcell,tlt:=I.tlt,tok:=I.tok,tmax:=I.tmax,tdisj:=I.tdisj,
  glob:=fun g cs hg=>GlobOk.mono hK (I.glob g cs hg)
  ro:=I.ro
  rot:=I.rot
  rle:=I.rle
  rtle:=I.rtle }⟩
theorem Inv.newTok {G:Ghost} {h:AHeap} {w:World} (I:Inv T E G h w) (c:Array Value) (e:TypeId) (n:Nat) (hn:n ≤ c.size):
  Ext G w { G with vals:=fun b=>if b = w.heap.size then some n else G.vals b,tau:=fun k i=>if k = h.toks.length then (if i = n then some w.heap.size else none) else G.tau k i } (w.alloc (.cells c e)) ∧
  Inv T E { G with vals:=fun b=>if b = w.heap.size then some n else G.vals b,tau:=fun k i=>if k = h.toks.length then (if i = n then some w.heap.size else none) else G.tau k i } { h with toks:=h.toks++[n] } (w.alloc (.cells c e)):=by
 have hold:∀ k i b,G.tau k i = some b→k ≠ h.toks.length:=fun k i b hb=>by have:=(I.tlt k i b hb).2.2; omega
 have hX:Ext G w { G with vals:=fun b=>if b = w.heap.size then some n else G.vals b,tau:=fun k i=>if k = h.toks.length then (if i = n then some w.heap.size else none) else G.tau k i } (w.alloc (.cells c e)):={
  mu:=⟨[],by simp⟩
  mulate:=by simp
  ro:=rfl
  rot:=rfl
  size:=by simp
  vlt:=I.vlt
  vals:=fun b m hb=>⟨m,by have:=I.vlt b m hb; simp only []; rw [if_neg (by omega)]; exact hb,Nat.le_refl _⟩
  valsfix:=fun b m hb _=>by have:=I.vlt b m hb; simp only []; rw [if_neg (by omega)]; exact hb
  valsfresh:=fun b m hb=>by
   simp only [] at hb
   by_cases hbe:b = w.heap.size
   ·exact .inr (by omega)
   ·rw [if_neg hbe] at hb; exact .inl ⟨m,hb⟩
  cells:=fun b m hb i _=>cell_of_heap (alloc_lt (I.vlt b m hb)) i
  tau:=fun k i b hb=>by simp only []; rw [if_neg (hold k i b hb)]; exact hb
  taufresh:=fun k i b hb=>by
   simp only [] at hb
   by_cases hk:k = h.toks.length
   ·rw [if_pos hk] at hb
    split at hb
    ·cases hb; exact .inr (Nat.le_refl _)
    ·cases hb
   ·rw [if_neg hk] at hb; exact .inl ⟨i,hb⟩
  taufix:=fun k i b hk hb=>by
   simp only [] at hb
   rw [if_neg (by have:=I.rtle; have:=I.rot; omega)] at hb
   exact hb
  frame:=fun b hb _ _=>alloc_lt hb
  shape:=fun b c e fz hb=>⟨c,fz,by rw [alloc_lt (heap_lt hb)]; exact hb,rfl⟩
  loops:=fun b L hb=>⟨L,by rw [alloc_lt (heap_lt hb)]; exact hb⟩
  os:=rfl
  tape:=rfl
  output:=rfl }
 have hK:=hX.keep
 refine ⟨hX,?_⟩
 exact {
  len:=I.len
  inj:=I.inj
  lt:=fun r hr=>by have:=I.lt r hr; simp; omega
  blk:=fun j b' r' hj hr'=>RepB.mono hK (alloc_lt (I.lt r' (List.mem_of_getElem? hr'))) (I.blk j b' r' hj hr')
  vlt:=fun b m hb=>by
   simp only [] at hb
   simp only [World.size_alloc]
   by_cases hbe:b = w.heap.size
   ·omega
   ·rw [if_neg hbe] at hb; have:=I.vlt b m hb; omega
  vmu:=fun b m hb hm=>by
   simp only [] at hb
   by_cases hbe:b = w.heap.size
   ·have:=I.lt b hm; omega
   ·rw [if_neg hbe] at hb; exact I.vmu b m hb hm
  vcell:=fun b m hb=>by
   simp only [] at hb
   by_cases hbe:b = w.heap.size
   ·subst hbe
    simp only [if_true] at hb
    cases hb
    exact ⟨c,e,(0,0),alloc_at _ _,hn⟩
   ·rw [if_neg hbe] at hb
    obtain ⟨c',e',fz,h1,h2⟩:=I.vcell b m hb
    exact ⟨c',e',fz,by rw [alloc_lt (I.vlt b m hb)]; exact h1,h2⟩
  tlt:=fun k i b hb=>by
   simp only [] at hb
   by_cases hk:k = h.toks.length
   ·rw [if_pos hk] at hb
    split at hb
    ·cases hb
     exact ⟨by simp,fun hm=>by have:=I.lt _ hm; omega,by simp; omega⟩
    ·cases hb
   ·rw [if_neg hk] at hb
    obtain ⟨h1,h2,h3⟩:=I.tlt k i b hb
    exact ⟨by simp; omega,h2,by simp; omega⟩
  tok:=fun k i hk=>by
   simp only [] at hk
   by_cases hkl:k < h.toks.length
   ·rw [List.getElem?_append_left hkl] at hk
    obtain ⟨b,c',e',fz,h1,h2,h3,h4,h5⟩:=I.tok k i hk
    have hlt:=heap_lt h2
    have hl:=alloc_lt (o:=.cells c e) hlt
    exact ⟨b,c',e',fz,by simp only []; rw [if_neg (by omega)]; exact h1,by rw [hl]; exact h2,h3,by simp only []; rw [if_neg (by omega)]; exact h4,fun i a b'=>(frozen_of_heap hl i).trans (h5 i a b')⟩
   ·have hke:k = h.toks.length:=by
     have:=(List.getElem?_eq_some_iff.1 hk).1
     simp at this
     omega
    subst hke
    rw [List.getElem?_append_right (Nat.le_refl _)] at hk
    simp at hk
    subst hk
    exact ⟨w.heap.size,c,e,(0,0),by simp,alloc_at _ _,hn,by simp,fun i _ _=>frozen_new w c e i⟩
  tmax:=fun k i b N hb hN=>by
   simp only [] at hb hN
   by_cases hkl:k < h.toks.length
   ·rw [List.getElem?_append_left hkl] at hN
    rw [if_neg (by omega)] at hb
    exact I.tmax k i b N hb hN
   ·have hke:k = h.toks.length:=by
     have:=(List.getElem?_eq_some_iff.1 hN).1
     simp at this
     omega
    subst hke
    rw [List.getElem?_append_right (Nat.le_refl _)] at hN
    simp at hN
    rw [if_pos rfl] at hb
    split at hb
    ·omega
    ·cases hb
  tdisj:=fun k i b k' i' hb hb'=>by
   simp only [] at hb hb'
   by_cases hk:k = h.toks.length <;> by_cases hk':k' = h.toks.length
   ·omega
   ·rw [if_pos hk] at hb
    rw [if_neg hk'] at hb'
    split at hb
    ·cases hb; have:=(I.tlt k' i' _ hb').1; omega
    ·cases hb
   ·rw [if_neg hk] at hb
    rw [if_pos hk'] at hb'
    split at hb'
    ·cases hb'; have:=(I.tlt k i _ hb).1; omega
    ·cases hb'
   ·rw [if_neg hk] at hb
    rw [if_neg hk'] at hb'
    exact I.tdisj k i b k' i' hb hb'
  glob:=fun g cs hg=>GlobOk.mono hK (I.glob g cs hg)
  ro:=I.ro
  rot:=I.rot
  rle:=I.rle
  rtle:=by have:=I.rtle; simp; omega }
end Go.Pv
/- What the model's operations on operands and memory come to where pure values stand for them. Conditions: none; lemmas. -/
namespace Go.Pv
open Go.RowKit
variable {T:Tie} {E:Env} {G:Ghost} {h:AHeap} {w:World}
theorem avScal_rep {v:Value} {c:AV} (hc:avScal v = some c) (G:Ghost) (w:World):RepV T G w c v:=by
 unfold avScal at hc
 split at hc <;> first | (cases hc; simp only [RepV]) | cases hc
theorem den_rep {v:AV} {u:Value} {G:Ghost} {w:World} (hv:RepV T G w v u):RepV T G w (den v) u:=by
 cases v <;> first | exact hv | skip
 simp only [RepV] at hv
 subst hv
 simp only [den,RepV]
 exact ⟨none,0,by simp⟩
theorem avScals_rep:∀ {vs:List Value} {cs:List AV},avScals vs = some cs→∀ (G:Ghost) (w:World),RepL T G w cs vs
 | [],cs,hc,G,w=>by simp only [avScals] at hc; cases hc; simp only [RepL]
 | v :: vs,cs,hc,G,w=>by
  simp only [avScals] at hc
  split at hc
  ·rename_i a as h1 h2
   cases hc
   simp only [RepL]
   exact ⟨v,vs,rfl,avScal_rep h1 G w,avScals_rep h2 G w⟩
  ·cases hc
theorem avAgg_rep {v:Value} {c:AV} (hc:avAgg v = some c) (G:Ghost) (w:World):RepV T G w c v:=by
 unfold avAgg at hc
 split at hc
 ·rename_i cs
  cases h1:avScals cs.toList with
  | none=>rw [h1] at hc; cases hc
  | some l=>
   rw [h1] at hc
   cases hc
   simp only [RepV]
   exact ⟨cs.toList,rfl,avScals_rep h1 G w⟩
 ·exact avScal_rep hc G w
theorem avAggs_rep:∀ {vs:List Value} {cs:List AV},avAggs vs = some cs→∀ (G:Ghost) (w:World),RepL T G w cs vs
 | [],cs,hc,G,w=>by simp only [avAggs] at hc; cases hc; simp only [RepL]
 | v :: vs,cs,hc,G,w=>by
  simp only [avAggs] at hc
  split at hc
  ·rename_i a as h1 h2
   cases hc
   simp only [RepL]
   exact ⟨v,vs,rfl,avAgg_rep h1 G w,avAggs_rep h2 G w⟩
  ·cases hc
theorem avOf_rep {v:Value} {c:AV} (hc:avOf v = some c) (G:Ghost) (w:World):RepV T G w c v:=by
 unfold avOf at hc
 split at hc
 ·rename_i cs
  cases h1:avAggs cs.toList with
  | none=>rw [h1] at hc; cases hc
  | some l=>
   rw [h1] at hc
   cases hc
   simp only [RepV]
   exact ⟨cs.toList,rfl,avAggs_rep h1 G w⟩
 ·exact avAgg_rep hc G w
theorem fOf_eq {i j:Nat} (h:fOf T i = some j):T.fnum j = i:=by
 unfold fOf at h
 split at h
 ·split at h
  ·cases h; assumption
  ·cases h
 ·cases h
theorem gOf_eq {i j:Nat} (h:gOf T i = some j):T.gnum j = i:=by
 unfold gOf at h
 split at h
 ·split at h
  ·cases h; assumption
  ·cases h
 ·cases h
theorem tOf_eq {i j:Nat} (h:tOf T i = some j):T.tnum j = i:=by
 unfold tOf at h
 split at h
 ·split at h
  ·cases h; assumption
  ·cases h
 ·cases h
variable {F:Fr} {a:Act}
theorem opd_rep (I:Inv T E G h w) (hF:RepL T G w F.t a.tmps.toList) {x:Operand} {s:SOpd} (hx:cOpd T x = some s):RepV T G w (opd E F s) (a.eval x):=by
 cases x with
 | tmp t=>
  simp only [cOpd] at hx
  cases hx
  simp only [opd,Fr.get,Act.eval,List.getD_eq_getElem?_getD]
  cases ht:F.t[t]? with
  | none=>simp only [Option.getD_none,RepV]
  | some v=>
   obtain ⟨u,h1,h2⟩:=hF.get ht
   have:a.tmps.getD t undef = u:=by
    have hlt:t < a.tmps.size:=by
     have:=(List.getElem?_eq_some_iff.1 h1).1
     simpa using this
    have h3:=(List.getElem?_eq_some_iff.1 h1).2
    simp only [Array.getElem_toList] at h3
    simp [Array.getD,hlt,h3]
   rw [this]
   exact h2
 | const v=>
  simp only [cOpd] at hx
  cases hv:avOf v with
  | none=>rw [hv] at hx; cases hx
  | some c=>
   rw [hv] at hx
   cases hx
   exact avOf_rep hv G w
 | global g=>
  simp only [cOpd] at hx
  cases hv:gOf T g with
  | none=>rw [hv] at hx; cases hx
  | some j=>
   rw [hv] at hx
   cases hx
   simp only [opd,Act.eval]
   split
   ·rename_i cs hcs
    rw [← gOf_eq hv]
    exact (I.glob j cs hcs).1
   ·simp only [RepV]
 | func f=>
  simp only [cOpd] at hx
  cases hv:fOf T f with
  | none=>rw [hv] at hx; cases hx
  | some j=>
   rw [hv] at hx
   cases hx
   simp only [opd,Act.eval,RepV]
   exact ⟨[],[],by rw [fOf_eq hv],by simp only [RepL],by simp only [RepL]⟩
theorem opds_rep (I:Inv T E G h w) (hF:RepL T G w F.t a.tmps.toList):∀ {xs:List Operand} {ss:List SOpd},cOpds T xs = some ss→RepL T G w (ss.map (opd E F)) (xs.map a.eval)
 | [],ss,hx=>by simp only [cOpds] at hx; cases hx; simp only [List.map_nil,RepL]
 | x :: xs,ss,hx=>by
  simp only [cOpds] at hx
  split at hx
  ·rename_i s ss' h1 h2
   cases hx
   simp only [List.map_cons,RepL]
   exact ⟨_,_,rfl,opd_rep I hF h1,opds_rep I hF h2⟩
  ·cases hx
theorem cells_rep {v:AV} {u:Value} {cs:List AV} (hv:RepV T G w v u) (hc:v.cells? = some cs):RepL T G w cs u.cells.toList:=by
 have one:∀ (x:AV) (y:Value),RepV T G w x y→y.cells = #[y]→RepL T G w [x] y.cells.toList:=by
  intro x y hx hy
  rw [hy]
  simp only [RepL]
  exact ⟨y,[],rfl,hx,rfl⟩
 cases v with
 | junk=>simp [AV.cells?] at hc
 | agg l=>
  simp only [AV.cells?] at hc
  cases hc
  simp only [RepV] at hv
  obtain ⟨m,rfl,h2⟩:=hv
  exact h2
 | bool b=>cases hc; exact one _ _ hv (by simp only [RepV] at hv; subst hv; rfl)
 | int k n=>cases hc; exact one _ _ hv (by simp only [RepV] at hv; subst hv; rfl)
 | str s=>cases hc; exact one _ _ hv (by simp only [RepV] at hv; subst hv; rfl)
 | nilp=>cases hc; exact one _ _ hv (by simp only [RepV] at hv; subst hv; rfl)
 | ref b o=>cases hc; exact one _ _ hv (by simp only [RepV] at hv; obtain ⟨r,_,rfl⟩:=hv; rfl)
 | pin l=>cases hc; exact one _ _ hv (by simp only [RepV] at hv; obtain ⟨r,o,m,rfl,_⟩:=hv; rfl)
 | vs o n l=>cases hc; exact one _ _ hv (by simp only [RepV] at hv; obtain ⟨x,cap,rfl,_⟩:=hv; rfl)
 | rs b o n=>cases hc; exact one _ _ hv (by simp only [RepV] at hv; obtain ⟨r,cap,_,rfl,_⟩:=hv; rfl)
 | row b o n=>cases hc; exact one _ _ hv (by simp only [RepV] at hv; obtain ⟨r,cap,c,e,fz,_,rfl,_⟩:=hv; rfl)
 | nils=>cases hc; exact one _ _ hv (by simp only [RepV] at hv; subst hv; rfl)
 | nilmap=>cases hc; exact one _ _ hv (by simp only [RepV] at hv; subst hv; rfl)
 | map b=>cases hc; exact one _ _ hv (by simp only [RepV] at hv; obtain ⟨r,_,rfl⟩:=hv; rfl)
 | fn f x y=>
  cases hc
  refine one _ _ hv ?_
  cases f with
  | func f=>simp only [RepV] at hv; obtain ⟨p,q,rfl,_⟩:=hv; rfl
  | yield f=>simp only [RepV] at hv; obtain ⟨r,p,q,_,rfl,_⟩:=hv; rfl
 | nilfn=>cases hc; exact one _ _ hv (by simp only [RepV] at hv; subst hv; rfl)
 | iface t x=>cases hc; exact one _ _ hv (by simp only [RepV] at hv; obtain ⟨y,rfl,_⟩:=hv; rfl)
 | niliface=>cases hc; exact one _ _ hv (by simp only [RepV] at hv; subst hv; rfl)
 | tuple l=>cases hc; exact one _ _ hv (by simp only [RepV] at hv; obtain ⟨m,rfl,_⟩:=hv; rfl)
def oneCell:Value→Prop
 | .agg _ | .tuple _=>False
 | _=>True
theorem isCell_rep {v:AV} {u:Value} (hv:RepV T G w v u) (hc:v.isCell = true):oneCell u:=by
 cases v with
 | junk=>simp [AV.isCell] at hc
 | agg l=>simp [AV.isCell] at hc
 | tuple l=>simp [AV.isCell] at hc
 | bool b=>simp only [RepV] at hv; subst hv; trivial
 | int k n=>simp only [RepV] at hv; subst hv; trivial
 | str s=>simp only [RepV] at hv; subst hv; trivial
 | nilp=>simp only [RepV] at hv; subst hv; trivial
 | ref b o=>simp only [RepV] at hv; obtain ⟨r,_,rfl⟩:=hv; trivial
 | pin l=>simp only [RepV] at hv; obtain ⟨r,o,m,rfl,_⟩:=hv; trivial
 | vs o n l=>simp only [RepV] at hv; obtain ⟨x,cap,rfl,_⟩:=hv; trivial
 | rs b o n=>simp only [RepV] at hv; obtain ⟨r,cap,_,rfl,_⟩:=hv; trivial
 | row b o n=>simp only [RepV] at hv; obtain ⟨r,cap,c,e,fz,_,rfl,_⟩:=hv; trivial
 | nils=>simp only [RepV] at hv; subst hv; trivial
 | nilmap=>simp only [RepV] at hv; subst hv; trivial
 | map b=>simp only [RepV] at hv; obtain ⟨r,_,rfl⟩:=hv; trivial
 | fn f x y=>
  cases f with
  | func f=>simp only [RepV] at hv; obtain ⟨p,q,rfl,_⟩:=hv; trivial
  | yield f=>simp only [RepV] at hv; obtain ⟨r,p,q,_,rfl,_⟩:=hv; trivial
 | nilfn=>simp only [RepV] at hv; subst hv; trivial
 | iface t x=>simp only [RepV] at hv; obtain ⟨y,rfl,_⟩:=hv; trivial
 | niliface=>simp only [RepV] at hv; subst hv; trivial
theorem allCell_rep:∀ {cs:List AV} {l:List Value},RepL T G w cs l→cs.all AV.isCell = true→∀ v ∈ l,oneCell v
 | [],l,hl,_,v,hv=>by simp only [RepL] at hl; subst hl; cases hv
 | c :: cs,l,hl,hc,v,hv=>by
  simp only [RepL] at hl
  obtain ⟨y,ys,rfl,h2,h3⟩:=hl
  simp only [List.all_cons,Bool.and_eq_true] at hc
  rcases List.mem_cons.1 hv with h4 | h4
  ·rw [h4]; exact isCell_rep h2 hc.1
  ·exact allCell_rep h3 hc.2 v h4
theorem add_at (r off i:Nat):(⟨r,off,none⟩:Addr).add i = ⟨r,off + i,none⟩:=by
 unfold Addr.add
 split
 ·subst_vars; simp
 ·simp
theorem run_loadCellsFrom (P:Program) (w:World) (r off:Nat):∀ (l:List Value) (i:Nat) (acc:Array Value),(∀ j v,l[j]? = some v→w.cell? ⟨r,off + i + j,none⟩ = some v) →
  (loadCellsFrom ⟨r,off,none⟩ i l.length acc).run P w = .ok (acc++l.toArray) w
 | [],i,acc,_=>by simp [loadCellsFrom,pure]
 | v :: l,i,acc,hl=>by
  have h0:=hl 0 v (by simp)
  have ih:=run_loadCellsFrom P w r off l (i + 1) (acc.push v) fun j u hu=>by
   have:=hl (j + 1) u (by simpa using hu)
   rwa [show off + i + (j + 1) = off + (i + 1) + j by omega] at this
  simp only [List.length_cons,loadCellsFrom,Sem.run_bind,load,add_at,Sem.run]
  simp only [Nat.add_zero] at h0
  rw [h0]
  simp only [Result.andThen]
  rw [ih]
  simp
theorem run_loadCells (P:Program) (w:World) (r off:Nat) (l:List Value) (hl:∀ j v,l[j]? = some v→w.cell? ⟨r,off + j,none⟩ = some v):
  (loadCells ⟨r,off,none⟩ l.length).run P w = .ok l.toArray w:=by
 unfold loadCells
 rw [run_loadCellsFrom P w r off l 0 #[] (by simpa using hl)]
 simp
theorem run_aggT {t:TypeId} {g:Bool} (hg:aggT T t = some g) (w:World):(isAgg t).run T.P w = .ok g w:=by
 unfold aggT at hg
 unfold isAgg
 rw [Sem.run_bind]
 split at hg
 ·rename_i fs hu; rw [run_underlying hu]; cases hg; rfl
 ·rename_i n e hu; rw [run_underlying hu]; cases hg; rfl
 ·rename_i d h1 h2 hu
  rw [run_underlying hu]
  cases hg
  cases d <;> first | rfl | exact absurd rfl (h1 _) | exact absurd rfl (h2 _ _)
 ·cases hg
theorem info_of_szT {t:TypeId} {n:Nat} (hn:szT T t = some n):∃ i,T.P.info? t = some i∧i.size = n:=by
 unfold szT at hn
 cases hi:T.P.info? t with
 | none=>rw [hi] at hn; cases hn
 | some i=>rw [hi] at hn; cases hn; exact ⟨i,rfl,rfl⟩
theorem run_szT {t:TypeId} {n:Nat} (hn:szT T t = some n) (w:World):(sizeOf t).run T.P w = .ok n w:=by
 obtain ⟨i,h1,h2⟩:=info_of_szT hn
 simp [sizeOf,typeInfo,h1,h2]
theorem run_loadVar {t:TypeId} {g:Bool} {n:Nat} (hn:ldT T t = some (g,n)) (w:World) (r off:Nat) (l:List Value) (hlen:l.length = n) (hl:∀ j v,l[j]? = some v→w.cell? ⟨r,off + j,none⟩ = some v):
  ∃ v,(loadVar t ⟨r,off,none⟩).run T.P w = .ok v w∧(g = true→v = .agg ⟨l⟩)∧(g = false→l = [v]):=by
 unfold ldT at hn
 split at hn
 ·rename_i m h1 h2
  cases hn
  refine ⟨.agg ⟨l⟩,?_,fun _=>rfl,fun (h:true = false)=>(by cases h)⟩
  subst hlen
  simp only [loadVar,Sem.run_bind,run_aggT h1,Result.andThen,if_true,run_szT h2,run_loadCells T.P w r off l hl,Sem.run_pure]
 ·rename_i m h1 h2
  cases hn
  match l,hlen with
  | [v],_=>
   refine ⟨v,?_,fun (h:false = true)=>(by cases h),fun _=>rfl⟩
   have h0:=hl 0 v (by simp)
   simp only [Nat.add_zero] at h0
   simp only [loadVar,Sem.run_bind,run_aggT h1,Result.andThen,Bool.false_eq_true,if_false,load,Sem.run,h0]
 ·cases hn
theorem setCell_put {w:World} {r:Nat} {c:Array Value} {e:TypeId} {fz:Nat × Nat} (hr:w.heap[r]? = some (.cells c e fz)) (o:Nat) (v:Value):
  w.setCell ⟨r,o,none⟩ v = w.putObj r (.cells (c.setIfInBounds o v) e fz):=by
 have hlt:=heap_lt hr
 have hget:w.heap[r] = .cells c e fz:=by
  have:=Array.getElem?_eq_some_iff.1 hr
  exact this.2
 simp only [World.setCell,World.putObj]
 congr 1
 apply Array.ext
 ·simp
 ·intro i h1 h2
  have h3:i < w.heap.size:=by simpa using h1
  rw [Array.getElem_modify,Array.getElem_setIfInBounds h3]
  by_cases hi:r = i
  ·subst hi
   simp [hget]
  ·simp [hi]
theorem put_put (w:World) (r:Nat) (o o':Obj):(w.putObj r o).putObj r o' = w.putObj r o':=by
 simp [World.putObj,Array.setIfInBounds_setIfInBounds]
theorem put_self {w:World} {r:Nat} {o:Obj} (hr:w.heap[r]? = some o):w.putObj r o = w:=by
 have hlt:=heap_lt hr
 have hget:=(Array.getElem?_eq_some_iff.1 hr).2
 simp only [World.putObj]
 cases w
 congr 1
 apply Array.ext
 ·simp
 ·intro i h1 h2
  rw [Array.getElem_setIfInBounds h2]
  by_cases hi:r = i
  ·subst hi
   rw [if_pos rfl]
   exact hget.symm
  ·rw [if_neg hi]
theorem run_store_one (P:Program) {w:World} {r:Nat} {c:Array Value} {e:TypeId} {fz:Nat × Nat} (hr:w.heap[r]? = some (.cells c e fz)) {o:Nat} (ho:o < c.size)
  (hf:w.frozen? ⟨r,o,none⟩ = false) {v:Value} (hv:oneCell v):(store ⟨r,o,none⟩ v).run P w = .ok () (w.putObj r (.cells (c.setIfInBounds o v) e fz)):=by
 have hc:w.cell? ⟨r,o,none⟩ = some c[o]:=by
  simp only [World.cell?,hr]
  simp [ho]
 have hset:=setCell_put hr o v
 cases v <;> first
  | exact hv.elim
  | (simp only [store,Sem.run,hc,hf,Bool.false_eq_true,if_false,hset])
theorem run_storeCells (P:Program) (r off:Nat) (e:TypeId) (fz:Nat × Nat):∀ (vs:List Value) (i:Nat) (w:World) (c:Array Value),w.heap[r]? = some (.cells c e fz)→off + i + vs.length ≤ c.size →
  (∀ j,off + i ≤ j→j < off + i + vs.length→w.frozen? ⟨r,j,none⟩ = false)→(∀ v ∈ vs,oneCell v) →
  (storeCells ⟨r,off,none⟩ vs i).run P w = .ok () (w.putObj r (.cells ⟨setVL (off + i) vs c.toList⟩ e fz))
 | [],i,w,c,hr,_,_,_=>by
  simp only [storeCells,setVL]
  rw [put_self (by simpa using hr)]
  rfl
 | v :: vs,i,w,c,hr,hl,hf,hv=>by
  simp only [List.length_cons] at hl hf
  have h1:=run_store_one P hr (o:=off + i) (by omega) (hf _ (Nat.le_refl _) (by omega)) (hv v (by simp))
  simp only [storeCells,Sem.run_bind,add_at,h1,Result.andThen]
  have hlt:=heap_lt hr
  have ih:=run_storeCells P r off e fz vs (i + 1) (w.putObj r (.cells (c.setIfInBounds (off + i) v) e fz)) (c.setIfInBounds (off + i) v) (World.putObj_heap_same hlt) (by simp; omega)
   (fun j a b=>by
    have:=hf j (by omega) (by omega)
    simp only [World.frozen?,hr] at this
    simp only [World.frozen?,World.putObj_heap_same hlt]
    exact this)
   (fun u hu=>hv u (by simp [hu]))
  rw [ih,put_put]
  simp only [setVL,Array.toList_setIfInBounds,Nat.add_assoc]
end Go.Pv
/- The model's operations do what the evaluator's do: values, memory. Conditions: none; lemmas. -/
namespace Go.Pv
open Go.RowKit
variable {T:Tie} {E:Env} {G:Ghost} {h:AHeap} {w:World} {F:Fr} {a:Act}
def Done (T:Tie) (E:Env) (G:Ghost) (w:World) (v:AV) (h':AHeap) (s:Sem Next):Prop:=
 ∃ rv w' G',(s.run T.P w = .ok (.value rv) w'∨(s.run T.P w = .ok .skip w'∧rv = undef))∧Ext G w G' w'∧Inv T E G' h' w'∧RepV T G' w' v rv
theorem Done.same (I:Inv T E G h w) {v:AV} {s:Sem Next} (rv:Value) (hr:s.run T.P w = .ok (.value rv) w) (hv:RepV T G w v rv):Done T E G w v h s:=
 ⟨rv,w,G,.inl hr,Ext.refl I.vlt,I,hv⟩
theorem zeroT_info {t:TypeId} {z:AV} (hz:zeroT T t = some z):∃ i x,T.P.info? t = some i∧i.zero = some x∧avAgg x = some z:=by
 unfold zeroT at hz
 split at hz
 ·rename_i i hi
  split at hz
  ·rename_i x hx; exact ⟨i,x,hi,hx,hz⟩
  ·cases hz
 ·cases hz
theorem run_zeroT {t:TypeId} {z:AV} (hz:zeroT T t = some z):∃ x,(∀ w,(zeroValue t).run T.P w = .ok x w)∧(∀ G w,RepV T G w z x):=by
 obtain ⟨i,x,h1,h2,h3⟩:=zeroT_info hz
 exact ⟨x,fun w=>by simp [zeroValue,typeInfo,h1,h2],fun G w=>avAgg_rep h3 G w⟩
theorem rep_new (I:Inv T E G h w) {cs:List AV} {c:Array Value} {e:TypeId} (hl:RepL T G w cs c.toList):
  Ext G w { G with mu:=G.mu++[w.heap.size] } (w.alloc (.cells c e))∧Inv T E { G with mu:=G.mu++[w.heap.size] } (h.push (.cells cs)) (w.alloc (.cells c e)):=
 I.push (.cells cs) (.cells c e) fun K=>⟨c.toList,[],e,(0,0),by simpa using alloc_at w (.cells c e),fun i _=>frozen_new w c e i,RepL.mono K _ _ hl⟩
theorem done_new (I:Inv T E G h w) {cs:List AV} {c:Array Value} {e:TypeId} (hl:RepL T G w cs c.toList) {s:Sem Next}
  (hr:s.run T.P w = .ok (.value (.pointer (some ⟨w.heap.size,0,none⟩))) (w.alloc (.cells c e))):Done T E G w (.ref h.blks.length 0) (h.push (.cells cs)) s:=by
 obtain ⟨hX,hI⟩:=rep_new I (e:=e) hl
 refine ⟨_,_,_,.inl hr,hX,hI,?_⟩
 simp only [RepV]
 exact ⟨w.heap.size,by rw [← I.len,List.getElem?_append_right (Nat.le_refl _)]; simp,rfl⟩
theorem sim_mov (I:Inv T E G h w) (hF:RepL T G w F.t a.tmps.toList) {o:Oper} {x:Operand} {s:SOpd} (ho:o.op = .move x∨o.op = .assign x) (hx:cOpd T x = some s) {v:AV} {h':AHeap} (he:ev1 E F h (.mov s) = some (v,h')):Done T E G w v h' (execOp a.eval o):=by
 simp only [ev1,Option.some.injEq,Prod.mk.injEq] at he
 obtain ⟨rfl,rfl⟩:=he
 refine Done.same I (a.eval x) ?_ (opd_rep I hF hx)
 rcases ho with ho | ho <;> simp only [execOp,ho] <;> rfl
theorem sim_pick (I:Inv T E G h w) (hF:RepL T G w F.t a.tmps.toList) {o:Oper} {c x y:Operand} {sc sx sy:SOpd} (ho:o.op = .pick c x y) (hc:cOpd T c = some sc) (hx:cOpd T x = some sx) (hy:cOpd T y = some sy) {v:AV} {h':AHeap}
  (he:ev1 E F h (.pick sc sx sy) = some (v,h')):Done T E G w v h' (execOp a.eval o):=by
 have h1:=opd_rep I hF hc
 simp only [ev1] at he
 split at he
 ·rename_i t ht
  rw [ht] at h1
  simp only [RepV] at h1
  cases he
  cases t with
  | true=>exact Done.same I (a.eval x) (by simp [execOp,ho,h1,asBool]) (opd_rep I hF hx)
  | false=>exact Done.same I (a.eval y) (by simp [execOp,ho,h1,asBool]) (opd_rep I hF hy)
 ·cases he
theorem sim_alloc (I:Inv T E G h w) {o:Oper} {t:TypeId} {z:List AV} (ho:o.op = .alloc t) (hz:zeroCs T t = some z) {v:AV} {h':AHeap}
  (he:ev1 E F h (.alloc z) = some (v,h')):Done T E G w v h' (execOp a.eval o):=by
 simp only [ev1,Option.some.injEq,Prod.mk.injEq] at he
 obtain ⟨rfl,rfl⟩:=he
 unfold zeroCs at hz
 cases hzt:zeroT T t with
 | none=>rw [hzt] at hz; cases hz
 | some zv=>
  rw [hzt] at hz
  obtain ⟨x,hx1,hx2⟩:=run_zeroT hzt
  refine done_new I (c:=x.cells) (e:=t) (cells_rep (hx2 G w) hz) ?_
  simp only [execOp,ho,Instr.alloc,Sem.run_bind,hx1,Result.andThen]
  simp [newVar,newRow,newObj,Sem.run]
theorem sim_box (I:Inv T E G h w) (hF:RepL T G w F.t a.tmps.toList) {o:Oper} {t:TypeId} {x:Operand} {sx:SOpd} {n:Nat} (ho:o.op = .box t x) (hx:cOpd T x = some sx) {v:AV} {h':AHeap}
  (he:ev1 E F h (.box n sx) = some (v,h')):Done T E G w v h' (execOp a.eval o):=by
 simp only [ev1] at he
 split at he
 ·rename_i cs hcs
  split at he
  ·cases he
   refine done_new I (c:=(a.eval x).cells) (e:=t) (cells_rep (opd_rep I hF hx) hcs) ?_
   simp [execOp,ho,Instr.box,newVar,newRow,newObj,Sem.run]
  ·cases he
 ·cases he
theorem foldl_set_eq:∀ (vs:List Value) (off j:Nat) (c:Array Value),((vs.zipIdx j).foldl (fun cs p=>cs.setIfInBounds (off + p.2) p.1) c).toList = setVL (off + j) vs c.toList
 | [],off,j,c=>by simp [setVL]
 | v :: vs,off,j,c=>by
  simp only [List.zipIdx_cons,List.foldl_cons,setVL]
  rw [foldl_set_eq vs off (j + 1)]
  simp [Nat.add_assoc]
theorem fill_rep {place:Nat→Option (Nat × Nat)}:∀ {ps:List (Nat × Operand)} {sps:List (Nat × Nat × SOpd)} {z cs:List AV} {c:Array Value},Inv T E G h w→RepL T G w F.t a.tmps.toList→cParts T place ps = some sps →
  fillA (sps.map fun p=>(p.1,p.2.1,opd E F p.2.2)) z = some cs→RepL T G w z c.toList →
  ∃ c',Instr.fill place c (ps.map fun p=>(p.1,a.eval p.2)) = some c'∧RepL T G w cs c'.toList
 | [],sps,z,cs,c,I,hF,hp,he,hz=>by
  simp only [cParts] at hp
  cases hp
  simp only [List.map_nil,fillA] at he
  cases he
  exact ⟨c,by simp [Instr.fill],hz⟩
 | (i,x) :: ps,sps,z,cs,c,I,hF,hp,he,hz=>by
  simp only [cParts] at hp
  split at hp
  ·rename_i off size sx sps' h1 h2 h3
   cases hp
   simp only [List.map_cons,fillA] at he
   split at he
   ·rename_i l hl
    split at he
    ·rename_i hcond
     have hxr:=cells_rep (opd_rep I hF h2) hl
     have hlen:=hxr.length
     have hzl:=hz.length
     have hsz:(a.eval x).cells.size = size:=by
      rw [← Array.length_toList,hlen]; exact hcond.1
     have hle:¬ (off + (a.eval x).cells.size > c.size):=by
      rw [hsz,← Array.length_toList,hzl]; omega
     have hset:=RepL.setCells off hxr hz
     obtain ⟨c',q1,q2⟩:=fill_rep (c:=(a.eval x).cells.zipIdx.foldl (fun cs p=>cs.setIfInBounds (off + p.2) p.1) c) I hF h3 he (by
      have:=foldl_set_eq (a.eval x).cells.toList off 0 c
      rw [← Array.foldl_toList,Array.toList_zipIdx,this]
      exact hset)
     refine ⟨c',?_,q2⟩
     simp only [List.map_cons,Instr.fill,h1]
     rw [if_neg (by simp only [Bool.or_eq_true,decide_eq_true_eq,not_or]; exact ⟨by rw [hsz]; simp,hle⟩)]
     exact q1
    ·cases he
   ·cases he
  ·cases hp
theorem structPlaces_run:∀ {fs:List Field} {pl:List (Nat × Nat)},structPlaces T fs = some pl→∀ (w:World),(fs.mapM fun f=>do pure (f.offset,← sizeOf f.type):Sem (List (Nat × Nat))).run T.P w = .ok pl w
 | [],pl,hp,w=>by simp only [structPlaces] at hp; cases hp; rfl
 | f :: fs,pl,hp,w=>by
  simp only [structPlaces] at hp
  split at hp
  ·rename_i s ps h1 h2
   cases hp
   have ih:=structPlaces_run h2 w
   simp only [List.mapM_cons,Sem.run_bind,run_szT h1,Result.andThen,Sem.run_pure,ih]
  ·cases hp
theorem sim_build_struct (I:Inv T E G h w) (hF:RepL T G w F.t a.tmps.toList) {o:Oper} {t:TypeId} {parts:Array (Nat × Operand)} {fs:Array Field} {z:List AV} {pl:List (Nat × Nat)} {sps:List (Nat × Nat × SOpd)} (ho:o.op = .build t parts)
  (hu:T.P.underlying t = some (.struct fs)) (hz:zeroT T t = some (.agg z)) (hpl:structPlaces T fs.toList = some pl) (hp:cParts T (fun i=>pl[i]?) parts.toList = some sps) {v:AV} {h':AHeap}
  (he:ev1 E F h (.build z sps) = some (v,h')):Done T E G w v h' (execOp a.eval o):=by
 simp only [ev1,Option.map_eq_some_iff,Prod.mk.injEq] at he
 obtain ⟨cs,h1,rfl,rfl⟩:=he
 obtain ⟨x,hx1,hx2⟩:=run_zeroT hz
 have hx:=hx2 G w
 simp only [RepV] at hx
 obtain ⟨l,rfl,hl⟩:=hx
 obtain ⟨c',q1,q2⟩:=fill_rep (c:=⟨l⟩) I hF hp h1 hl
 refine Done.same I (.agg c') ?_ (by simp only [RepV]; exact ⟨c'.toList,rfl,q2⟩)
 have hm:(fs.mapM fun f=>do pure (f.offset,← sizeOf f.type):Sem (Array (Nat × Nat))).run T.P w = .ok pl.toArray w:=by
  rw [Array.mapM_eq_mapM_toList]
  have:=structPlaces_run hpl w
  simp only [Sem.run_map,this,Result.andThen]
 have hpe:(parts.map fun (i,x)=>(i,a.eval x)).toList = parts.toList.map fun p=>(p.1,a.eval p.2):=by simp
 simp only [execOp,ho,Instr.build,Sem.run_bind,hx1,Result.andThen,run_underlying hu,hm,hpe,Value.cells]
 have hfun:(fun i:Nat=>pl.toArray[i]?) = fun i:Nat=>pl[i]?:=by funext i; simp
 simp only [hfun,q1]
 rfl
theorem sim_build_array (I:Inv T E G h w) (hF:RepL T G w F.t a.tmps.toList) {o:Oper} {t:TypeId} {parts:Array (Nat × Operand)} {len:Nat} {e:TypeId} {z:List AV} {n:Nat} {sps:List (Nat × Nat × SOpd)} (ho:o.op = .build t parts)
  (hu:T.P.underlying t = some (.array len e)) (hz:zeroT T t = some (.agg z)) (hn:szT T e = some n) (hp:cParts T (fun i=>some (i * n,n)) parts.toList = some sps) {v:AV} {h':AHeap}
  (he:ev1 E F h (.build z sps) = some (v,h')):Done T E G w v h' (execOp a.eval o):=by
 simp only [ev1,Option.map_eq_some_iff,Prod.mk.injEq] at he
 obtain ⟨cs,h1,rfl,rfl⟩:=he
 obtain ⟨x,hx1,hx2⟩:=run_zeroT hz
 have hx:=hx2 G w
 simp only [RepV] at hx
 obtain ⟨l,rfl,hl⟩:=hx
 obtain ⟨c',q1,q2⟩:=fill_rep (c:=⟨l⟩) I hF hp h1 hl
 refine Done.same I (.agg c') ?_ (by simp only [RepV]; exact ⟨c'.toList,rfl,q2⟩)
 have hpe:(parts.map fun (i,x)=>(i,a.eval x)).toList = parts.toList.map fun p=>(p.1,a.eval p.2):=by simp
 simp only [execOp,ho,Instr.build,Sem.run_bind,hx1,Result.andThen,run_underlying hu,run_szT hn,hpe,Value.cells,q1]
 rfl
end Go.Pv
/- The model's operations do what the evaluator's do: slices, loads and stores, numbers, strings. Conditions: none; lemmas. -/
namespace Go.Pv
open Go.RowKit
variable {T:Tie} {E:Env} {G:Ghost} {h:AHeap} {w:World} {F:Fr} {a:Act}
theorem tile_length (z:List AV):∀ n,(tile z n).length = n * z.length
 | 0=>by simp [tile]
 | n + 1=>by simp [tile,tile_length z n,Nat.add_mul]; omega
theorem RepL.of_get:∀ {as:List AV} {l:List Value},l.length = as.length→(∀ (i:Nat) (x:AV),as[i]? = some x→∃ v,l[i]? = some v∧RepV T G w x v)→RepL T G w as l
 | [],l,hl,_=>by simp only [RepL]; exact List.eq_nil_of_length_eq_zero hl
 | x :: as,[],hl,_=>by simp at hl
 | x :: as,v :: l,hl,hg=>by
  simp only [RepL]
  refine ⟨v,l,rfl,?_,RepL.of_get (by simpa using hl) fun i y hy=>?_⟩
  ·obtain ⟨u,h1,h2⟩:=hg 0 x (by simp)
   simp at h1
   subst h1
   exact h2
  ·have:=hg (i + 1) y (by simpa using hy)
   simpa using this
theorem tile_get (z:List AV) (hz:0 < z.length):∀ (n i:Nat),i < n * z.length→(tile z n)[i]? = z[i % z.length]?
 | 0,i,hi=>by simp at hi
 | n + 1,i,hi=>by
  simp only [tile]
  by_cases hlt:i < z.length
  ·rw [List.getElem?_append_left hlt,Nat.mod_eq_of_lt hlt]
  ·have hs:(n + 1) * z.length = n * z.length + z.length:=Nat.succ_mul ..
   rw [List.getElem?_append_right (by omega),tile_get z hz n (i - z.length) (by omega)]
   congr 1
   exact (Nat.mod_eq_sub_mod (by omega)).symm
theorem rep_tile {z:List AV} {zv:Array Value} (hz:RepL T G w z zv.toList) (hn:0 < z.length) (len:Nat):RepL T G w (tile z len) ((Array.range (len * z.length)).map (zv[· % zv.size]!)).toList:=by
 have hsz:zv.size = z.length:=by rw [← Array.length_toList]; exact hz.length
 refine RepL.of_get (by simp [tile_length]) fun i x hx=>?_
 have hi:i < len * z.length:=by
  have:=(List.getElem?_eq_some_iff.1 hx).1
  rwa [tile_length] at this
 rw [tile_get z hn len i hi] at hx
 obtain ⟨v,h1,h2⟩:=hz.get hx
 refine ⟨v,?_,h2⟩
 have hm:i % z.length < zv.size:=by rw [hsz]; exact Nat.mod_lt _ hn
 have h1':zv[i % z.length]? = some v:=by simpa using h1
 have h3:zv[i % zv.size]! = v:=by
  rw [hsz]
  simp [getElem!_def,h1']
 simp [hi,h3]
theorem rep_vals (I:Inv T E G h w) {cs:List AV} {c:Array Value} {e:TypeId} (hl:RepL T G w cs c.toList) (len:Nat) (h0:len = 0→cs = []):
  ∃ G',Ext G w G' (w.alloc (.cells c e))∧Inv T E G' h (w.alloc (.cells c e))∧RepV T G' (w.alloc (.cells c e)) (.vs .full len cs) (.slice (some ⟨w.heap.size,0,none⟩) len len):=by
 obtain ⟨hX,hI⟩:=I.newVal c e
 refine ⟨_,hX,hI,?_⟩
 simp only [RepV]
 refine ⟨_,len,rfl,Nat.le_refl _,fun _=>rfl,(fun hh=>by cases hh),(fun k sz hh=>by cases hh),fun _=>⟨w.heap.size,0,c.size,rfl,by simp,?_,?_⟩,h0⟩
 ·have:=hl.length; simp at this; omega
 ·refine RepM.of_list (RepL.mono hX.keep _ _ hl) fun i v hv=>?_
  rw [Nat.zero_add,cell_new]
  simpa using hv
theorem sim_buildSlice (I:Inv T E G h w) (hF:RepL T G w F.t a.tmps.toList) {o:Oper} {t:TypeId} {len:Nat} {parts:Array (Nat × Operand)} {e:TypeId} {z:List AV} {n:Nat} {sps:List (Nat × Nat × SOpd)} (ho:o.op = .buildSlice t len parts)
  (hu:T.P.underlying t = some (.slice e)) (hz:zeroCs T e = some z) (hn:szT T e = some n) (hcond:len * n ≤ 16777216∧z.length = n∧0 < n) (hp:cParts T (fun i=>some (i * n,n)) parts.toList = some sps) {v:AV} {h':AHeap}
  (he:ev1 E F h (.buildSlice len (tile z len) sps) = some (v,h')):Done T E G w v h' (execOp a.eval o):=by
 simp only [ev1,Option.map_eq_some_iff,Prod.mk.injEq] at he
 obtain ⟨cs,h1,rfl,rfl⟩:=he
 obtain ⟨hc1,hc2,hc3⟩:=hcond
 unfold zeroCs at hz
 cases hzt:zeroT T e with
 | none=>rw [hzt] at hz; cases hz
 | some zv=>
  rw [hzt] at hz
  obtain ⟨x,hx1,hx2⟩:=run_zeroT hzt
  have hxr:=cells_rep (hx2 G w) hz
  have ht:=rep_tile hxr (by omega) len
  rw [hc2] at ht
  obtain ⟨c',q1,q2⟩:=fill_rep (c:=(Array.range (len * n)).map (x.cells[· % x.cells.size]!)) I hF hp h1 ht
  have hcs:cs.length = len * n:=by
   have:=q2.length
   have hfl:∀ (ps:List (Nat × Nat × AV)) (u v:List AV),fillA ps u = some v→v.length = u.length:=by
    intro ps
    induction ps with
    | nil=>intro u v huv; simp only [fillA] at huv; cases huv; rfl
    | cons p ps ih=>
     intro u v huv
     obtain ⟨p1,p2,p3⟩:=p
     simp only [fillA] at huv
     split at huv
     ·split at huv
      ·rw [ih _ _ huv,setCells_length]
      ·cases huv
     ·cases huv
   rw [hfl _ _ _ h1,tile_length,hc2]
  obtain ⟨G',hX,hI,hV⟩:=rep_vals (e:=e) I q2 len (fun hl0=>by subst hl0; exact List.eq_nil_of_length_eq_zero (by simpa using hcs))
  refine ⟨_,_,G',.inl ?_,hX,hI,hV⟩
  have hpe:(parts.map fun (i,x)=>(i,a.eval x)).toList = parts.toList.map fun p=>(p.1,a.eval p.2):=by simp
  have hle:¬ (len * n > 2 ^ 24):=by omega
  by_cases hl0:len * n = 0
  ·have hlen0:len = 0:=by
    rcases Nat.mul_eq_zero.1 hl0 with h0 | h0
    ·exact h0
    ·omega
   subst hlen0
   have hr0:∀ f:Nat→Value,(Array.range 0).map f = #[]:=fun f=>Array.eq_empty_of_size_eq_zero (by simp)
   simp only [Nat.zero_mul,hr0] at q1
   simp only [execOp,ho,Instr.buildSlice,Sem.run_bind,run_underlying hu,Result.andThen,run_szT hn,Nat.zero_mul,if_true,Sem.run_pure,hpe,hr0,q1]
   simp [newRow,newObj,Sem.run]
  ·simp only [execOp,ho,Instr.buildSlice,Sem.run_bind,run_underlying hu,Result.andThen,run_szT hn,hle,if_false,hl0,Sem.run_pure,hx1,hpe,q1]
   simp [newRow,newObj,Sem.run]
theorem peek_rep (I:Inv T E G h w) {n:Nat} {p:AV} {u:Value} {cs:List AV} (hp:peek h n p = some cs) (hv:RepV T G w p u):
  ∃ (r off:Nat) (l:List Value),u = .pointer (some ⟨r,off,none⟩)∧l.length = n∧RepL T G w cs l∧∀ j v,l[j]? = some v→w.cell? ⟨r,off + j,none⟩ = some v:=by
 unfold peek at hp
 split at hp
 ·rename_i b off
  split at hp
  ·rename_i old hb
   split at hp
   ·rename_i hle
    cases hp
    simp only [RepV] at hv
    obtain ⟨r,hr,rfl⟩:=hv
    obtain ⟨l,tail,e,fz,h1,h2,h3⟩:=I.blk b _ r hb hr
    have hlen:=h3.length
    refine ⟨r,off,(l.drop off).take n,rfl,by simp; omega,(h3.drop off).take n,fun j v hj=>?_⟩
    simp only [World.cell?,h1]
    rw [List.getElem?_take] at hj
    split at hj
    ·rw [List.getElem?_drop] at hj
     have hlt:=(List.getElem?_eq_some_iff.1 hj).1
     simp [List.getElem?_append_left hlt,hj]
    ·cases hj
   ·cases hp
  ·cases hp
 ·rename_i l0
  split at hp
  ·rename_i hle
   cases hp
   simp only [RepV] at hv
   obtain ⟨r,off,m,rfl,h2,h3,h4⟩:=hv
   obtain ⟨l,q1,q2⟩:=(h4.take n).list
   exact ⟨r,off,l,rfl,by rw [q1.length]; simp; omega,q1,q2⟩
  ·cases hp
 ·cases hp
theorem whole_rep {g:Bool} {cs:List AV} {v:AV} {l:List Value} {u:Value} (hw:whole g cs = some v) (hl:RepL T G w cs l) (h1:g = true→u = .agg ⟨l⟩) (h2:g = false→l = [u]):RepV T G w v u:=by
 unfold whole at hw
 cases g with
 | true=>
  simp only [if_true] at hw
  cases hw
  simp only [RepV]
  exact ⟨l,h1 rfl,hl⟩
 | false=>
  simp only [Bool.false_eq_true,if_false] at hw
  split at hw
  ·cases hw
   rw [h2 rfl] at hl
   simp only [RepL] at hl
   obtain ⟨x,xs,q1,q2,_⟩:=hl
   cases q1
   exact q2
  ·cases hw
theorem sim_load (I:Inv T E G h w) (hF:RepL T G w F.t a.tmps.toList) {o:Oper} {t:TypeId} {x:Operand} {sx:SOpd} {g:Bool} {n:Nat} (ho:o.op = .load t x) (hn:ldT T t = some (g,n)) (hx:cOpd T x = some sx) {v:AV} {h':AHeap}
  (he:ev1 E F h (.load g n sx) = some (v,h')):Done T E G w v h' (execOp a.eval o):=by
 simp only [ev1,Option.map_eq_some_iff,Prod.mk.injEq,Option.bind_eq_some_iff] at he
 obtain ⟨v',⟨cs,h1,h2⟩,rfl,rfl⟩:=he
 obtain ⟨r,off,l,hu,hl,hrl,hcell⟩:=peek_rep I h1 (opd_rep I hF hx)
 obtain ⟨u,q1,q2,q3⟩:=run_loadVar hn w r off l hl hcell
 refine Done.same I u ?_ (whole_rep h2 hrl q2 q3)
 simp only [execOp,ho,Instr.loadAt,hu,Instr.sureAddr,Sem.run_bind,Sem.run_pure,Result.andThen,q1]
theorem setVL_append:∀ (vs:List Value) (off:Nat) (l tail:List Value),off + vs.length ≤ l.length→setVL off vs (l++tail) = setVL off vs l++tail
 | [],off,l,tail,_=>rfl
 | v :: vs,off,l,tail,hl=>by
  simp only [List.length_cons] at hl
  simp only [setVL]
  rw [List.set_append_left _ _ (by omega)]
  exact setVL_append vs (off + 1) (l.set off v) tail (by simp; omega)
theorem sim_store (I:Inv T E G h w) (hF:RepL T G w F.t a.tmps.toList) {o:Oper} {t:TypeId} {x y:Operand} {sx sy:SOpd} {n:Nat} (ho:o.op = .store t x y) (hn:szT T t = some n) (hx:cOpd T x = some sx) (hy:cOpd T y = some sy) {v:AV} {h':AHeap}
  (he:ev1 E F h (.store n sx sy) = some (v,h')):Done T E G w v h' (execOp a.eval o):=by
 have hxr:=opd_rep I hF hx
 have hyr:=opd_rep I hF hy
 simp only [ev1] at he
 split at he
 ·rename_i b off cs hb hcs
  split at he
  ·rename_i old hold
   split at he
   ·rename_i hcond
    obtain ⟨hc1,hc2,hc3,hc4⟩:=hcond
    cases he
    rw [hb] at hxr
    simp only [RepV] at hxr
    obtain ⟨r,hr,hxe⟩:=hxr
    have hcr:=cells_rep hyr hcs
    have hlen:=hcr.length
    obtain ⟨l,tail,e,fz,h1,h2,h3⟩:=I.blk b _ r hold hr
    have hll:=h3.length
    have hcsz:(a.eval y).cells.size = cs.length:=by rw [← Array.length_toList]; exact hlen
    have hst:=run_storeCells T.P r off e fz (a.eval y).cells.toList 0 w ⟨l++tail⟩ h1 (by simp; omega)
     (fun j _ hj=>h2 j (by simp at hj; omega)) (allCell_rep hcr hc4)
    rw [Nat.add_zero] at hst
    rw [setVL_append _ _ _ _ (by simp; omega)] at hst
    obtain ⟨hX,hI⟩:=I.put (i:=b) (b:=.cells (setCells off cs old)) (r:=r) (.cells ⟨setVL off (a.eval y).cells.toList l++tail⟩ e fz) (List.getElem?_eq_some_iff.1 hold).1 (fun q=>by rw [hold] at q; cases q) hc3 hr
     (fun c e' fz' hc=>by rw [h1] at hc; cases hc; exact ⟨_,_,rfl,by simp [setVL_length]⟩)
     (fun L hc=>by rw [h1] at hc; cases hc)
     (fun K=>⟨setVL off (a.eval y).cells.toList l,tail,e,fz,World.putObj_heap_same (heap_lt h1),fun i hi=>by
       have:=h2 i (by rwa [setVL_length] at hi)
       simp only [World.frozen?,h1] at this
       simp only [World.frozen?,World.putObj_heap_same (heap_lt h1)]
       exact this,RepL.setCells off (RepL.mono K _ _ hcr) (RepL.mono K _ _ h3)⟩)
    refine ⟨undef,_,_,.inr ⟨?_,rfl⟩,hX,hI,by simp only [RepV]⟩
    have hne:¬ ((a.eval y).cells.size ≠ n):=by rw [hcsz]; omega
    simp only [execOp,ho,Instr.storeAt,hxe,Instr.sureAddr,storeVar,Sem.run_bind,Sem.run_pure,Result.andThen,run_szT hn,if_neg hne,hst]
   ·cases he
  ·cases he
 ·cases he
theorem sim_nilCheck (I:Inv T E G h w) (hF:RepL T G w F.t a.tmps.toList) {o:Oper} {x:Operand} {sx:SOpd} (ho:o.op = .nilCheck x) (hx:cOpd T x = some sx) {v:AV} {h':AHeap}
  (he:ev1 E F h (.nilCheck sx) = some (v,h')):Done T E G w v h' (execOp a.eval o):=by
 have hxr:=opd_rep I hF hx
 simp only [ev1] at he
 split at he
 ·rename_i b off hb
  cases he
  rw [hb] at hxr
  refine Done.same I (a.eval x) ?_ hxr
  simp only [RepV] at hxr
  obtain ⟨r,_,hxe⟩:=hxr
  simp [execOp,ho,hxe]
 ·rename_i cs hb
  cases he
  rw [hb] at hxr
  refine Done.same I (a.eval x) ?_ hxr
  simp only [RepV] at hxr
  obtain ⟨r,off,m,hxe,_⟩:=hxr
  simp [execOp,ho,hxe]
 ·rename_i f p q hb
  cases he
  rw [hb] at hxr
  refine Done.same I (a.eval x) ?_ hxr
  simp only [RepV] at hxr
  obtain ⟨p',q',hxe,_⟩:=hxr
  simp [execOp,ho,hxe]
 ·cases he
theorem run_eqGuard_int (op:BinOp) (t:TypeId) (x y:Operand) (k k':IntKind) (a b:Int) (w:World):(eqGuard op t x y (.int k a) (.int k' b)).run T.P w = .ok () w:=by
 cases op <;> simp [eqGuard]
theorem run_eqGuard_str (op:BinOp) (t:TypeId) (x y:Operand) (a b:ByteArray) (w:World):(eqGuard op t x y (.string a) (.string b)).run T.P w = .ok () w:=by
 cases op <;> simp [eqGuard]
theorem run_eqGuard_bool (op:BinOp) (t:TypeId) (x y:Operand) (a b:Bool) (w:World):(eqGuard op t x y (.bool a) (.bool b)).run T.P w = .ok () w:=by
 cases op <;> simp [eqGuard]
theorem run_eqGuard_ptr (op:BinOp) (t:TypeId) (x y:Operand) (a b:Option Addr) (w:World):(eqGuard op t x y (.pointer a) (.pointer b)).run T.P w = .ok () w:=by
 cases op <;> simp [eqGuard]
theorem run_eqGuard_ifc (op:BinOp) (t:TypeId) (x y:Operand) (a b:Value) (hc:(Region.isConst x || Region.isConst y) = true) (ha:a = .nilIface∨∃ t v,a = .iface t v) (hb:b = .nilIface∨∃ t v,b = .iface t v) (w:World):(eqGuard op t x y a b).run T.P w = .ok () w:=by
 cases x <;> cases y <;> first
  | (simp [Region.isConst] at hc; done)
  | (rcases ha with rfl | ⟨t1,v1,rfl⟩ <;> rcases hb with rfl | ⟨t2,v2,rfl⟩ <;> cases op <;> simp [eqGuard])
theorem run_intBin {op:BinOp} {k:IntKind} {a b:Int} {v:AV} (hv:intBin op k a b = some v) (t:TypeId) (w:World) (G:Ghost):∃ u,(binOp op t (.int k a) (.int k b)).run T.P w = .ok u w∧RepV T G w v u:=by
  cases op <;> simp only [intBin] at hv <;> first
    | cases hv; done
    | (cases hv; exact ⟨_,by simp [binOp,Op.intArith,Op.intCmp]; rfl,by simp only [RepV]⟩)
    | (cases hv; exact ⟨_,by simp only [binOp,ne_eq,not_true_eq_false,if_false,Op.intBits,Sem.run_pure]; rfl,by simp only [RepV]⟩)
    | (split at hv
       · cases hv
       · rename_i hb; cases hv; exact ⟨_,by simp [binOp,Op.intDiv,hb]; rfl,by simp only [RepV]⟩)
theorem run_shift {op:BinOp} (ho:op = .shl∨op = .shr) {k k':IntKind} {a b:Int} {v:AV} (hv:shiftA op k a b = some v) (t:TypeId) (w:World) (G:Ghost):∃ u,(binOp op t (.int k a) (.int k' b)).run T.P w = .ok u w∧RepV T G w v u:=by
 unfold shiftA at hv
 split at hv
 ·cases hv
 ·rename_i hb
  rcases ho with rfl | rfl
  ·cases hv
   exact ⟨_,by simp only [binOp,Op.shift,if_neg hb,Sem.run_pure]; rfl,by simp only [RepV]⟩
  ·cases hv
   exact ⟨_,by simp only [binOp,Op.shift,if_neg hb,Sem.run_pure]; rfl,by simp only [RepV]⟩
theorem byte_toList (s:List UInt8):(ByteArray.mk ⟨s⟩).toList = s:=by rw [ByteArray.toList_eq]
theorem run_strBin {op:BinOp} {a b:List UInt8} {v:AV} (hv:strBin op a b = some v) (t:TypeId) (w:World) (G:Ghost):∃ u,(binOp op t (.string ⟨⟨a⟩⟩) (.string ⟨⟨b⟩⟩)).run T.P w = .ok u w∧RepV T G w v u:=by
  cases op <;> simp only [strBin] at hv <;> first
    | cases hv; done
    | (cases hv; exact ⟨_,by simp only [binOp,Op.stringOp,byte_toList,Sem.run_pure]; rfl,by simp only [RepV]⟩)
    | (split at hv
       · rename_i hle
         cases hv
         refine ⟨.string ⟨⟨a++b⟩⟩,?_,by simp only [RepV]⟩
         have hn:¬ (((ByteArray.mk ⟨a⟩).size + (ByteArray.mk ⟨b⟩).size:Nat):Int) > IntKind.i64.max:=by
           simp only [ByteArray.size,List.size_toArray]
           have:(IntKind.i64.max:Int) = 9223372036854775807:=by decide
           rw [this]
           omega
         simp only [binOp,Op.stringOp]
         rw [if_neg hn]
         simp only [Sem.run_pure,Result.ok.injEq,Value.string.injEq,and_true]
         have:(ByteArray.mk ⟨a⟩++ByteArray.mk ⟨b⟩:ByteArray).data = ⟨a++b⟩:=by
           rw [ByteArray.data_append]
           simp
         cases h1:(ByteArray.mk ⟨a⟩++ByteArray.mk ⟨b⟩:ByteArray)
         rw [h1] at this
         simp only at this
         rw [this]
       · cases hv)
end Go.Pv
/- Two values that are compared cell by cell: what the model's == comes to. Conditions: none; lemmas. -/
namespace Go.Pv
open Go.RowKit
variable {T:Tie} {E:Env} {G:Ghost} {h:AHeap} {w:World}
theorem eqCells_append:∀ {ks ks':List CellK} {cs ds:List AV} {b:Bool},eqCells (ks++ks') cs ds = some b →
  ∃ b1 b2,eqCells ks (cs.take ks.length) (ds.take ks.length) = some b1∧eqCells ks' (cs.drop ks.length) (ds.drop ks.length) = some b2∧b = (b1 && b2)
 | [],ks',cs,ds,b,hb=>⟨true,b,by simp [eqCells],by simpa using hb,by simp⟩
 | k :: ks,ks',[],ds,b,hb=>by simp [eqCells] at hb
 | k :: ks,ks',c :: cs,[],b,hb=>by simp [eqCells] at hb
 | k :: ks,ks',c :: cs,d :: ds,b,hb=>by
  simp only [List.cons_append,eqCells] at hb
  split at hb
  ·rename_i x y h1 h2
   cases hb
   obtain ⟨b1,b2,q1,q2,rfl⟩:=eqCells_append h2
   exact ⟨x && b1,b2,by simp [eqCells,h1,q1],by simpa using q2,by simp [Bool.and_assoc]⟩
  ·cases hb
theorem eqCells_length:∀ {ks:List CellK} {cs ds:List AV} {b:Bool},eqCells ks cs ds = some b→cs.length = ks.length∧ds.length = ks.length
 | [],[],[],b,_=>by simp
 | [],[],d :: ds,b,hb=>by simp [eqCells] at hb
 | [],c :: cs,ds,b,hb=>by simp [eqCells] at hb
 | k :: ks,[],ds,b,hb=>by simp [eqCells] at hb
 | k :: ks,c :: cs,[],b,hb=>by simp [eqCells] at hb
 | k :: ks,c :: cs,d :: ds,b,hb=>by
  simp only [eqCells] at hb
  split at hb
  ·rename_i x y h1 h2
   have:=eqCells_length h2
   simp only [List.length_cons]
   omega
  ·cases hb
def wholeV (g:Bool) (l:List Value):Value:=if g then .agg ⟨l⟩ else l.headD undef
theorem run_partV {t:TypeId} {g:Bool} {k:Nat} (hg:aggT T t = some g) (hs:szT T t = some k) {off:Nat} {l:List Value} (h1:g = false→k = 1) (hle:off + k ≤ l.length) (w:World):
  (part t ⟨l⟩ off).run T.P w = .ok (wholeV g ((l.drop off).take k)) w:=by
 cases g with
 | true=>
  simp only [part,Sem.run_bind,run_aggT hg,Result.andThen,if_true,run_szT hs,Sem.run_pure,wholeV]
  simp
 | false=>
  have hk:=h1 rfl
  subst hk
  have hlt:off < l.length:=by omega
  simp only [part,Sem.run_bind,run_aggT hg,Result.andThen,Bool.false_eq_true,if_false,wholeV]
  rw [List.drop_eq_getElem_cons hlt]
  simp only [List.take_succ_cons,List.headD_cons]
  simp [hlt]
theorem eqCells_one {k:CellK} {cs ds:List AV} {b:Bool} (hb:eqCells [k] cs ds = some b):∃ c d,cs = [c]∧ds = [d]∧eqCellK k c d = some b:=by
 obtain ⟨l1,l2⟩:=eqCells_length hb
 match cs,ds,l1,l2 with
 | [c],[d],_,_=>
  simp only [eqCells] at hb
  refine ⟨c,d,rfl,rfl,?_⟩
  split at hb
  ·rename_i x y h1 h2
   cases h2
   simpa [h1] using hb
  ·cases hb
def FlatOk (T:Tie) (n:Nat) (t:TypeId) (ks:List CellK):Prop:=
 ∃ g,aggT T t = some g∧(g = false→ks.length = 1)∧∀ (D:Nat),n ≤ D→∀ (G:Ghost) (w:World) (cs ds:List AV) (xs ys:List Value) (b:Bool),RepL T G w cs xs→RepL T G w ds ys→eqCells ks cs ds = some b →
  (Op.equalIn D t (wholeV g xs) (wholeV g ys)).run T.P w = .ok b w
theorem flat_fields {ck:TypeId→Option (List CellK)} {n D:Nat} (hck:∀ t ks,ck t = some ks→FlatOk T n t ks) (hD:n ≤ D) {G:Ghost} {w:World} {cs ds:List AV} {xs ys:List Value} (hx:RepL T G w cs xs) (hy:RepL T G w ds ys):
  ∀ (fs:List Field) (off:Nat) (ks:List CellK) (b:Bool),tileF T ck fs off = some ks→eqCells ks (cs.drop off) (ds.drop off) = some b→(Op.eqFields D ⟨xs⟩ ⟨ys⟩ fs).run T.P w = .ok b w
 | [],off,ks,b,ht,hb=>by
  simp only [tileF] at ht
  cases ht
  obtain ⟨l1,l2⟩:=eqCells_length hb
  rw [List.eq_nil_of_length_eq_zero l1,List.eq_nil_of_length_eq_zero l2] at hb
  simp only [eqCells] at hb
  cases hb
  simp [Op.eqFields]
 | f :: fs,off,ks,b,ht,hb=>by
  simp only [tileF] at ht
  split at ht
  ·rename_i hf
   obtain ⟨hname,hoff⟩:=hf
   split at ht
   ·rename_i kf hkf
    split at ht
    ·rename_i hsz
     simp only [Option.map_eq_some_iff] at ht
     obtain ⟨kr,hr,rfl⟩:=ht
     obtain ⟨b1,b2,q1,q2,rfl⟩:=eqCells_append hb
     obtain ⟨l1,l2⟩:=eqCells_length hb
     obtain ⟨g,hg,hg1,hall⟩:=hck _ _ hkf
     have hxl:=hx.length
     have hyl:=hy.length
     simp only [List.length_drop,List.length_append] at l1 l2
     by_cases hz:kf.length = 0
     ·have hoffx:off + kf.length ≤ xs.length∨xs.length < off:=by omega
      have gt:g = true:=by
       cases g with
       | true=>rfl
       | false=>have:=hg1 rfl; omega
      subst gt
      have hp:∀ l:List Value,(part f.type ⟨l⟩ f.offset).run T.P w = .ok (wholeV true ((l.drop off).take kf.length)) w:=fun l=>by
       rw [hoff]
       simp only [part,Sem.run_bind,run_aggT hg,Result.andThen,if_true,run_szT hsz,Sem.run_pure,wholeV]
       simp
      have he:=hall D hD G w _ _ _ _ _ ((hx.drop off).take kf.length) ((hy.drop off).take kf.length) q1
      have ih:=flat_fields hck hD hx hy fs (off + kf.length) kr b2 hr (by rw [← List.drop_drop,← List.drop_drop]; exact q2)
      simp only [Op.eqFields,hname,ne_eq,not_false_eq_true,if_true,Sem.run_bind,hp,he,Result.andThen]
      cases b1
      ·simp
      ·simpa using ih
     ·have p1:=run_partV (T:=T) hg hsz (off:=off) (l:=xs) hg1 (by omega) w
      have p2:=run_partV (T:=T) hg hsz (off:=off) (l:=ys) hg1 (by omega) w
      rw [← hoff] at p1 p2
      have he:=hall D hD G w _ _ _ _ _ ((hx.drop off).take kf.length) ((hy.drop off).take kf.length) q1
      rw [← hoff] at he
      have ih:=flat_fields hck hD hx hy fs (off + kf.length) kr b2 hr (by rw [← List.drop_drop,← List.drop_drop]; exact q2)
      simp only [Op.eqFields,hname,ne_eq,not_false_eq_true,if_true,Sem.run_bind,p1,p2,he,Result.andThen]
      cases b1
      ·simp
      ·simpa using ih
    ·cases ht
   ·cases ht
  ·cases ht
theorem flat_items {e:TypeId} {ks:List CellK} {n D:Nat} (hck:FlatOk T n e ks) (hsz:szT T e = some ks.length) (hne:ks ≠ []) (hD:n ≤ D) {G:Ghost} {w:World} {cs ds:List AV} {xs ys:List Value} (hx:RepL T G w cs xs) (hy:RepL T G w ds ys) (c:Nat) (hc:c = ks.length):
  ∀ (m i:Nat) (b:Bool),eqCells (tileK m ks) (cs.drop (i * ks.length)) (ds.drop (i * ks.length)) = some b→(Op.eqItems D e c ⟨xs⟩ ⟨ys⟩ (List.range' i m)).run T.P w = .ok b w
 | 0,i,b,hb=>by
  obtain ⟨l1,l2⟩:=eqCells_length hb
  simp only [tileK,List.length_nil] at l1 l2
  rw [List.eq_nil_of_length_eq_zero l1,List.eq_nil_of_length_eq_zero l2] at hb
  simp only [tileK,eqCells] at hb
  cases hb
  simp [Op.eqItems]
 | m + 1,i,b,hb=>by
  simp only [tileK] at hb
  obtain ⟨b1,b2,q1,q2,rfl⟩:=eqCells_append hb
  obtain ⟨l1,l2⟩:=eqCells_length hb
  obtain ⟨g,hg,hg1,hall⟩:=hck
  have hxl:=hx.length
  have hyl:=hy.length
  simp only [List.length_drop,List.length_append] at l1 l2
  have hpos:0 < ks.length:=by cases ks with | nil=>exact absurd rfl hne | cons a l=>simp
  have p1:=run_partV (T:=T) hg hsz (off:=i * ks.length) (l:=xs) hg1 (by omega) w
  have p2:=run_partV (T:=T) hg hsz (off:=i * ks.length) (l:=ys) hg1 (by omega) w
  have he:=hall D hD G w _ _ _ _ _ ((hx.drop (i * ks.length)).take ks.length) ((hy.drop (i * ks.length)).take ks.length) q1
  have ih:=flat_items ⟨g,hg,hg1,hall⟩ hsz hne hD hx hy c hc m (i + 1) b2 (by rw [Nat.add_mul,Nat.one_mul,← List.drop_drop,← List.drop_drop]; exact q2)
  simp only [List.range'_succ,Op.eqItems,Sem.run_bind,hc,p1,p2,he,Result.andThen]
  rw [← hc]
  cases b1
  ·simp
  ·simpa using ih
theorem flat_ok:∀ (n:Nat) (t:TypeId) (ks:List CellK),flatN T n t = some ks→FlatOk T n t ks
 | 0,t,ks,hk=>by simp [flatN] at hk
 | n + 1,t,ks,hk=>by
  simp only [flatN] at hk
  split at hk
  ·rename_i hu
   cases hk
   refine ⟨false,by simp [aggT,hu],fun _=>rfl,fun D hD G w cs ds xs ys b hx hy hb=>?_⟩
   obtain ⟨D,rfl⟩:∃ D',D = D' + 1:=⟨D - 1,by omega⟩
   obtain ⟨c,d,rfl,rfl,hq⟩:=eqCells_one hb
   clear hb
   cases c <;> cases d <;> simp only [eqCellK] at hq <;> cases hq
   rename_i p q
   simp only [RepL,RepV] at hx hy
   obtain ⟨_,_,rfl,rfl,rfl⟩:=hx
   obtain ⟨_,_,rfl,rfl,rfl⟩:=hy
   simpa [wholeV] using run_equalIn_bool w D t p q hu
  ·rename_i k hu
   cases hk
   refine ⟨false,by simp [aggT,hu],fun _=>rfl,fun D hD G w cs ds xs ys b hx hy hb=>?_⟩
   obtain ⟨D,rfl⟩:∃ D',D = D' + 1:=⟨D - 1,by omega⟩
   obtain ⟨c,d,rfl,rfl,hq⟩:=eqCells_one hb
   clear hb
   cases c <;> cases d <;> simp only [eqCellK] at hq <;> first | cases hq; done | skip
   rename_i k1 p k2 q
   split at hq
   case isFalse=>cases hq
   rename_i hkk
   cases hq
   subst hkk
   simp only [RepL,RepV] at hx hy
   obtain ⟨_,_,rfl,rfl,rfl⟩:=hx
   obtain ⟨_,_,rfl,rfl,rfl⟩:=hy
   simp [wholeV,Op.equalIn,run_underlying hu]
  ·rename_i hu
   cases hk
   refine ⟨false,by simp [aggT,hu],fun _=>rfl,fun D hD G w cs ds xs ys b hx hy hb=>?_⟩
   obtain ⟨D,rfl⟩:∃ D',D = D' + 1:=⟨D - 1,by omega⟩
   obtain ⟨c,d,rfl,rfl,hq⟩:=eqCells_one hb
   clear hb
   cases c <;> cases d <;> simp only [eqCellK] at hq <;> cases hq
   rename_i p q
   simp only [RepL,RepV] at hx hy
   obtain ⟨_,_,rfl,rfl,rfl⟩:=hx
   obtain ⟨_,_,rfl,rfl,rfl⟩:=hy
   simp only [wholeV,Bool.false_eq_true,if_false,List.headD_cons,Op.equalIn,Sem.run_bind,run_underlying hu,Result.andThen,Sem.run_pure]
   congr 1
   show ((⟨p⟩:Array UInt8) == ⟨q⟩) = (p == q)
   simp
  ·rename_i fs hu
   split at hk
   ·rename_i hst
    split at hk
    ·rename_i ks' htile
     split at hk
     ·rename_i hsz
      cases hk
      refine ⟨true,by simp [aggT,hu],(fun h=>nomatch h),fun D hD G w cs ds xs ys b hx hy hb=>?_⟩
      obtain ⟨D,rfl⟩:∃ D',D = D' + 1:=⟨D - 1,by omega⟩
      have hfs:T.P.fieldsOf t = fs:=by simp [Program.fieldsOf,hu]
      simp only [wholeV,if_true]
      rw [run_equalIn_struct w D t _ _ (by rw [hfs]; exact hu) hst,hfs]
      exact flat_fields (fun t ks h=>flat_ok n t ks h) (by omega) hx hy fs.toList 0 _ b htile (by simpa using hb)
     ·cases hk
    ·cases hk
   ·cases hk
  ·rename_i len e hu
   split at hk
   ·rename_i ke hke
    split at hk
    ·rename_i hsz
     cases hk
     refine ⟨true,by simp [aggT,hu],(fun h=>nomatch h),fun D hD G w cs ds xs ys b hx hy hb=>?_⟩
     obtain ⟨D,rfl⟩:∃ D',D = D' + 1:=⟨D - 1,by omega⟩
     obtain ⟨i,hi,hisz⟩:=info_of_szT hsz.1
     simp only [wholeV,if_true]
     rw [run_equalIn_array w D _ _ hu hi,List.range_eq_range']
     exact flat_items (flat_ok n e ke hke) hsz.1 hsz.2 (by omega) hx hy _ (by simp [Program.cellsOf,hi,hisz]) len 0 b (by simpa using hb)
    ·cases hk
   ·cases hk
  ·cases hk
theorem run_eqGuard_flat (op:BinOp) (t:TypeId) (x y:Operand) (a b:Array Value) (hg:T.P.eqGuardType T.P.depth t = false) (w:World):(eqGuard op t x y (.agg a) (.agg b)).run T.P w = .ok () w:=by
 cases op <;> simp [eqGuard,hg]
end Go.Pv
/- The model's operations do what the evaluator's do: comparisons, conversions, parts, maps. Conditions: none; lemmas. -/
namespace Go.Pv
open Go.RowKit
variable {T:Tie} {E:Env} {G:Ghost} {h:AHeap} {w:World} {F:Fr} {a:Act}
theorem eqkT_bool {x y:Operand} {t:TypeId} (hk:eqkT T x y t = .bool):T.P.underlying t = some .bool:=by
 unfold eqkT at hk
 split at hk <;> first | assumption | (cases hk; done) | (split at hk <;> first | (cases hk; done) | (split at hk <;> cases hk))
theorem eqkT_ptr {x y:Operand} {t:TypeId} (hk:eqkT T x y t = .ptr):∃ e,T.P.underlying t = some (.pointer e):=by
 unfold eqkT at hk
 split at hk <;> first | exact ⟨_,by assumption⟩ | (cases hk; done) | (split at hk <;> first | (cases hk; done) | (split at hk <;> cases hk))
theorem eqkT_ifc {x y:Operand} {t:TypeId} (hk:eqkT T x y t = .ifc):(∃ ms,T.P.underlying t = some (.interface ms))∧(Region.isConst x || Region.isConst y) = true:=by
 unfold eqkT at hk
 split at hk
 case h_3 ms hu=>
  split at hk
  ·exact ⟨⟨ms,hu⟩,by assumption⟩
  ·cases hk
 all_goals first | (cases hk; done) | (split at hk <;> first | (cases hk; done) | (split at hk <;> cases hk))
theorem eqkT_flat {x y:Operand} {t:TypeId} {ks:List CellK} (hk:eqkT T x y t = .flat ks):aggT T t = some true∧flatN T 12 t = some ks∧T.P.eqGuardType T.P.depth t = false:=by
 unfold eqkT at hk
 split at hk
 case h_4 fs hu=>
  split at hk
  ·rename_i ks' hf
   split at hk
   ·rename_i hg
    cases hk
    exact ⟨by simp [aggT,hu],hf,hg⟩
   ·cases hk
  ·cases hk
 case h_5 n e hu=>
  split at hk
  ·rename_i ks' hf
   split at hk
   ·rename_i hg
    cases hk
    exact ⟨by simp [aggT,hu],hf,hg⟩
   ·cases hk
  ·cases hk
 all_goals first | (cases hk; done) | (split at hk <;> cases hk)
theorem eqkT_ifi {x y:Operand} {t:TypeId} {ts:List Nat} (hk:eqkT T x y t = .ifi ts):(∃ ms,T.P.underlying t = some (.interface ms))∧∀ u ∈ ts,∃ i k,T.P.info? (T.tnum u) = some i∧i.comparable = true∧T.P.underlying (T.tnum u) = some (.int k):=by
 unfold eqkT at hk
 split at hk
 case h_3 ms hu=>
  split at hk
  ·cases hk
  ·cases hk
   refine ⟨⟨ms,hu⟩,fun u hu'=>?_⟩
   unfold intTs at hu'
   obtain ⟨_,h2⟩:=List.mem_filter.1 hu'
   split at h2
   ·rename_i i k h3 h4
    simp only [Bool.and_eq_true] at h2
    exact ⟨i,k,h3,h2.1,h4⟩
   ·cases h2
 all_goals first | (cases hk; done) | (split at hk <;> first | (cases hk; done) | (split at hk <;> cases hk))
theorem eqTell_run {op:BinOp} {b:Bool} {v:AV} (hv:eqTell op b = some v) {t:TypeId} {x y:Value} (hb:(binOp op t x y) = (do pure (.bool (← Op.equal t x y)):Sem Value)∧op = .eql∨(binOp op t x y) = (do pure (.bool (!(← Op.equal t x y))):Sem Value)∧op = .neq∨(op ≠ .eql∧op ≠ .neq)) {w:World}
  (he:(Op.equal t x y).run T.P w = .ok b w):∃ u,(binOp op t x y).run T.P w = .ok u w∧RepV T G w v u:=by
 rcases hb with ⟨h1,rfl⟩ | ⟨h1,rfl⟩ | ⟨h1,h2⟩
 ·simp only [eqTell] at hv; cases hv
  exact ⟨.bool b,by rw [h1]; simp [he,Result.andThen],by simp only [RepV]⟩
 ·simp only [eqTell] at hv; cases hv
  exact ⟨.bool (!b),by rw [h1]; simp [he,Result.andThen],by simp only [RepV]⟩
 ·unfold eqTell at hv
  split at hv
  ·exact absurd rfl h1
  ·exact absurd rfl h2
  ·cases hv
theorem binOp_eq_agg (op:BinOp) (t:TypeId) (x y:Array Value):
  (binOp op t (.agg x) (.agg y)) = (do pure (.bool (← Op.equal t (.agg x) (.agg y))):Sem Value)∧op = .eql∨(binOp op t (.agg x) (.agg y)) = (do pure (.bool (!(← Op.equal t (.agg x) (.agg y)))):Sem Value)∧op = .neq∨(op ≠ .eql∧op ≠ .neq):=by
 cases op <;> simp [binOp]
theorem binOp_eq_cases (op:BinOp) (t:TypeId) (x y:Value) (hx:(∃ b,x = .bool b)∨(∃ p,x = .pointer p)∨x = .nilIface∨∃ u v,x = .iface u v):
  (binOp op t x y) = (do pure (.bool (← Op.equal t x y)):Sem Value)∧op = .eql∨(binOp op t x y) = (do pure (.bool (!(← Op.equal t x y))):Sem Value)∧op = .neq∨(op ≠ .eql∧op ≠ .neq):=by
 rcases hx with ⟨b,rfl⟩ | ⟨p,rfl⟩ | rfl | ⟨u,v,rfl⟩ <;> cases op <;> simp [binOp]
theorem run_equal_bool {t:TypeId} (hu:T.P.underlying t = some .bool) (a b:Bool) (w:World):(Op.equal t (.bool a) (.bool b)).run T.P w = .ok (a == b) w:=by
 unfold Op.equal Op.maxDepth
 exact run_equalIn_bool w 9999 t a b hu
theorem run_equalIn_nilp {t e:TypeId} (hu:T.P.underlying t = some (.pointer e)) (d:Nat) (b:Option Addr) (w:World):(Op.equalIn (d + 1) t (.pointer none) (.pointer b)).run T.P w = .ok b.isNone w:=by
 simp [Op.equalIn,run_underlying hu]
theorem run_equalIn_pnil {t e:TypeId} (hu:T.P.underlying t = some (.pointer e)) (d:Nat) (b:Addr) (w:World):(Op.equalIn (d + 1) t (.pointer (some b)) (.pointer none)).run T.P w = .ok false w:=by
 simp [Op.equalIn,run_underlying hu]
theorem run_equalIn_nini {t:TypeId} {ms} (hu:T.P.underlying t = some (.interface ms)) (d:Nat) (w:World):(Op.equalIn (d + 1) t .nilIface .nilIface).run T.P w = .ok true w:=by
 simp [Op.equalIn,run_underlying hu]
theorem run_equalIn_ni {t:TypeId} {ms} (hu:T.P.underlying t = some (.interface ms)) (d:Nat) (u:TypeId) (v:Value) (w:World):(Op.equalIn (d + 1) t .nilIface (.iface u v)).run T.P w = .ok false w:=by
 simp [Op.equalIn,run_underlying hu]
theorem run_equalIn_in {t:TypeId} {ms} (hu:T.P.underlying t = some (.interface ms)) (d:Nat) (u:TypeId) (v:Value) (w:World):(Op.equalIn (d + 1) t (.iface u v) .nilIface).run T.P w = .ok false w:=by
 simp [Op.equalIn,run_underlying hu]
theorem run_equal_nila {t e:TypeId} (hu:T.P.underlying t = some (.pointer e)) (b:Addr) (w:World):(Op.equal t (.pointer none) (.pointer (some b))).run T.P w = .ok false w:=run_equalIn_nilp hu 9999 (some b) w
theorem run_equal_nilnil {t e:TypeId} (hu:T.P.underlying t = some (.pointer e)) (w:World):(Op.equal t (.pointer none) (.pointer none)).run T.P w = .ok true w:=run_equalIn_nilp hu 9999 none w
theorem run_equal_pnil {t e:TypeId} (hu:T.P.underlying t = some (.pointer e)) (b:Addr) (w:World):(Op.equal t (.pointer (some b)) (.pointer none)).run T.P w = .ok false w:=run_equalIn_pnil hu 9999 b w
theorem run_equal_nini {t:TypeId} {ms} (hu:T.P.underlying t = some (.interface ms)) (w:World):(Op.equal t .nilIface .nilIface).run T.P w = .ok true w:=run_equalIn_nini hu 9999 w
theorem run_equal_ni {t:TypeId} {ms} (hu:T.P.underlying t = some (.interface ms)) (u:TypeId) (v:Value) (w:World):(Op.equal t .nilIface (.iface u v)).run T.P w = .ok false w:=run_equalIn_ni hu 9999 u v w
theorem run_equal_in {t:TypeId} {ms} (hu:T.P.underlying t = some (.interface ms)) (u:TypeId) (v:Value) (w:World):(Op.equal t (.iface u v) .nilIface).run T.P w = .ok false w:=run_equalIn_in hu 9999 u v w
theorem run_equalIn_ii {t u:TypeId} {ms} {i:TypeInfo} {kk:IntKind} (hu:T.P.underlying t = some (.interface ms)) (hi:T.P.info? u = some i) (hc:i.comparable = true) (hk:T.P.underlying u = some (.int kk)) (d:Nat) (k:IntKind) (p q:Int) (w:World):
  (Op.equalIn (d + 2) t (.iface u (.int k p)) (.iface u (.int k q))).run T.P w = .ok (p == q) w:=by
 simp [Op.equalIn,run_underlying hu,run_underlying hk,run_typeInfo w hi,hc]
theorem sim_bin (I:Inv T E G h w) (hF:RepL T G w F.t a.tmps.toList) {o:Oper} {op:BinOp} {t t':TypeId} {x y:Operand} {sx sy:SOpd} (ho:o.op = .binOp op t x y t') (hx:cOpd T x = some sx) (hy:cOpd T y = some sy) {v:AV} {h':AHeap}
  (he:ev1 E F h (.bin op (eqkT T x y t) sx sy) = some (v,h')):Done T E G w v h' (execOp a.eval o):=by
 have hxr:=opd_rep I hF hx
 have hyr:=opd_rep I hF hy
 simp only [ev1,Option.map_eq_some_iff,Prod.mk.injEq] at he
 obtain ⟨v',h1,rfl,rfl⟩:=he
 suffices H:∃ u,(eqGuard op t x y (a.eval x) (a.eval y)).run T.P w = .ok () w∧(binOp op t (a.eval x) (a.eval y)).run T.P w = .ok u w∧RepV T G w v' u by
  obtain ⟨u,q1,q2,q3⟩:=H
  refine Done.same I u ?_ q3
  simp only [execOp,ho,Sem.run_bind,q1,Result.andThen,q2,Sem.run_pure]
 unfold evBin at h1
 split at h1
 ·rename_i k p k' q e1 e2
  rw [e1] at hxr; rw [e2] at hyr
  simp only [RepV] at hxr hyr
  rw [hxr,hyr]
  split at h1
  ·obtain ⟨u,q1,q2⟩:=run_shift (T:=T) (k':=k') (.inl rfl) h1 t w G
   exact ⟨u,run_eqGuard_int ..,q1,q2⟩
  ·obtain ⟨u,q1,q2⟩:=run_shift (T:=T) (k':=k') (.inr rfl) h1 t w G
   exact ⟨u,run_eqGuard_int ..,q1,q2⟩
  ·split at h1
   ·rename_i hk
    subst hk
    obtain ⟨u,q1,q2⟩:=run_intBin (T:=T) h1 t w G
    exact ⟨u,run_eqGuard_int ..,q1,q2⟩
   ·cases h1
 ·rename_i p q e1 e2
  rw [e1] at hxr; rw [e2] at hyr
  simp only [RepV] at hxr hyr
  rw [hxr,hyr]
  obtain ⟨u,q1,q2⟩:=run_strBin (T:=T) h1 t w G
  exact ⟨u,run_eqGuard_str ..,q1,q2⟩
 ·rename_i p q e1 e2
  rw [e1] at hxr; rw [e2] at hyr
  simp only [RepV] at hxr hyr
  rw [hxr,hyr]
  split at h1
  ·rename_i hk
   obtain ⟨u,q1,q2⟩:=eqTell_run (G:=G) h1 (binOp_eq_cases op t _ _ (.inl ⟨_,rfl⟩)) (run_equal_bool (eqkT_bool hk) p q w)
   exact ⟨u,run_eqGuard_bool ..,q1,q2⟩
  ·cases h1
 ·rename_i p q e1 e2
  rw [e1] at hxr; rw [e2] at hyr
  simp only [RepV] at hxr hyr
  obtain ⟨xs,hxr,hxl⟩:=hxr
  obtain ⟨ys,hyr,hyl⟩:=hyr
  rw [hxr,hyr]
  split at h1
  ·rename_i ks hk
   obtain ⟨hg,hf,hgd⟩:=eqkT_flat hk
   simp only [Option.bind_eq_some_iff] at h1
   obtain ⟨b,h2,h3⟩:=h1
   obtain ⟨g,g1,_,g3⟩:=flat_ok 12 t ks hf
   rw [hg] at g1
   cases g1
   have heq:=g3 10000 (by omega) G w p q xs ys b hxl hyl h2
   simp only [wholeV,if_true] at heq
   obtain ⟨u,q1,q2⟩:=eqTell_run (G:=G) h3 (binOp_eq_agg op t ⟨xs⟩ ⟨ys⟩) heq
   exact ⟨u,run_eqGuard_flat _ _ _ _ _ _ hgd w,q1,q2⟩
  ·cases h1
 ·rename_i e1 e2
  rw [e1] at hxr; rw [e2] at hyr
  simp only [RepV] at hxr hyr
  rw [hxr,hyr]
  split at h1
  ·rename_i hk
   obtain ⟨e,hu⟩:=eqkT_ptr hk
   obtain ⟨u,q1,q2⟩:=eqTell_run (G:=G) h1 (binOp_eq_cases op t _ _ (.inr (.inl ⟨_,rfl⟩))) (run_equal_nilnil hu w)
   exact ⟨u,run_eqGuard_ptr ..,q1,q2⟩
  ·cases h1
 ·rename_i b off e1 e2
  rw [e1] at hxr; rw [e2] at hyr
  simp only [RepV] at hxr hyr
  obtain ⟨r,_,hyr⟩:=hyr
  rw [hxr,hyr]
  split at h1
  ·rename_i hk
   obtain ⟨e,hu⟩:=eqkT_ptr hk
   obtain ⟨u,q1,q2⟩:=eqTell_run (G:=G) h1 (binOp_eq_cases op t _ _ (.inr (.inl ⟨_,rfl⟩))) (run_equal_nila hu _ w)
   exact ⟨u,run_eqGuard_ptr ..,q1,q2⟩
  ·cases h1
 ·rename_i b off e1 e2
  rw [e1] at hxr; rw [e2] at hyr
  simp only [RepV] at hxr hyr
  obtain ⟨r,_,hxr⟩:=hxr
  rw [hxr,hyr]
  split at h1
  ·rename_i hk
   obtain ⟨e,hu⟩:=eqkT_ptr hk
   obtain ⟨u,q1,q2⟩:=eqTell_run (G:=G) h1 (binOp_eq_cases op t _ _ (.inr (.inl ⟨_,rfl⟩))) (run_equal_pnil hu _ w)
   exact ⟨u,run_eqGuard_ptr ..,q1,q2⟩
  ·cases h1
 ·rename_i cs e1 e2
  rw [e1] at hxr; rw [e2] at hyr
  simp only [RepV] at hxr hyr
  obtain ⟨r,off,m,hyr,_⟩:=hyr
  rw [hxr,hyr]
  split at h1
  ·rename_i hk
   obtain ⟨e,hu⟩:=eqkT_ptr hk
   obtain ⟨u,q1,q2⟩:=eqTell_run (G:=G) h1 (binOp_eq_cases op t _ _ (.inr (.inl ⟨_,rfl⟩))) (run_equal_nila hu _ w)
   exact ⟨u,run_eqGuard_ptr ..,q1,q2⟩
  ·cases h1
 ·rename_i cs e1 e2
  rw [e1] at hxr; rw [e2] at hyr
  simp only [RepV] at hxr hyr
  obtain ⟨r,off,m,hxr,_⟩:=hxr
  rw [hxr,hyr]
  split at h1
  ·rename_i hk
   obtain ⟨e,hu⟩:=eqkT_ptr hk
   obtain ⟨u,q1,q2⟩:=eqTell_run (G:=G) h1 (binOp_eq_cases op t _ _ (.inr (.inl ⟨_,rfl⟩))) (run_equal_pnil hu _ w)
   exact ⟨u,run_eqGuard_ptr ..,q1,q2⟩
  ·cases h1
 ·rename_i e1 e2
  rw [e1] at hxr; rw [e2] at hyr
  simp only [RepV] at hxr hyr
  rw [hxr,hyr]
  split at h1
  ·rename_i hk
   obtain ⟨⟨ms,hu⟩,hc⟩:=eqkT_ifc hk
   obtain ⟨u,q1,q2⟩:=eqTell_run (G:=G) h1 (binOp_eq_cases op t _ _ (.inr (.inr (.inl rfl)))) (run_equal_nini hu w)
   exact ⟨u,run_eqGuard_ifc op t x y _ _ hc (.inl rfl) (.inl rfl) w,q1,q2⟩
  ·cases h1
 ·rename_i t1 v1 e1 e2
  rw [e1] at hxr; rw [e2] at hyr
  simp only [RepV] at hxr hyr
  obtain ⟨z,hyr,_⟩:=hyr
  rw [hxr,hyr]
  split at h1
  ·rename_i hk
   obtain ⟨⟨ms,hu⟩,hc⟩:=eqkT_ifc hk
   obtain ⟨u,q1,q2⟩:=eqTell_run (G:=G) h1 (binOp_eq_cases op t _ _ (.inr (.inr (.inl rfl)))) (run_equal_ni hu _ _ w)
   exact ⟨u,run_eqGuard_ifc op t x y _ _ hc (.inl rfl) (.inr ⟨_,_,rfl⟩) w,q1,q2⟩
  ·cases h1
 ·rename_i t1 v1 e1 e2
  rw [e1] at hxr; rw [e2] at hyr
  simp only [RepV] at hxr hyr
  obtain ⟨z,hxr,_⟩:=hxr
  rw [hxr,hyr]
  split at h1
  ·rename_i hk
   obtain ⟨⟨ms,hu⟩,hc⟩:=eqkT_ifc hk
   obtain ⟨u,q1,q2⟩:=eqTell_run (G:=G) h1 (binOp_eq_cases op t _ _ (.inr (.inr (.inr ⟨_,_,rfl⟩)))) (run_equal_in hu _ _ w)
   exact ⟨u,run_eqGuard_ifc op t x y _ _ hc (.inr ⟨_,_,rfl⟩) (.inl rfl) w,q1,q2⟩
  ·cases h1
 ·rename_i t1 k p t2 k' q e1 e2
  rw [e1] at hxr; rw [e2] at hyr
  simp only [RepV] at hxr hyr
  obtain ⟨z1,hxr,rfl⟩:=hxr
  obtain ⟨z2,hyr,rfl⟩:=hyr
  rw [hxr,hyr]
  split at h1
  ·rename_i ts hk
   split at h1
   ·rename_i hc
    obtain ⟨rfl,rfl,hts⟩:=hc
    obtain ⟨⟨ms,hu⟩,hin⟩:=eqkT_ifi hk
    obtain ⟨i,kk,hi,hcmp,hui⟩:=hin t1 (by simpa using hts)
    have heq:(Op.equal t (.iface (T.tnum t1) (.int k p)) (.iface (T.tnum t1) (.int k q))).run T.P w = .ok (p == q) w:=by
     unfold Op.equal Op.maxDepth
     exact run_equalIn_ii hu hi hcmp hui 9998 k p q w
    obtain ⟨u,q1,q2⟩:=eqTell_run (G:=G) h1 (binOp_eq_cases op t _ _ (.inr (.inr (.inr ⟨_,_,rfl⟩)))) heq
    refine ⟨u,?_,q1,q2⟩
    cases op <;> simp [eqGuard]
   ·cases h1
  ·cases h1
 ·cases h1
theorem run_equalIn_slc {t e:TypeId} (hu:T.P.underlying t = some (.slice e)) (d:Nat) (p:Option Addr) (l c:Nat) (w:World):(Op.equalIn (d + 1) t (.slice p l c) (.slice none 0 0)).run T.P w = .ok p.isNone w:=by
 cases p <;> simp [Op.equalIn,run_underlying hu]
theorem run_equalIn_map {t k e:TypeId} (hu:T.P.underlying t = some (.map k e)) (d:Nat) (p:Option Nat) (w:World):(Op.equalIn (d + 1) t (.map p) (.map none)).run T.P w = .ok p.isNone w:=by
 cases p <;> simp [Op.equalIn,run_underlying hu]
theorem run_equalIn_nf {t:TypeId} {p q b} (hu:T.P.underlying t = some (.func p q b)) (d:Nat) (w:World):(Op.equalIn (d + 1) t .nilFunc .nilFunc).run T.P w = .ok true w:=by
 simp [Op.equalIn,run_underlying hu]
theorem run_equalIn_fn {t:TypeId} {p q b} (hu:T.P.underlying t = some (.func p q b)) (d:Nat) (f x y) (w:World):(Op.equalIn (d + 1) t (.func f x y) .nilFunc).run T.P w = .ok false w:=by
 simp [Op.equalIn,run_underlying hu]
theorem nil_done (I:Inv T E G h w) {o:Oper} {op:BinOp} {t t':TypeId} {x y:Operand} (ho:o.op = .binOp op t x y t') {b:Bool} {v:AV} (hv:eqTell op b = some v) {ux uy:Value} (hux:a.eval x = ux) (huy:a.eval y = uy)
  (hg:(eqGuard op t x y ux uy).run T.P w = .ok () w) (h1:binOp .eql t ux uy = (do pure (.bool (← Op.equal t ux uy)):Sem Value)) (h2:binOp .neq t ux uy = (do pure (.bool (!(← Op.equal t ux uy))):Sem Value))
  (he:(Op.equal t ux uy).run T.P w = .ok b w):Done T E G w v h (execOp a.eval o):=by
 cases op <;> simp only [eqTell] at hv <;> cases hv
 ·refine Done.same I (.bool b) ?_ (by simp only [RepV])
  simp only [execOp,ho,Sem.run_bind,hux,huy,hg,Result.andThen,h1,he,Sem.run_pure]
 ·refine Done.same I (.bool (!b)) ?_ (by simp only [RepV])
  simp only [execOp,ho,Sem.run_bind,hux,huy,hg,Result.andThen,h2,he,Sem.run_pure]
def nilVal:NilK→Value
 | .slc=>.slice none 0 0
 | .map=>.map none
 | .fn=>.nilFunc
def nilDesc:NilK→TypeDesc→Prop
 | .slc,d=>∃ e,d = .slice e
 | .map,d=>∃ k e,d = .map k e
 | .fn,d=>∃ p q b,d = .func p q b
theorem sim_isNil (I:Inv T E G h w) (hF:RepL T G w F.t a.tmps.toList) {o:Oper} {op:BinOp} {t t':TypeId} {x:Operand} {sx:SOpd} {k:NilK} {d:TypeDesc} (ho:o.op = .binOp op t x (.const (nilVal k)) t') (hx:cOpd T x = some sx)
  (hu:T.P.underlying t = some d) (hd:nilDesc k d) {v:AV} {h':AHeap} (he:ev1 E F h (.isNil k op sx) = some (v,h')):Done T E G w v h' (execOp a.eval o):=by
 have hxr:=opd_rep I hF hx
 have hy:a.eval (.const (nilVal k)) = nilVal k:=rfl
 simp only [ev1,Option.map_eq_some_iff,Prod.mk.injEq] at he
 obtain ⟨v',h1,rfl,rfl⟩:=he
 unfold nilTell at h1
 split at h1
 ·rename_i e1
  rw [e1] at hxr
  simp only [RepV] at hxr
  obtain ⟨e,rfl⟩:=hd
  exact nil_done I ho h1 hxr hy (by simp [eqGuard]) (by simp [binOp,nilVal]) (by simp [binOp,nilVal]) (run_equalIn_slc hu 9999 none 0 0 w)
 ·rename_i e1
  rw [e1] at hxr
  simp only [RepV] at hxr
  obtain ⟨e,f,rfl⟩:=hd
  exact nil_done I ho h1 hxr hy (by simp [eqGuard]) (by simp [binOp,nilVal]) (by simp [binOp,nilVal]) (run_equalIn_map hu 9999 none w)
 ·rename_i e1
  rw [e1] at hxr
  simp only [RepV] at hxr
  obtain ⟨p,q,b,rfl⟩:=hd
  exact nil_done I ho h1 hxr hy (by simp [eqGuard]) (by simp [binOp,nilVal]) (by simp [binOp,nilVal]) (run_equalIn_nf hu 9999 w)
 ·rename_i own len cs e1
  rw [e1] at hxr
  simp only [RepV] at hxr
  split at h1
  ·rename_i hlen
   obtain ⟨ad,cap,hxe,hcap,_,hn,_⟩:=hxr
   obtain ⟨e,rfl⟩:=hd
   cases ad with
   | none=>have:=hn rfl; omega
   | some ad=>
    exact nil_done I ho h1 hxe hy (by simp [eqGuard]) (by simp [binOp,nilVal]) (by simp [binOp,nilVal]) (run_equalIn_slc hu 9999 (some ad) len cap w)
  ·cases h1
 ·rename_i b0 off len e1
  rw [e1] at hxr
  simp only [RepV] at hxr
  obtain ⟨r,cap,_,hxe,_⟩:=hxr
  obtain ⟨e,rfl⟩:=hd
  exact nil_done I ho h1 hxe hy (by simp [eqGuard]) (by simp [binOp,nilVal]) (by simp [binOp,nilVal]) (run_equalIn_slc hu 9999 (some _) len cap w)
 ·rename_i b0 sz len e1
  rw [e1] at hxr
  simp only [RepV] at hxr
  obtain ⟨r,cap,_,_,_,_,hxe,_⟩:=hxr
  obtain ⟨e,rfl⟩:=hd
  exact nil_done I ho h1 hxe hy (by simp [eqGuard]) (by simp [binOp,nilVal]) (by simp [binOp,nilVal]) (run_equalIn_slc hu 9999 (some _) len cap w)
 ·rename_i b0 e1
  rw [e1] at hxr
  simp only [RepV] at hxr
  obtain ⟨r,_,hxe⟩:=hxr
  obtain ⟨e,f,rfl⟩:=hd
  exact nil_done I ho h1 hxe hy (by simp [eqGuard]) (by simp [binOp,nilVal]) (by simp [binOp,nilVal]) (run_equalIn_map hu 9999 (some _) w)
 ·rename_i f0 p0 q0 e1
  rw [e1] at hxr
  obtain ⟨p,q,b,rfl⟩:=hd
  have hxe:∃ f' p' q',a.eval x = .func f' p' q':=by
   cases f0 with
   | func f=>simp only [RepV] at hxr; obtain ⟨_,_,hxe,_⟩:=hxr; exact ⟨_,_,_,hxe⟩
   | yield l=>simp only [RepV] at hxr; obtain ⟨_,_,_,_,hxe,_⟩:=hxr; exact ⟨_,_,_,hxe⟩
  obtain ⟨f',p',q',hxe⟩:=hxe
  exact nil_done I ho h1 hxe hy (by simp [eqGuard]) (by simp [binOp,nilVal]) (by simp [binOp,nilVal]) (run_equalIn_fn hu 9999 f' p' q' w)
 ·cases h1
theorem sim_un (I:Inv T E G h w) (hF:RepL T G w F.t a.tmps.toList) {o:Oper} {op:UnOp} {t:TypeId} {x:Operand} {sx:SOpd} (ho:o.op = .unOp op t x) (hx:cOpd T x = some sx) {v:AV} {h':AHeap}
  (he:ev1 E F h (.un op sx) = some (v,h')):Done T E G w v h' (execOp a.eval o):=by
 have hxr:=opd_rep I hF hx
 simp only [ev1,Option.map_eq_some_iff,Prod.mk.injEq] at he
 obtain ⟨v',h1,rfl,rfl⟩:=he
 unfold evUn at h1
 split at h1
 ·rename_i k n e1
  rw [e1] at hxr
  simp only [RepV] at hxr
  split at h1
  ·cases h1
   exact Done.same I (.int k (k.wrap (0 - n))) (by simp [execOp,ho,hxr,Op.unary,Op.intArith]) (by simp only [RepV])
  ·cases h1
 ·rename_i b e1
  rw [e1] at hxr
  simp only [RepV] at hxr
  split at h1
  ·cases h1
   exact Done.same I (.bool (!b)) (by simp [execOp,ho,hxr,Op.unary]) (by simp only [RepV])
  ·cases h1
 ·cases h1
theorem sim_mkIface (I:Inv T E G h w) (hF:RepL T G w F.t a.tmps.toList) {o:Oper} {t:TypeId} {u:Nat} {x:Operand} {sx:SOpd} (ho:o.op = .makeInterface t x) {d:TypeDesc} (hd:T.P.underlying t = some d) (hni:∀ ms,d ≠ .interface ms) (hu:tOf T t = some u)
  (hx:cOpd T x = some sx) {v:AV} {h':AHeap} (he:ev1 E F h (.mkIface u sx) = some (v,h')):Done T E G w v h' (execOp a.eval o):=by
 have hxr:=opd_rep I hF hx
 simp only [ev1,Option.some.injEq,Prod.mk.injEq] at he
 obtain ⟨rfl,rfl⟩:=he
 refine Done.same I (.iface t (a.eval x)) ?_ (by simp only [RepV]; exact ⟨_,by rw [tOf_eq hu],hxr⟩)
 simp only [execOp,ho,Instr.makeInterface,Sem.run_bind,run_underlying hd,Result.andThen]
 cases d <;> first | exact absurd rfl (hni _) | simp
theorem sim_mkFn (I:Inv T E G h w) (hF:RepL T G w F.t a.tmps.toList) {o:Oper} {f j:Nat} {first caps:Array Operand} {sf sc:List SOpd} (ho:o.op = .makeFunc (.func f) first caps) (hj:fOf T f = some j)
  (h1:cOpds T first.toList = some sf) (h2:cOpds T caps.toList = some sc) {v:AV} {h':AHeap} (he:ev1 E F h (.mkFn j sf sc) = some (v,h')):Done T E G w v h' (execOp a.eval o):=by
 simp only [ev1,Option.some.injEq,Prod.mk.injEq] at he
 obtain ⟨rfl,rfl⟩:=he
 refine Done.same I (.func (.func f) (first.map a.eval) (caps.map a.eval)) (by simp [execOp,ho,Instr.makeFunc]) ?_
 simp only [RepV]
 refine ⟨first.toList.map a.eval,caps.toList.map a.eval,?_,opds_rep I hF h1,opds_rep I hF h2⟩
 rw [fOf_eq hj]
 congr 1 <;> (apply Array.ext'; simp)
theorem sim_mkMap (I:Inv T E G h w) {o:Oper} {t:TypeId} (ho:o.op = .makeMap t none) {v:AV} {h':AHeap} (he:ev1 E F h .mkMap = some (v,h')):Done T E G w v h' (execOp a.eval o):=by
 simp only [ev1,Option.some.injEq,Prod.mk.injEq] at he
 obtain ⟨rfl,rfl⟩:=he
 obtain ⟨hX,hI⟩:=I.push (.map []) (.map #[] 0) fun K=>⟨#[],0,alloc_at _ _,by simp only [RepE]⟩
 refine ⟨.map (some w.heap.size),_,_,.inl ?_,hX,hI,?_⟩
 ·simp [execOp,ho,Instr.makeMap,newObj,Sem.run]
 ·simp only [RepV]
  exact ⟨w.heap.size,by rw [← I.len,List.getElem?_append_right (Nat.le_refl _)]; simp,rfl⟩
theorem sim_extract (I:Inv T E G h w) (hF:RepL T G w F.t a.tmps.toList) {o:Oper} {i:Nat} {x:Operand} {sx:SOpd} (ho:o.op = .extract x i) (hx:cOpd T x = some sx) {v:AV} {h':AHeap}
  (he:ev1 E F h (.extract i sx) = some (v,h')):Done T E G w v h' (execOp a.eval o):=by
 have hxr:=opd_rep I hF hx
 simp only [ev1] at he
 split at he
 ·rename_i vs e1
  rw [e1] at hxr
  simp only [RepV] at hxr
  obtain ⟨l,hxe,hl⟩:=hxr
  simp only [Option.map_eq_some_iff,Prod.mk.injEq] at he
  obtain ⟨v',h1,rfl,rfl⟩:=he
  obtain ⟨u,q1,q2⟩:=hl.get h1
  refine Done.same I u ?_ q2
  simp [execOp,ho,hxe,Instr.extract,q1]
 ·cases he
theorem extract_list (l:List Value) (off n:Nat):(Array.extract ⟨l⟩ off (off + n)) = ⟨(l.drop off).take n⟩:=by
 simp
theorem run_part {t:TypeId} {g:Bool} {n:Nat} (hn:ldT T t = some (g,n)) {off:Nat} {cs:List AV} {l:List Value} (hl:RepL T G w cs l) (hle:off + n ≤ cs.length) {v:AV} (hv:whole g ((cs.drop off).take n) = some v):
  ∃ u,(part t ⟨l⟩ off).run T.P w = .ok u w∧RepV T G w v u:=by
 have hlen:=hl.length
 unfold ldT at hn
 split at hn
 ·rename_i m h1 h2
  cases hn
  refine ⟨.agg ⟨(l.drop off).take n⟩,?_,?_⟩
  ·simp only [part,Sem.run_bind,run_aggT h1,Result.andThen,if_true,run_szT h2,Sem.run_pure,extract_list]
  ·exact whole_rep hv ((hl.drop off).take n) (fun _=>rfl) (fun hh=>by cases hh)
 ·rename_i m h1 h2
  cases hn
  have hlt:off < l.length:=by omega
  refine ⟨l[off],?_,?_⟩
  ·simp only [part,Sem.run_bind,run_aggT h1,Result.andThen,Bool.false_eq_true,if_false]
   simp [hlt]
  ·refine whole_rep hv ((hl.drop off).take 1) (fun hh=>by cases hh) (fun _=>?_)
   rw [List.drop_eq_getElem_cons hlt]
   rfl
 ·cases hn
theorem sim_field (I:Inv T E G h w) (hF:RepL T G w F.t a.tmps.toList) {o:Oper} {t:TypeId} {x:Operand} {sx:SOpd} {i:Nat} {fs:Array Field} {f:Field} {g:Bool} {n:Nat} (ho:o.op = .field t x i) (hu:T.P.underlying t = some (.struct fs)) (hf:fs[i]? = some f)
  (hn:ldT T f.type = some (g,n)) (hx:cOpd T x = some sx) {v:AV} {h':AHeap} (he:ev1 E F h (.field g f.offset n sx) = some (v,h')):Done T E G w v h' (execOp a.eval o):=by
 have hxr:=opd_rep I hF hx
 simp only [ev1] at he
 split at he
 ·rename_i cs e1
  rw [e1] at hxr
  simp only [RepV] at hxr
  obtain ⟨l,hxe,hl⟩:=hxr
  split at he
  ·rename_i hle
   simp only [Option.map_eq_some_iff,Prod.mk.injEq] at he
   obtain ⟨v',h1,rfl,rfl⟩:=he
   obtain ⟨u,q1,q2⟩:=run_part hn hl hle h1
   refine Done.same I u ?_ q2
   simp [execOp,ho,hxe,Instr.field,run_underlying hu,hf,asAgg,q1,Result.andThen]
  ·cases he
 ·cases he
theorem sim_indexArr (I:Inv T E G h w) (hF:RepL T G w F.t a.tmps.toList) {o:Oper} {t e:TypeId} {len:Nat} {x i:Operand} {sx si:SOpd} {g:Bool} {n:Nat} (ho:o.op = .index t x i) (hu:T.P.underlying t = some (.array len e))
  (hn:ldT T e = some (g,n)) (hs:szT T e = some n) (hx:cOpd T x = some sx) (hi:cOpd T i = some si) {v:AV} {h':AHeap} (he:ev1 E F h (.indexArr len g n sx si) = some (v,h')):Done T E G w v h' (execOp a.eval o):=by
 have hxr:=opd_rep I hF hx
 have hir:=opd_rep I hF hi
 simp only [ev1] at he
 split at he
 ·rename_i cs k j e1 e2
  rw [e1] at hxr; rw [e2] at hir
  simp only [RepV] at hxr hir
  obtain ⟨l,hxe,hl⟩:=hxr
  split at he
  ·rename_i hc
   obtain ⟨hc1,hc2,hc3⟩:=hc
   simp only [Option.map_eq_some_iff,Prod.mk.injEq] at he
   obtain ⟨v',h1,rfl,rfl⟩:=he
   obtain ⟨u,q1,q2⟩:=run_part hn hl hc3 h1
   refine Done.same I u ?_ q2
   simp [execOp,ho,hxe,hir,Instr.index,asIntOf,run_underlying hu,hc1,hc2,run_szT hs,q1,Result.andThen]
  ·cases he
 ·cases he
theorem sim_indexStr (I:Inv T E G h w) (hF:RepL T G w F.t a.tmps.toList) {o:Oper} {t:TypeId} {x i:Operand} {sx si:SOpd} (ho:o.op = .index t x i) (hu:T.P.underlying t = some .string)
  (hx:cOpd T x = some sx) (hi:cOpd T i = some si) {v:AV} {h':AHeap} (he:ev1 E F h (.indexStr sx si) = some (v,h')):Done T E G w v h' (execOp a.eval o):=by
 have hxr:=opd_rep I hF hx
 have hir:=opd_rep I hF hi
 simp only [ev1] at he
 split at he
 ·rename_i s k j e1 e2
  rw [e1] at hxr; rw [e2] at hir
  simp only [RepV] at hxr hir
  split at he
  ·rename_i hc1
   simp only [Option.map_eq_some_iff,Prod.mk.injEq] at he
   obtain ⟨c,h1,rfl,rfl⟩:=he
   have hb:(ByteArray.mk ⟨s⟩)[j.toNat]? = some c:=by
    have hlt:=(List.getElem?_eq_some_iff.1 h1).1
    have hget:=(List.getElem?_eq_some_iff.1 h1).2
    have hlt':j.toNat < (ByteArray.mk ⟨s⟩).size:=by simpa [ByteArray.size] using hlt
    rw [getElem?_pos (ByteArray.mk ⟨s⟩) j.toNat hlt']
    exact congrArg some hget
   refine Done.same I (.int .u8 c.toNat) ?_ (by simp only [RepV])
   simp [execOp,ho,hxr,hir,Instr.index,asIntOf,run_underlying hu,hc1,hb]
  ·cases he
 ·cases he
theorem pin_drop {cs:List AV} {off:Nat} (hlt:off < cs.length) {r o:Nat} {m:Nat} (h2:G.vals r = some m) (h3:o + cs.length ≤ m) (h4:RepM T G w r o cs):RepV T G w (.pin (cs.drop off)) (.pointer (some ⟨r,o + off,none⟩)):=by
 simp only [RepV]
 exact ⟨r,o + off,m,rfl,h2,by simp; omega,h4.drop off (by omega)⟩
theorem sim_fieldAddr (I:Inv T E G h w) (hF:RepL T G w F.t a.tmps.toList) {o:Oper} {t:TypeId} {x:Operand} {sx:SOpd} {i:Nat} {fs:Array Field} {f:Field} {n:Nat} (ho:o.op = .fieldAddr t x i) (hu:T.P.underlying t = some (.struct fs)) (hf:fs[i]? = some f)
  (hn:szT T f.type = some n) (hpos:0 < n) (hx:cOpd T x = some sx) {v:AV} {h':AHeap} (he:ev1 E F h (.fieldAddr f.offset sx) = some (v,h')):Done T E G w v h' (execOp a.eval o):=by
 have hxr:=opd_rep I hF hx
 have hne:n ≠ 0:=by omega
 have hrun:∀ (r off:Nat),a.eval x = .pointer (some ⟨r,off,none⟩)→(execOp a.eval o).run T.P w = .ok (.value (.pointer (some ⟨r,off + f.offset,none⟩))) w:=by
  intro r off hxe
  simp [execOp,ho,hxe,Instr.fieldAt,run_underlying hu,hf,Instr.sureAddr,fieldPlace,run_szT hn,hne,add_at,Result.andThen]
 simp only [ev1] at he
 split at he
 ·rename_i b off e1
  cases he
  rw [e1] at hxr
  simp only [RepV] at hxr
  obtain ⟨r,hr,hxe⟩:=hxr
  exact Done.same I _ (hrun r off hxe) (by simp only [RepV]; exact ⟨r,hr,rfl⟩)
 ·rename_i cs e1
  split at he
  ·rename_i hlt
   cases he
   rw [e1] at hxr
   simp only [RepV] at hxr
   obtain ⟨r,off,m,hxe,h2,h3,h4⟩:=hxr
   exact Done.same I _ (hrun r off hxe) (pin_drop hlt h2 h3 h4)
  ·cases he
 ·cases he
theorem sim_indexAddrArr (I:Inv T E G h w) (hF:RepL T G w F.t a.tmps.toList) {o:Oper} {t e:TypeId} {len n:Nat} {x i:Operand} {sx si:SOpd} (ho:o.op = .indexAddr t x i) (hu:T.P.underlying t = some (.array len e))
  (hn:szT T e = some n) (hx:cOpd T x = some sx) (hi:cOpd T i = some si) {v:AV} {h':AHeap} (he:ev1 E F h (.indexAddrArr len n sx si) = some (v,h')):Done T E G w v h' (execOp a.eval o):=by
 have hxr:=opd_rep I hF hx
 have hir:=opd_rep I hF hi
 have hrun:∀ (r off:Nat) (k:IntKind) (j:Int),a.eval x = .pointer (some ⟨r,off,none⟩)→a.eval i = .int k j→0 ≤ j→j < (len:Int)→(execOp a.eval o).run T.P w = .ok (.value (.pointer (some ⟨r,off + j.toNat * n,none⟩))) w:=by
  intro r off k j hxe hie h0 h1
  simp [execOp,ho,hxe,hie,Instr.indexAt,asIntOf,run_underlying hu,Instr.sureAddr,run_szT hn,h0,h1,add_at,Result.andThen]
 simp only [ev1] at he
 split at he
 ·rename_i b off k j e1 e2
  split at he
  ·rename_i hc
   cases he
   rw [e1] at hxr; rw [e2] at hir
   simp only [RepV] at hxr hir
   obtain ⟨r,hr,hxe⟩:=hxr
   exact Done.same I _ (hrun r off k j hxe hir hc.1 hc.2) (by simp only [RepV]; exact ⟨r,hr,rfl⟩)
  ·cases he
 ·rename_i cs k j e1 e2
  split at he
  ·rename_i hc
   cases he
   rw [e1] at hxr; rw [e2] at hir
   simp only [RepV] at hxr hir
   obtain ⟨r,off,m,hxe,h2,h3,h4⟩:=hxr
   exact Done.same I _ (hrun r off k j hxe hir hc.1 hc.2.1) (pin_drop hc.2.2 h2 h3 h4)
  ·cases he
 ·cases he
theorem sim_indexAddrVs (I:Inv T E G h w) (hF:RepL T G w F.t a.tmps.toList) {o:Oper} {t e:TypeId} {n:Nat} {x i:Operand} {sx si:SOpd} (ho:o.op = .indexAddr t x i) (hu:T.P.underlying t = some (.slice e))
  (hn:szT T e = some n) (hx:cOpd T x = some sx) (hi:cOpd T i = some si) {v:AV} {h':AHeap} (he:ev1 E F h (.indexAddrVs n sx si) = some (v,h')):Done T E G w v h' (execOp a.eval o):=by
 have hxr:=opd_rep I hF hx
 have hir:=opd_rep I hF hi
 have hrun:∀ (r off len cap:Nat) (k:IntKind) (j:Int),a.eval x = .slice (some ⟨r,off,none⟩) len cap→a.eval i = .int k j→0 ≤ j→j < (len:Int)→(execOp a.eval o).run T.P w = .ok (.value (.pointer (some ⟨r,off + j.toNat * n,none⟩))) w:=by
  intro r off len cap k j hxe hie h0 h1
  simp [execOp,ho,hxe,hie,Instr.indexAt,asIntOf,run_underlying hu,run_szT hn,h0,h1,add_at,Result.andThen]
 simp only [ev1] at he
 split at he
 ·rename_i own len cs k j e1 e2
  split at he
  ·rename_i hc
   cases he
   rw [e1] at hxr; rw [e2] at hir
   simp only [RepV] at hxr hir
   obtain ⟨ad,cap,hxe,_,_,_,_,h5,_⟩:=hxr
   obtain ⟨r,off,m,rfl,h2,h3,h4⟩:=h5 (by intro hcs; have:=hc.2.2; rw [hcs] at this; simp at this)
   exact Done.same I _ (hrun r off len cap k j hxe hir hc.1 hc.2.1) (pin_drop hc.2.2 h2 h3 h4)
  ·cases he
 ·rename_i b off len k j e1 e2
  split at he
  ·rename_i hc
   cases he
   rw [e1] at hxr; rw [e2] at hir
   simp only [RepV] at hxr hir
   obtain ⟨r,cap,hr,hxe,_⟩:=hxr
   exact Done.same I _ (hrun r off len cap k j hxe hir hc.1 hc.2) (by simp only [RepV]; exact ⟨r,hr,rfl⟩)
  ·cases he
 ·rename_i b sz len k j e1 e2
  split at he
  ·rename_i hc
   cases he
   rw [e1] at hxr; rw [e2] at hir
   simp only [RepV] at hxr hir
   obtain ⟨r,cap,_,_,_,hr,hxe,_⟩:=hxr
   exact Done.same I _ (hrun r 0 len cap k j hxe hir hc.1 hc.2.1) (by simp only [RepV,Nat.zero_add]; exact ⟨r,hr,rfl⟩)
  ·cases he
 ·cases he
end Go.Pv
/- The model's operations do what the evaluator's do: slices of slices, conversions, maps, lengths. Conditions: none; lemmas. -/
namespace Go.Pv
open Go.RowKit
variable {T:Tie} {E:Env} {G:Ghost} {h:AHeap} {w:World} {F:Fr} {a:Act}
theorem run_sliceBound {v:AV} {u:Value} {y y' n:Nat} (hi:idx v y = some n) (hy:y ≤ y') (hv:RepV T G w v u) (code:BoundsCode):n ≤ y∧(Instr.sliceBound u y' code).run T.P w = .ok n w:=by
 unfold idx at hi
 split at hi
 ·rename_i k i
  split at hi
  ·rename_i hc
   cases hi
   simp only [RepV] at hv
   subst hv
   have h2:i ≤ (y':Int):=by omega
   exact ⟨by omega,by simp [Instr.sliceBound,asIntOf,hc.1,h2]⟩
  ·cases hi
 ·cases hi
def RepO (T:Tie) (G:Ghost) (w:World):Option AV→Option Value→Prop
 | none,none=>True
 | some v,some u=>RepV T G w v u
 | _,_=>False
theorem run_sliceBounds {len cap:Nat} {lo hi:Option AV} {lo' hi':Option Value} {l u m:Nat} (hb:bounds len len lo hi none = some (l,u,m)) (hcap:len ≤ cap) (hlo:RepO T G w lo lo') (hhi:RepO T G w hi hi') (b:Bool):
  m = len∧l ≤ u∧u ≤ len∧(Instr.sliceBounds b len cap lo' hi' none).run T.P w = .ok (l,u,cap) w:=by
 unfold bounds at hb
 simp only [Option.isSome_none,Bool.false_eq_true,if_false] at hb
 cases hi with
 | none=>
  cases hi' with
  | some _=>exact hhi.elim
  | none=>
   simp only at hb
   cases lo with
   | none=>
    cases lo' with
    | some _=>exact hlo.elim
    | none=>cases hb; exact ⟨rfl,by omega,by omega,by simp [Instr.sliceBounds]⟩
   | some v=>
    cases lo' with
    | none=>exact hlo.elim
    | some v'=>
     simp only at hb
     split at hb
     ·cases hb
     ·rename_i x hx
      cases hb
      obtain ⟨h1,h2⟩:=run_sliceBound hx (Nat.le_refl _) hlo .sliceB
      exact ⟨rfl,h1,Nat.le_refl _,by simp [Instr.sliceBounds,h2,Result.andThen]⟩
 | some hv=>
  cases hi' with
  | none=>exact hhi.elim
  | some hv'=>
   simp only at hb
   split at hb
   ·cases hb
   ·rename_i x hx
    obtain ⟨h1,h2⟩:=run_sliceBound hx hcap hhi (if b then .sliceAcap else .sliceAlen)
    cases lo with
    | none=>
     cases lo' with
     | some _=>exact hlo.elim
     | none=>cases hb; exact ⟨rfl,by omega,h1,by simp [Instr.sliceBounds,h2,Result.andThen]⟩
    | some v=>
     cases lo' with
     | none=>exact hlo.elim
     | some v'=>
      simp only at hb
      split at hb
      ·cases hb
      ·rename_i y hy
       cases hb
       obtain ⟨h3,h4⟩:=run_sliceBound hy (Nat.le_refl _) hlo .sliceB
       exact ⟨rfl,h3,h1,by simp [Instr.sliceBounds,h2,h4,Result.andThen]⟩
theorem run_sliceBounds3 {len cap:Nat} {lo hi:Option AV} {mx:AV} {lo' hi':Option Value} {mx':Value} {l u m:Nat} (hb:bounds len len lo hi (some mx) = some (l,u,m)) (hcap:len ≤ cap) (hlo:RepO T G w lo lo') (hhi:RepO T G w hi hi') (hmx:RepV T G w mx mx'):
  l ≤ u∧u ≤ m∧m ≤ len∧(Instr.sliceBounds true len cap lo' hi' (some mx')).run T.P w = .ok (l,u,m) w:=by
 unfold bounds at hb
 simp only [Option.isSome_some,if_true] at hb
 split at hb
 ·cases hb
 ·rename_i m0 hm
  obtain ⟨a1,a2⟩:=run_sliceBound hm hcap hmx .slice3Acap
  cases hi with
  | none=>simp at hb
  | some hv=>
   cases hi' with
   | none=>exact hhi.elim
   | some hv'=>
    simp only at hb
    split at hb
    ·cases hb
    ·rename_i x hx
     obtain ⟨h1,h2⟩:=run_sliceBound hx (Nat.le_refl _) hhi .slice3B
     cases lo with
     | none=>
      cases lo' with
      | some _=>exact hlo.elim
      | none=>cases hb; exact ⟨by omega,h1,a1,by simp [Instr.sliceBounds,a2,h2,Result.andThen]⟩
     | some v=>
      cases lo' with
      | none=>exact hlo.elim
      | some v'=>
       simp only at hb
       split at hb
       ·cases hb
       ·rename_i y hy
        cases hb
        obtain ⟨h3,h4⟩:=run_sliceBound hy (Nat.le_refl _) hlo .slice3C
        exact ⟨h3,h1,a1,by simp [Instr.sliceBounds,a2,h2,h4,Result.andThen]⟩
theorem cOpt_rep (I:Inv T E G h w) (hF:RepL T G w F.t a.tmps.toList) {x:Option Operand} {s:Option SOpd} (hx:cOpt T x = some s):RepO T G w (s.map (opd E F)) (x.map a.eval):=by
 cases x with
 | none=>simp only [cOpt] at hx; cases hx; trivial
 | some x=>
  simp only [cOpt,Option.map_eq_some_iff] at hx
  obtain ⟨y,h1,rfl⟩:=hx
  exact opd_rep I hF h1
theorem bytes_extract (s:List UInt8) (l u:Nat):(ByteArray.mk ⟨s⟩).extract l u = ⟨⟨(s.take u).drop l⟩⟩:=by
 have:((ByteArray.mk ⟨s⟩).extract l u).data = ⟨(s.take u).drop l⟩:=by
  rw [ByteArray.data_extract]
  simp [List.drop_take]
 cases h1:(ByteArray.mk ⟨s⟩).extract l u
 rw [h1] at this
 simp only at this
 rw [this]
theorem sim_sliceStr (I:Inv T E G h w) (hF:RepL T G w F.t a.tmps.toList) {o:Oper} {t:TypeId} {x:Operand} {lo hi:Option Operand} {sx:SOpd} {slo shi:Option SOpd} (ho:o.op = .slice t x lo hi none) (hu:T.P.underlying t = some .string)
  (hx:cOpd T x = some sx) (hlo:cOpt T lo = some slo) (hhi:cOpt T hi = some shi) {v:AV} {h':AHeap} (he:ev1 E F h (.sliceStr sx slo shi) = some (v,h')):Done T E G w v h' (execOp a.eval o):=by
 have hxr:=opd_rep I hF hx
 have hlr:=cOpt_rep I hF hlo
 have hhr:=cOpt_rep I hF hhi
 simp only [ev1] at he
 split at he
 ·rename_i s e1
  rw [e1] at hxr
  simp only [RepV] at hxr
  split at he
  ·rename_i l u m hb
   cases he
   obtain ⟨_,h1,h2,h3⟩:=run_sliceBounds hb (Nat.le_refl _) hlr hhr false
   refine Done.same I (.string ⟨⟨(s.take u).drop l⟩⟩) ?_ (by simp only [RepV])
   have hsz:(ByteArray.mk ⟨s⟩).size = s.length:=by simp [ByteArray.size]
   simp [execOp,ho,hxr,Instr.sliceAt,Instr.slice,run_underlying hu,hsz,h3,Result.andThen,bytes_extract]
  ·cases he
 ·cases he
theorem vs_cut {own own':Own} {len:Nat} {cs:List AV} {ad:Option Addr} {cap size l u m:Nat} (hv:RepV T G w (.vs own len cs) (.slice ad len cap)) (hcs:cs.length = len * size) (hlu:l ≤ u) (hul:u ≤ len) (hum:u ≤ m)
  (hown:own' = .full→m = u) (hnt:∀ k sz,own' ≠ .tok k sz):
  RepV T G w (.vs own' (u - l) ((cs.take (u * size)).drop (l * size))) (.slice (if m = l then ad else ad.map (·.add (l * size))) (u - l) (m - l)):=by
 simp only [RepV] at hv ⊢
 obtain ⟨ad',cap',hve,h2,h3,h3',h4,h5,h6⟩:=hv
 cases hve
 refine ⟨_,_,rfl,by omega,fun ho=>by have:=hown ho; omega,?_,fun k sz ho=>absurd ho (hnt k sz),?_,?_⟩
 ·intro hn
  have:ad = none:=by
   split at hn
   ·exact hn
   ·simpa using hn
  have:=h3' this
  omega
 ·intro hne
  have hlen:((cs.take (u * size)).drop (l * size)).length = (u - l) * size:=by
   have:u * size ≤ cs.length:=by rw [hcs]; exact Nat.mul_le_mul_right _ hul
   simp only [List.length_drop,List.length_take]
   rw [Nat.sub_mul]
   omega
  have hpos:0 < (u - l) * size:=by
   rw [← hlen]
   exact List.length_pos_iff.2 hne
  have hul':l < u:=by
   rcases Nat.lt_or_ge l u with hh | hh
   ·exact hh
   ·have:u - l = 0:=by omega
    rw [this] at hpos
    simp at hpos
  have hcne:cs ≠ []:=by
   intro hc
   rw [hc] at hne
   simp at hne
  obtain ⟨r,off,mm,rfl,q2,q3,q4⟩:=h5 hcne
  have hle:u * size ≤ cs.length:=by rw [hcs]; exact Nat.mul_le_mul_right _ hul
  have hl2:l * size ≤ u * size:=Nat.mul_le_mul_right _ hlu
  refine ⟨r,off + l * size,mm,?_,q2,?_,?_⟩
  ·rw [if_neg (by omega)]
   simp [add_at]
  ·rw [hlen,Nat.sub_mul]
   omega
  ·exact (q4.take (u * size)).drop (l * size) (by simp; omega)
 ·intro h0
  have:u = l:=by omega
  subst this
  exact List.eq_nil_of_length_eq_zero (by simp)
theorem sim_sliceVs (I:Inv T E G h w) (hF:RepL T G w F.t a.tmps.toList) {o:Oper} {t e:TypeId} {n:Nat} {x:Operand} {lo hi mx:Option Operand} {sx:SOpd} {slo shi smx:Option SOpd} (ho:o.op = .slice t x lo hi mx) (hu:T.P.underlying t = some (.slice e)) (hn:szT T e = some n)
  (hx:cOpd T x = some sx) (hlo:cOpt T lo = some slo) (hhi:cOpt T hi = some shi) (hmx:cOpt T mx = some smx) {v:AV} {h':AHeap} (he:ev1 E F h (.sliceVs n sx slo shi smx) = some (v,h')):Done T E G w v h' (execOp a.eval o):=by
 have hxr:=den_rep (opd_rep I hF hx)
 have hlr:=cOpt_rep I hF hlo
 have hhr:=cOpt_rep I hF hhi
 have hmr:=cOpt_rep I hF hmx
 simp only [ev1] at he
 split at he
 ·rename_i own len cs e1
  rw [e1] at hxr
  split at he
  ·rename_i hcs
   have hxr':=hxr
   simp only [RepV] at hxr'
   obtain ⟨ad,cap,hxe,hcap,hfull,_⟩:=hxr'
   rw [hxe] at hxr
   cases hmo:smx.map (opd E F) with
   | none=>
    have hmx0:mx.map a.eval = none:=by
     cases hm2:mx.map a.eval with
     | none=>rfl
     | some _=>rw [hmo,hm2] at hmr; exact hmr.elim
    rw [hmo] at he
    have key:∀ (own':Own),(own' = .full→∀ l u:Nat,u = len→cap = u)→(∀ k sz,own' ≠ .tok k sz)→∀ (l u m:Nat),bounds len len (slo.map (opd E F)) (shi.map (opd E F)) none = some (l,u,m)→(own' = .full→u = len) →
      Done T E G w (.vs own' (u - l) ((cs.take (u * n)).drop (l * n))) h (execOp a.eval o):=by
     intro own' hf1 hnt l u m hb hfu
     obtain ⟨_,h1,h2,h3⟩:=run_sliceBounds hb hcap hlr hhr true
     refine Done.same I _ ?_ (vs_cut (m:=cap) hxr hcs h1 h2 (by omega) (fun hf=>hf1 hf l u (hfu hf)) hnt)
     simp [execOp,ho,hxe,hmx0,Instr.sliceAt,Instr.slice,run_underlying hu,h3,run_szT hn,Result.andThen]
    cases own with
    | full=>
     simp only at he
     split at he
     ·rename_i l u m hb
      cases he
      refine key _ (fun _ l u hul=>by have:=hfull rfl; omega) (fun k sz=>by split <;> simp) l u m hb (fun hf=>by
       split at hf
       ·assumption
       ·cases hf)
     ·cases he
    | shared=>
     simp only at he
     split at he
     ·rename_i l u m hb
      cases he
      refine key _ (fun hf=>by split at hf <;> cases hf) (fun k sz=>by split <;> simp) l u m hb (fun hf=>by split at hf <;> cases hf)
     ·cases he
    | tok k0 sz0=>
     simp only at he
     split at he
     ·rename_i l u m hb
      cases he
      refine key _ (fun hf=>by split at hf <;> cases hf) (fun k sz=>by split <;> simp) l u m hb (fun hf=>by split at hf <;> cases hf)
     ·cases he
   | some mv=>
    rw [hmo] at he
    obtain ⟨mv',hm2⟩:∃ mv',mx.map a.eval = some mv':=by
     cases hm2:mx.map a.eval with
     | none=>rw [hmo,hm2] at hmr; exact hmr.elim
     | some y=>exact ⟨y,rfl⟩
    rw [hmo,hm2] at hmr
    have he':(match bounds len len (slo.map (opd E F)) (shi.map (opd E F)) (some mv) with
      | some (l,u,m)=>some (AV.vs (if u = m then .full else .shared) (u - l) ((cs.take (u * n)).drop (l * n)),h)
      | none=>none) = some (v,h'):=by
     cases own <;> exact he
    split at he'
    ·rename_i l u m hb
     cases he'
     obtain ⟨h1,h2,h3,h4⟩:=run_sliceBounds3 hb hcap hlr hhr hmr
     refine Done.same I _ ?_ (vs_cut (m:=m) hxr hcs h1 (by omega) h2 (fun hf=>by
       split at hf
       ·omega
       ·cases hf) (fun k sz=>by split <;> simp))
     simp [execOp,ho,hxe,hm2,Instr.sliceAt,Instr.slice,run_underlying hu,h4,run_szT hn,Result.andThen]
    ·cases he'
  ·cases he
 ·rename_i b off len e1
  rw [e1] at hxr
  simp only [RepV] at hxr
  obtain ⟨r,cap,hr,hxe,hcap⟩:=hxr
  split at he
  ·rename_i l u m hb
   split at he
   ·rename_i hll
    cases he
    cases mx with
    | some _=>simp [RepO] at hmr
    | none=>
     obtain ⟨_,h1,h2,h3⟩:=run_sliceBounds hb hcap hlr hhr true
     refine Done.same I _ ?_ (by simp only [RepV]; exact ⟨r,cap - l,hr,rfl,by omega⟩)
     have hne:¬ cap = l:=by omega
     simp [execOp,ho,hxe,Instr.sliceAt,Instr.slice,run_underlying hu,h3,run_szT hn,Result.andThen,hne,add_at]
   ·cases he
  ·cases he
 ·rename_i b sz len e1
  rw [e1] at hxr
  simp only [RepV] at hxr
  obtain ⟨r,cap,c,e0,fz,hr,hxe,hcap,hpos,hh,hsz⟩:=hxr
  split at he
  ·rename_i l u m hb
   split at he
   ·rename_i hll
    subst hll
    cases he
    cases mx with
    | some _=>simp [RepO] at hmr
    | none=>
     obtain ⟨_,h1,h2,h3⟩:=run_sliceBounds hb hcap hlr hhr true
     refine Done.same I _ ?_ (by simp only [RepV]; exact ⟨r,cap,c,e0,fz,hr,rfl,by omega,hpos,hh,hsz⟩)
     have hne:¬ cap = 0:=by omega
     simp [execOp,ho,hxe,Instr.sliceAt,Instr.slice,run_underlying hu,h3,run_szT hn,Result.andThen,hne,add_at]
   ·cases he
  ·cases he
 ·cases he
theorem sim_sliceArr (I:Inv T E G h w) (hF:RepL T G w F.t a.tmps.toList) {o:Oper} {t e:TypeId} {len n:Nat} {x:Operand} {lo hi:Option Operand} {sx:SOpd} {slo shi:Option SOpd} (ho:o.op = .slice t x lo hi none) (hu:T.P.underlying t = some (.array len e)) (hn:szT T e = some n)
  (hx:cOpd T x = some sx) (hlo:cOpt T lo = some slo) (hhi:cOpt T hi = some shi) {v:AV} {h':AHeap} (he:ev1 E F h (.sliceArr len n sx slo shi) = some (v,h')):Done T E G w v h' (execOp a.eval o):=by
 have hxr:=opd_rep I hF hx
 have hlr:=cOpt_rep I hF hlo
 have hhr:=cOpt_rep I hF hhi
 simp only [ev1] at he
 split at he
 ·rename_i cs e1
  rw [e1] at hxr
  simp only [RepV] at hxr
  obtain ⟨r,off,mm,hxe,q2,q3,q4⟩:=hxr
  split at he
  ·rename_i hcs
   split at he
   ·rename_i l u m hb
    cases he
    obtain ⟨_,h1,h2,h3⟩:=run_sliceBounds hb (Nat.le_refl _) hlr hhr false
    by_cases hlen:len = 0
    ·have hl0:l = 0:=by omega
     have hu0:u = 0:=by omega
     subst hlen
     subst hl0
     subst hu0
     refine Done.same I (.slice (some ⟨r,off,none⟩) 0 0) ?_ ?_
     ·simp [execOp,ho,hxe,Instr.sliceAt,run_underlying hu,Instr.sureAddr,h3,run_szT hn,Result.andThen]
     ·simp only [RepV]
      exact ⟨_,_,rfl,Nat.le_refl _,fun _=>rfl,(fun hh=>by cases hh),(fun k sz hh=>by simp at hh),fun hne=>absurd (by simp) hne,fun _=>by simp⟩
    ·have hbase:RepV T G w (.vs .full len cs) (.slice (some ⟨r,off,none⟩) len len):=by
      simp only [RepV]
      exact ⟨_,_,rfl,Nat.le_refl _,fun _=>rfl,(fun hh=>by cases hh),(fun k sz hh=>by cases hh),fun _=>⟨r,off,mm,rfl,q2,q3,q4⟩,fun h0=>absurd h0 hlen⟩
     have hc:=vs_cut (own':=if u = len then .full else .shared) (m:=len) hbase hcs h1 h2 h2 (fun hf=>by
      split at hf
      ·omega
      ·cases hf) (fun k sz=>by split <;> simp)
     refine Done.same I _ ?_ hc
     simp [execOp,ho,hxe,Instr.sliceAt,run_underlying hu,Instr.sureAddr,h3,run_szT hn,Result.andThen]
     split <;> rfl
   ·cases he
  ·cases he
 ·rename_i b off e1
  rw [e1] at hxr
  simp only [RepV] at hxr
  obtain ⟨r,hr,hxe⟩:=hxr
  split at he
  ·rename_i l u m hb
   split at he
   ·rename_i hll
    cases he
    obtain ⟨_,h1,h2,h3⟩:=run_sliceBounds hb (Nat.le_refl _) hlr hhr false
    refine Done.same I (.slice (some ⟨r,off + l * n,none⟩) (u - l) (len - l)) ?_ (by simp only [RepV]; exact ⟨r,len - l,hr,rfl,by omega⟩)
    have hne:¬ len = l:=by omega
    simp [execOp,ho,hxe,Instr.sliceAt,run_underlying hu,Instr.sureAddr,h3,run_szT hn,Result.andThen,hne,add_at]
   ·cases he
  ·cases he
 ·cases he
end Go.Pv
/- The model's operations do what the evaluator's do: conversions, lengths, maps, append. Conditions: none; lemmas. -/
namespace Go.Pv
open Go.RowKit
variable {T:Tie} {E:Env} {G:Ghost} {h:AHeap} {w:World} {F:Fr} {a:Act}
theorem sliceCells_rep (I:Inv T E G h w) {size len:Nat} {v:AV} {u:Value} {cs:List AV} (hs:sliceCells h size v = some (len,cs)) (hv:RepV T G w v u):
  cs.length = len * size∧((∃ (ad:Option Addr) (cap:Nat) (l:List Value),u = .slice ad len cap∧RepL T G w cs l∧(ad = none→l = [])∧(∀ ad',ad = some ad'→∃ r off,(l ≠ []→ad' = ⟨r,off,none⟩)∧∀ j x,l[j]? = some x→w.cell? ⟨r,off + j,none⟩ = some x)) ∨
   (∃ s:List UInt8,u = .string ⟨⟨s⟩⟩∧size = 1∧len = s.length∧cs = s.map fun c=>.int .u8 c.toNat)):=by
 unfold sliceCells at hs
 split at hs
 ·rename_i own n cells
  split at hs
  ·rename_i hc
   cases hs
   refine ⟨hc,.inl ?_⟩
   simp only [RepV] at hv
   obtain ⟨ad,cap,rfl,h2,h3,h3',h4,h5,h6⟩:=hv
   by_cases hne:cs = []
   ·subst hne
    exact ⟨ad,cap,[],rfl,by simp only [RepL],fun _=>rfl,fun ad' _=>⟨0,0,fun hh=>absurd rfl hh,by simp⟩⟩
   ·obtain ⟨r,off,m,rfl,q2,q3,q4⟩:=h5 hne
    obtain ⟨l,a1,a2⟩:=q4.list
    exact ⟨_,cap,l,rfl,a1,(fun hh=>by cases hh),fun ad' had=>⟨r,off,fun _=>by cases had; rfl,a2⟩⟩
  ·cases hs
 ·rename_i b off n
  split at hs
  ·rename_i old hb
   split at hs
   ·rename_i hle
    cases hs
    simp only [RepV] at hv
    obtain ⟨r,cap,hr,rfl,_⟩:=hv
    obtain ⟨l,tail,e,fz,h1,h2,h3⟩:=I.blk b _ r hb hr
    have hlen:=h3.length
    refine ⟨by simp; omega,.inl ⟨_,cap,(l.drop off).take (len * size),rfl,(h3.drop off).take _,(fun hh=>by cases hh),fun ad' had=>⟨r,off,fun _=>by cases had; rfl,fun j x hj=>?_⟩⟩⟩
    simp only [World.cell?,h1]
    rw [List.getElem?_take] at hj
    split at hj
    ·rw [List.getElem?_drop] at hj
     have hlt:=(List.getElem?_eq_some_iff.1 hj).1
     simp [List.getElem?_append_left hlt,hj]
    ·cases hj
   ·cases hs
  ·cases hs
 ·rename_i b sz n
  split at hs
  ·rename_i old hb
   split at hs
   ·rename_i hle
    cases hs
    simp only [RepV] at hv
    obtain ⟨r,cap,_,_,_,hr,rfl,_⟩:=hv
    obtain ⟨l,tail,e,fz,h1,h2,h3⟩:=I.blk b _ r hb hr
    have hlen:=h3.length
    refine ⟨by simp; omega,.inl ⟨_,cap,l.take (len * size),rfl,h3.take _,(fun hh=>by cases hh),fun ad' had=>⟨r,0,fun _=>by cases had; rfl,fun j x hj=>?_⟩⟩⟩
    simp only [World.cell?,h1]
    rw [List.getElem?_take] at hj
    split at hj
    ·have hlt:=(List.getElem?_eq_some_iff.1 hj).1
     simp [List.getElem?_append_left hlt,hj]
    ·cases hj
   ·cases hs
  ·cases hs
 ·cases hs
  simp only [RepV] at hv
  exact ⟨by simp,.inl ⟨none,0,[],hv,by simp only [RepL],fun _=>rfl,fun ad' had=>by cases had⟩⟩
 ·rename_i s
  split at hs
  ·rename_i h1
   cases hs
   simp only [RepV] at hv
   exact ⟨by simp [h1],.inr ⟨s,hv,h1,rfl,rfl⟩⟩
  ·cases hs
 ·cases hs
theorem bytesOf_vals:∀ {cs:List AV} {s:List UInt8} {l:List Value},bytesOf cs = some s→RepL T G w cs l→∃ xs:List Int,l = xs.map (Value.int .u8)∧s = xs.map fun n=>UInt8.ofNat n.toNat
 | [],s,l,hb,hl=>by
  simp only [bytesOf] at hb
  cases hb
  simp only [RepL] at hl
  exact ⟨[],hl,rfl⟩
 | c :: cs,s,l,hb,hl=>by
  simp only [RepL] at hl
  obtain ⟨x,xs,rfl,h2,h3⟩:=hl
  unfold bytesOf at hb
  split at hb
  ·rename_i q1; cases q1
  ·rename_i n r q1
   cases q1
   simp only [Option.map_eq_some_iff] at hb
   obtain ⟨s',q2,rfl⟩:=hb
   obtain ⟨ys,q3,q4⟩:=bytesOf_vals q2 h3
   simp only [RepV] at h2
   exact ⟨n :: ys,by simp [h2,q3],by simp [q4]⟩
  ·cases hb
theorem sim_conv_int (I:Inv T E G h w) (hF:RepL T G w F.t a.tmps.toList) {o:Oper} {src dst:TypeId} {k0 k:IntKind} {x:Operand} {sx:SOpd} (ho:o.op = .convert src dst x) (hs:T.P.underlying src = some (.int k0)) (hd:T.P.underlying dst = some (.int k)) (hx:cOpd T x = some sx) {v:AV} {h':AHeap}
  (he:ev1 E F h (.conv (.int k) sx) = some (v,h')):Done T E G w v h' (execOp a.eval o):=by
 have hxr:=opd_rep I hF hx
 simp only [ev1] at he
 split at he
 ·rename_i k2 n e1
  cases he
  rw [e1] at hxr
  simp only [RepV] at hxr
  exact Done.same I (.int k (k.wrap n)) (by simp [execOp,ho,hxr,convert,run_underlying hs,run_underlying hd,Conv.intToInt,Result.andThen]) (by simp only [RepV])
 ·cases he
theorem sim_conv_ofInt (I:Inv T E G h w) (hF:RepL T G w F.t a.tmps.toList) {o:Oper} {src dst:TypeId} {k0:IntKind} {x:Operand} {sx:SOpd} (ho:o.op = .convert src dst x) (hs:T.P.underlying src = some (.int k0)) (hd:T.P.underlying dst = some .string) (hx:cOpd T x = some sx) {v:AV} {h':AHeap}
  (he:ev1 E F h (.conv .ofInt sx) = some (v,h')):Done T E G w v h' (execOp a.eval o):=by
 have hxr:=opd_rep I hF hx
 simp only [ev1] at he
 split at he
 ·rename_i k2 n e1
  split at he
  ·rename_i hn
   cases he
   rw [e1] at hxr
   simp only [RepV] at hxr
   have hv:Utf8.valid n = true:=by simp [Utf8.valid]; omega
   have he:Utf8.encode n = ⟨⟨[UInt8.ofNat n.toNat]⟩⟩:=by
    simp only [Utf8.encode,hv,if_true]
    rw [if_pos (by omega)]
   exact Done.same I (.string ⟨⟨[UInt8.ofNat n.toNat]⟩⟩) (by simp [execOp,ho,hxr,convert,run_underlying hs,run_underlying hd,Conv.intToString,he,Result.andThen]) (by simp only [RepV])
  ·cases he
 ·cases he
theorem sim_conv_same (I:Inv T E G h w) (hF:RepL T G w F.t a.tmps.toList) {o:Oper} {src dst:TypeId} {x:Operand} {sx:SOpd} (ho:o.op = .convert src dst x) (hs:T.P.underlying src = some .string) (hd:T.P.underlying dst = some .string) (hx:cOpd T x = some sx) {v:AV} {h':AHeap}
  (he:ev1 E F h (.conv .same sx) = some (v,h')):Done T E G w v h' (execOp a.eval o):=by
 have hxr:=opd_rep I hF hx
 simp only [ev1] at he
 split at he
 ·rename_i s e1
  cases he
  rw [e1] at hxr
  have hxr':=hxr
  simp only [RepV] at hxr
  exact Done.same I (a.eval x) (by simp [execOp,ho,hxr,convert,run_underlying hs,run_underlying hd,Result.andThen]) hxr'
 ·cases he
theorem sim_conv_toStr (I:Inv T E G h w) (hF:RepL T G w F.t a.tmps.toList) {o:Oper} {src dst e:TypeId} {x:Operand} {sx:SOpd} (ho:o.op = .convert src dst x) (hs:T.P.underlying src = some (.slice e)) (he8:T.P.underlying e = some (.int .u8)) (hd:T.P.underlying dst = some .string) (hx:cOpd T x = some sx) {v:AV} {h':AHeap}
  (he:ev1 E F h (.conv .toStr sx) = some (v,h')):Done T E G w v h' (execOp a.eval o):=by
 have hxr:=opd_rep I hF hx
 simp only [ev1] at he
 have hns:∀ s,opd E F sx ≠ .str s:=by
  intro s hs0
  rw [hs0] at he
  simp at he
 have he:(match sliceCells h 1 (opd E F sx) with | some (_,cs)=>(bytesOf cs).map fun s=>(AV.str s,h) | none=>none) = some (v,h'):=by
  revert he
  cases opd E F sx <;> intro hh <;> first | exact hh | cases hh
 split at he
 ·rename_i n cs hsc
  simp only [Option.map_eq_some_iff,Prod.mk.injEq] at he
  obtain ⟨s,hb,rfl,rfl⟩:=he
  obtain ⟨hlen,hcase⟩:=sliceCells_rep I hsc hxr
  rcases hcase with ⟨ad,cap,l,hxe,hl,hnone,hsome⟩ | ⟨s0,_,_,_,_⟩
  ·obtain ⟨xs,q1,q2⟩:=bytesOf_vals hb hl
   subst q1
   refine Done.same I (.string (strOfNums xs)) ?_ (by simp only [RepV]; rw [q2]; rfl)
   have hll:=hl.length
   simp at hll
   have hrun:(convert src dst (a.eval x)).run T.P w = .ok (.string (strOfNums xs)) w:=by
    rw [hxe]
    cases ad with
    | none=>
     have:xs = []:=by simpa using hnone rfl
     subst this
     have:=run_convert_bytes_nil (P:=T.P) w src e hs he8 n cap dst hd
     exact this
    | some ad'=>
     obtain ⟨r,off,q3,q4⟩:=hsome ad' rfl
     by_cases hne:xs = []
     ·subst hne
      have hn0:n = 0:=by simp at hll; omega
      subst hn0
      simp [convert,run_underlying hs,run_underlying hd,run_underlying he8,Conv.bytesToString,loadCells,loadCellsFrom,Result.andThen]
      rfl
     ·have:=q3 (by simpa using hne)
      subst this
      refine run_convert_bytes_arg w src e hs he8 r off n cap xs (by omega) (fun i hi=>?_) dst hd
      have:=q4 i (.int .u8 (xs.getD i 0)) (by
       have hlt:i < xs.length:=by omega
       simp [hlt])
      exact this
   simp only [execOp,ho,Sem.run_bind,hrun,Result.andThen,Sem.run_pure]
  ·exfalso
   have:∃ s,opd E F sx = .str s:=by
    unfold sliceCells at hsc
    split at hsc
    ·rename_i e1; rw [e1] at hxr; simp only [RepV] at hxr; obtain ⟨ad,cap,hxe,_⟩:=hxr; simp_all
    ·rename_i e1; rw [e1] at hxr; simp only [RepV] at hxr; obtain ⟨ad,cap,_,hxe,_⟩:=hxr; simp_all
    ·rename_i e1; rw [e1] at hxr; simp only [RepV] at hxr; obtain ⟨ad,cap,_,_,_,_,hxe,_⟩:=hxr; simp_all
    ·rename_i e1; rw [e1] at hxr; simp only [RepV] at hxr; simp_all
    ·exact ⟨_,by assumption⟩
    ·cases hsc
   obtain ⟨s1,hs1⟩:=this
   exact hns s1 hs1
 ·cases he
theorem RepE.length:∀ {es:List (AV × AV)} {l:List MapEntry},RepE T G w es l→l.length = es.length
 | [],l,h=>by simp only [RepE] at h; simp [h]
 | e :: es,l,h=>by
  simp only [RepE] at h
  obtain ⟨x,xs,rfl,_,_,h3⟩:=h
  simp [RepE.length h3]
theorem run_getObj_of {P:Program} {w:World} {r:Nat} {o:Obj} (hr:w.heap[r]? = some o) (hc:∀ c e fz,o ≠ .cells c e fz):(getObj r).run P w = .ok o w:=by
 simp only [getObj,Sem.run,hr]
theorem run_len {o:Oper} {c:Call} {t:TypeId} {x:Operand} (ho:o.op = .call c) (hcal:c.callee = .builtin .len) (hargs:c.args.toList = [x]) (htys:c.argTypes.toList = [t]) {n:Int}
  (hn:(Builtin.len_ #[t] o.type #[a.eval x]).run T.P w = .ok (goInt n) w):(execOp a.eval o).run T.P w = .ok (.value (.int .i64 n)) w:=by
 have ha0:c.args = #[x]:=by rw [← Array.toArray_toList (xs:=c.args),hargs]
 have ht0:c.argTypes = #[t]:=by rw [← Array.toArray_toList (xs:=c.argTypes),htys]
 simp [execOp,ho,resolve,hcal,invoke,builtin,ha0,ht0,hn,goInt,Result.andThen]
theorem str_size (s:List UInt8):(ByteArray.mk ⟨s⟩).size = s.length:=by simp [ByteArray.size]
theorem sim_len_str (I:Inv T E G h w) (hF:RepL T G w F.t a.tmps.toList) {o:Oper} {c:Call} {t:TypeId} {x:Operand} {sx:SOpd} (ho:o.op = .call c) (hcal:c.callee = .builtin .len) (hargs:c.args.toList = [x]) (htys:c.argTypes.toList = [t])
  (hu:T.P.underlying t = some .string) (hx:cOpd T x = some sx) {v:AV} {h':AHeap} (he:ev1 E F h (.len .str sx) = some (v,h')):Done T E G w v h' (execOp a.eval o):=by
 have hxr:=opd_rep I hF hx
 simp only [ev1] at he
 split at he
 ·rename_i s e1
  cases he
  rw [e1] at hxr
  simp only [RepV] at hxr
  exact Done.same I (.int .i64 s.length) (run_len ho hcal hargs htys (by simp [Builtin.len_,hxr,run_underlying hu,str_size])) (by simp only [RepV])
 ·cases he
theorem sim_len_slc (I:Inv T E G h w) (hF:RepL T G w F.t a.tmps.toList) {o:Oper} {c:Call} {t e:TypeId} {x:Operand} {sx:SOpd} (ho:o.op = .call c) (hcal:c.callee = .builtin .len) (hargs:c.args.toList = [x]) (htys:c.argTypes.toList = [t])
  (hu:T.P.underlying t = some (.slice e)) (hx:cOpd T x = some sx) {v:AV} {h':AHeap} (he:ev1 E F h (.len .slc sx) = some (v,h')):Done T E G w v h' (execOp a.eval o):=by
 have hxr:=opd_rep I hF hx
 simp only [ev1] at he
 split at he
 ·rename_i own n cs e1
  cases he
  rw [e1] at hxr
  simp only [RepV] at hxr
  obtain ⟨ad,cap,hxe,_⟩:=hxr
  exact Done.same I (.int .i64 n) (run_len ho hcal hargs htys (by simp [Builtin.len_,hxe,run_underlying hu])) (by simp only [RepV])
 ·rename_i b off n e1
  cases he
  rw [e1] at hxr
  simp only [RepV] at hxr
  obtain ⟨r,cap,_,hxe,_⟩:=hxr
  exact Done.same I (.int .i64 n) (run_len ho hcal hargs htys (by simp [Builtin.len_,hxe,run_underlying hu])) (by simp only [RepV])
 ·rename_i b sz n e1
  cases he
  rw [e1] at hxr
  simp only [RepV] at hxr
  obtain ⟨r,cap,_,_,_,_,hxe,_⟩:=hxr
  exact Done.same I (.int .i64 n) (run_len ho hcal hargs htys (by simp [Builtin.len_,hxe,run_underlying hu])) (by simp only [RepV])
 ·rename_i e1
  cases he
  rw [e1] at hxr
  simp only [RepV] at hxr
  exact Done.same I (.int .i64 0) (run_len ho hcal hargs htys (by simp [Builtin.len_,hxr,run_underlying hu])) (by simp only [RepV])
 ·cases he
theorem sim_len_map (I:Inv T E G h w) (hF:RepL T G w F.t a.tmps.toList) {o:Oper} {c:Call} {t k e:TypeId} {x:Operand} {sx:SOpd} (ho:o.op = .call c) (hcal:c.callee = .builtin .len) (hargs:c.args.toList = [x]) (htys:c.argTypes.toList = [t])
  (hu:T.P.underlying t = some (.map k e)) (hx:cOpd T x = some sx) {v:AV} {h':AHeap} (he:ev1 E F h (.len .map sx) = some (v,h')):Done T E G w v h' (execOp a.eval o):=by
 have hxr:=opd_rep I hF hx
 simp only [ev1] at he
 split at he
 ·rename_i e1
  cases he
  rw [e1] at hxr
  simp only [RepV] at hxr
  exact Done.same I (.int .i64 0) (run_len ho hcal hargs htys (by simp [Builtin.len_,hxr,run_underlying hu])) (by simp only [RepV])
 ·rename_i b e1
  split at he
  ·rename_i es hb
   cases he
   rw [e1] at hxr
   simp only [RepV] at hxr
   obtain ⟨r,hr,hxe⟩:=hxr
   obtain ⟨es',ck,h1,h2⟩:=I.blk b _ r hb hr
   have hlen:=h2.length
   have hsz:es'.size = es.length:=by simpa using hlen
   exact Done.same I (.int .i64 es.length) (run_len ho hcal hargs htys (by simp [Builtin.len_,hxe,run_underlying hu,run_getObj_of h1 (by simp),Result.andThen,hsz])) (by simp only [RepV])
  ·cases he
 ·cases he
theorem sim_lenArr (I:Inv T E G h w) {o:Oper} {c:Call} {t e:TypeId} {x:Operand} {n:Nat} (ho:o.op = .call c) (hcal:c.callee = .builtin .len) (hargs:c.args.toList = [x]) (htys:c.argTypes.toList = [t])
  (hu:T.P.underlying t = some (.array n e)) {v:AV} {h':AHeap} (he:ev1 E F h (.lenArr n) = some (v,h')):Done T E G w v h' (execOp a.eval o):=by
 simp only [ev1,Option.some.injEq,Prod.mk.injEq] at he
 obtain ⟨rfl,rfl⟩:=he
 exact Done.same I (.int .i64 n) (run_len ho hcal hargs htys (by simp [Builtin.len_,run_underlying hu])) (by simp only [RepV])
end Go.Pv
