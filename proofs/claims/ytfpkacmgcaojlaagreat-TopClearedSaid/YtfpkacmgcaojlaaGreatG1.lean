import Derived.WalkKit
import Derived.OrdersIn
import Derived.Below
import Derived.ArgAppend
import Derived.Laws.StructEq
import Derived.Deep.MidRow
import Derived.Laws.Cells
import Derived.Lib.AppendZeros
set_option linter.unusedSectionVars false
set_option linter.unusedVariables false
set_option linter.unusedSimpArgs false
set_option linter.constructorNameAsVariable false
set_option maxRecDepth 100000
noncomputable section
namespace Go.AM
inductive AV where
 | u
 | s (v:Value)
 | ptr (id idx sub fr:Nat)
 | sl (sz id off len fr:Nat) (full:Bool)
 | mp (id:Nat)
 | fn (f:Nat) (caps:List AV)
 | yl (l:Nat)
 | it (id:Nat)
 | lst (sz:Nat) (nil:Bool) (es:List (List AV))
 | ep (e:List AV) (sub:Nat)
 | agg (cs:List AV)
 | tup (cs:List AV)
 deriving Inhabited

abbrev Tm:=Nat→AV
inductive AObj where
 | arr (sz:Nat) (es:List (List AV)) (own nil:Bool)
 | map (kvs:List (Value × AV))
 | dead
 | loop (m:Nat) (ps:Array Tmp) (asg body:Code) (ts:Tm) (st:LoopState) (pend:Option Code)
 | iter (m n:Nat) (seen:List Nat)
 deriving Inhabited

def upd(t:Tm)(i:Nat)(v:AV):Tm:=λj=>if j=i then v else t j
abbrev Hp:=List AObj

structure Eff where
 puts:List (Nat × AObj)
 news:List AObj
 foot:List Nat
abbrev E0:Eff:=⟨[],[],[]⟩
abbrev EF(ids:List Nat):Eff:=⟨[],[],ids⟩
abbrev EN(o:AObj):Eff:=⟨[],[o],[]⟩

def gv:Value→Bool
 | .bool _ | .int _ _ | .string _ | .pointer none | .slice none _ _ | .map none | .nilFunc=>true
 | _=>false
def cellV:AV→Option Value
 | .s v=>if gv v then some v else none
 | _=>none
def toV:AV→Option Value
 | .s v=>if gv v then some v else none
 | .agg cs=>(cs.mapM cellV).map (λvs => .agg vs.toArray)
 | _=>none
def ofC(v:Value):Option AV:=if gv v then some (.s v) else none
def ofV1:Value→Option AV
 | .agg cs=>(cs.toList.mapM ofC).map .agg
 | v=>ofC v

def pureVal{α:Type}(P:Program):Sem α→Option α
 | .pure a=>some a
 | .program k=>pureVal P (k P)
 | _=>none

def szOf(P:Program)(t:TypeId):Option Nat:=match P.underlying t with | some _=>(P.info? t).map (·.size) | none=>none
def bytesOf(P:Program)(t:TypeId):Option Nat:=(P.info? t).map (·.bytes)
def aggT(P:Program)(t:TypeId):Bool:=match P.underlying t with | some (.struct _) | some (.array ..)=>true | _=>false
def gvs:List Value→Bool
 | []=>true
 | x::l=>match gv x with | true=>gvs l | false=>false
def zeroAV(P:Program)(t:TypeId):Option AV:=
 match (P.info? t).bind (·.zero) with
 | some (.agg cs)=>match gvs cs.toList with | true=>some (.agg (cs.toList.map .s)) | false=>none
 | some v=>ofC v
 | none=>none
def zeroL(P:Program)(t:TypeId):List AV:=match (P.info? t).bind (·.zero) with | some (.agg cs)=>cs.toList.map .s | _=>[]
theorem Zer:∀{l:List Value},gvs l=true→l.mapM ofC=some (l.map .s)
 | [],_=>rfl
 | x::l,h=>by
  unfold gvs at h;split at h
  ·rename_i hg
   simp[List.mapM_cons,ofC,hg,Zer h]
  ·cases h
theorem Zes{P:Program}{t:TypeId}{z:AV}(h:zeroAV P t=some z):((P.info? t).bind (·.zero)).bind ofV1=some z:=by
 unfold zeroAV at h;split at h
 ·rename_i cs hc
  split at h
  ·rename_i hg
   rw[hc,Option.bind_some];unfold ofV1
   simp only[Zer hg];exact h
  ·cases h
 ·rename_i v hv hc
  rw[hc,Option.bind_some];unfold ofV1
  split
  ·rename_i cs;exact (hv cs rfl).elim
  ·exact h
 ·cases h
def cellsOf:AV→List AV
 | .agg cs=>cs
 | v=>[v]
def pickC(n:Nat)(agg:Bool)(e:List AV)(sub:Nat):Option AV:=
 if agg then (if sub+n≤e.length then some (.agg ((e.drop sub).take n)) else none) else e[sub]?
def putAt(e:List AV)(sub:Nat)(cs:List AV):List AV:=e.take sub++cs++e.drop (sub+cs.length)
def fieldOf(P:Program)(t:TypeId)(f:Nat):Option (Nat × TypeId):=
 match P.underlying t with
 | some (.struct fs)=>fs[f]?.map λx=>(x.offset,x.type)
 | _=>none
def elemOf(P:Program)(t:TypeId):Option TypeId:=
 match P.underlying t with
 | some (.slice e)=>some e
 | _=>none

def asInt:AV→Option Int
 | .s (.int _ n)=>some n
 | _=>none

def readSl(h:Hp):AV→Option (List (List AV))
 | .s (.slice none 0 0)=>some []
 | .lst _ _ es=>some es
 | .sl sz id off len fr _=>
  match h[id]? with
  | some (.arr sz' es _ _)=>if es.length=fr∧sz'=sz∧off+len≤es.length then some ((es.drop off).take len) else none
  | _=>none
 | _=>none
def idsOf:AV→List Nat
 | .sl _ id .. => [id]
 | .ptr id .. => [id]
 | .mp id=>[id]
 | _=>[]

abbrev Fun:=List AV→Hp→Option (AV × Hp)
abbrev Tab:=Nat→Option Fun
abbrev DFun:=List AV→Hp→Nat→Option (AV × Eff)
abbrev DTab:=Nat→Option DFun


def okC:AV→Bool
 | .s v=>gv v
 | .ptr .. | .sl .. | .mp _ | .fn .. | .yl _ | .it _ | .lst .. | .ep .. => true
 | _=>false

variable {β:Type}
abbrev K(β:Type):=AV→Option β
abbrev KV:=Go.AM.K AV
abbrev Kb(β:Type):=AV→Hp→Option β
abbrev Qb(β:Type):=Hp→Option β
abbrev zz2:List AV:=[.s (.int .i64 0),.s (.int .i64 0)]
abbrev zz3:List AV:=[.s (.int .i64 0),.s (.int .i64 0),.s (.int .i64 0)]
abbrev zz4:List AV:=[.s (.int .i64 0),.s (.int .i64 0),.s (.int .i64 0),.s (.int .i64 0)]
abbrev zz5:List AV:=[.s (.int .i64 0),.s (.int .i64 0),.s (.int .i64 0),.s (.int .i64 0),.s (.int .i64 0)]
abbrev zz7:List AV:=[.s (.int .i64 0),.s (.int .i64 0),.s (.int .i64 0),.s (.int .i64 0),.s (.int .i64 0),.s (.int .i64 0),.s (.int .i64 0)]

def arithK(op:BinOp)(x y:AV)(k:K β):Option β:=
 match x,y with
 | .s (.int a m),.s (.int b n)=>
  if a=b then
   match op with
   | .add=>k (.s (.int a (a.wrap (m+n))))
   | .sub=>k (.s (.int a (a.wrap (m-n))))
   | .mul=>k (.s (.int a (a.wrap (m * n))))
   | .lss=>k (.s (.bool (m<n)))
   | .leq=>k (.s (.bool (m≤n)))
   | .gtr=>k (.s (.bool (n<m)))
   | .geq=>k (.s (.bool (n≤m)))
   | _=>none
  else none
 | _,_=>none
def reckK(P:Program)(op:BinOp)(ty:TypeId)(x y:AV)(k:K β):Option β:=
 match toV x,toV y with
 | some a,some b=>
  match pureVal P (do Go.eqGuard op ty (.tmp 0) (.tmp 0) a b;Go.binOp op ty a b) with
  | some v=>match ofV1 v with | some v=>k v | none=>none
  | none=>none
 | _,_=>none
def eqFlds(P:Program)(f:TypeId→List AV→List AV→Option Bool)(xs ys:List AV):List Field→Option Bool
 | []=>some true
 | x :: l => if x.name = "_" then none else match szOf P x.type with
  | some n=>match f x.type ((xs.drop x.offset).take n) ((ys.drop x.offset).take n),eqFlds P f xs ys l with
   | some a,some b=>some (a&&b)
   | _,_=>none
  | none=>none
def eqFlat(P:Program):Nat→TypeId→List AV→List AV→Option Bool
 | 0,_,_,_=>none
 | d+1,t,xs,ys=>match P.underlying t with
  | some (.int _)=>match xs,ys with | [.s (.int a m)],[.s (.int b n)]=>if a=b then some (m==n) else none | _,_=>none
  | some .bool=>match xs,ys with | [.s (.bool m)],[.s (.bool n)]=>some (m==n) | _,_=>none
  | some (.struct fs)=>if P.stoodInHeld t=true then none else eqFlds P (eqFlat P d) xs ys fs.toList
  | _=>none
def eqK(P:Program)(neq:Bool)(ty:TypeId)(x y:AV)(h:Hp)(k:K β):Option β:=
 match x,y with
 | .s (.int a m),.s (.int b n)=>if a=b then k (.s (.bool (xor neq (m==n)))) else none
 | .s (.bool m),.s (.bool n)=>match P.underlying ty with | some .bool=>k (.s (.bool (xor neq (m==n)))) | _=>none
 | .sl _ id _ _ fr _,.s (.slice none _ _)=>
  match elemOf P ty,h[id]? with
  | some _,some (.arr _ es _ nil)=>if es.length=fr then k (.s (.bool (xor neq nil))) else none
  | _,_=>none
 | .lst _ nil _,.s (.slice none _ _)=>
  match elemOf P ty with
  | some _=>k (.s (.bool (xor neq nil)))
  | none=>none
 | .fn _ _,.s .nilFunc=>match P.underlying ty with | some (.func _ _ _)=>k (.s (.bool neq)) | _=>none
 | .agg xs,.agg ys=>match P.eqGuardType P.depth ty,aggT P ty,eqFlat P 8 ty xs ys with
  | false,true,some b=>k (.s (.bool (xor neq b)))
  | _,_,_=>none
 | _,_=>reckK P (if neq then .neq else .eql) ty x y k
def binK(P:Program)(op:BinOp)(ty:TypeId)(x y:AV)(h:Hp)(k:K β):Option β:=
 match op with
 | .add | .sub | .mul | .lss | .leq | .gtr | .geq=>arithK op x y k
 | .eql=>eqK P false ty x y h k
 | .neq=>eqK P true ty x y h k
 | _=>reckK P op ty x y k
def notK(x:AV)(k:K β):Option β:=match x with | .s (.bool b)=>k (.s (.bool !b)) | _=>none
def unK(P:Program)(op:UnOp)(x:AV)(k:K β):Option β:=
 match op with
 | .not=>notK x k
 | _=>match toV x with
  | some a=>match pureVal P (Op.unary op a) with
   | some v=>match ofV1 v with | some v=>k v | none=>none
   | none=>none
  | none=>none
def convK(P:Program)(a b:TypeId)(x:AV)(k:K β):Option β:=
 match toV x with
 | some v=>match pureVal P (Go.convert a b v) with
  | some v=>match ofV1 v with | some v=>k v | none=>none
  | none=>none
 | none=>none
def pickK(c a b:AV)(k:K β):Option β:=
 match c with
 | .s (.bool q)=>k (if q then a else b)
 | _=>none
def fillA(cells:List AV):List (Option (Nat × Nat) × AV)→Option (List AV)
 | []=>some cells
 | (none,_)::_=>none
 | (some (off,size),v)::rest=>if (cellsOf v).length=size∧(cellsOf v).all okC∧off+size≤cells.length then fillA (putAt cells off (cellsOf v)) rest else none
def buildK(z:List AV)(parts:List (Option (Nat × Nat) × AV))(k:K β):Option β:=
 match fillA z parts with
 | some c=>k (.agg c)
 | none=>none
def arrOf(P:Program)(t:TypeId):Option (Nat × TypeId):=
 match P.underlying t with
 | some (.array n e)=>some (n,e)
 | _=>none
def allSized(P:Program)(ty:TypeId):Bool:=match P.underlying ty with | some (.struct fs)=>fs.toList.all λf=>(szOf P f.type).isSome | some (.array _ e)=>(szOf P e).isSome | _=>false
def placeOf(P:Program)(ty:TypeId)(i:Nat):Option (Nat × Nat):=
 match arrOf P ty with
 | some (_,e)=>(szOf P e).map λn=>(i * n,n)
 | none=>(fieldOf P ty i).bind λp=>(szOf P p.2).map λn=>(p.1,n)
def ldK(n:Nat)(agg:Bool)(p:AV)(h:Hp)(k:K β):Option β:=
 match p with
 | .ptr id idx sub fr=>
  match h[id]? with
  | some (.arr _ es _ _)=>
   if es.length=fr then
    match es[idx]? with
    | some e=>match pickC n agg e sub with | some v=>k v | none=>none
    | none=>none
   else none
  | _=>none
 | .ep e sub=>match pickC n agg e sub with | some v=>k v | none=>none
 | _=>none
def nilK(x:AV)(k:K β):Option β:=
 match x with
 | .ptr a b c d=>k (.ptr a b c d)
 | .ep e sub=>k (.ep e sub)
 | .fn f cs=>k (.fn f cs)
 | .yl l=>k (.yl l)
 | _=>none
def boundOr(x:Option AV)(d:Nat):Option Nat:=
 match x with
 | none=>some d
 | some (.s (.int _ m))=>if 0≤m then some m.toNat else none
 | some _=>none
def sliceK(n:Nat)(x:AV)(lo hi mx:Option AV)(k:K β):Option β:=
 match x with
 | .sl sz id off len fr full=>
  match boundOr mx len,boundOr hi len,boundOr lo 0 with
  | some m,some h,some l=>if sz=n∧l≤h∧(h≤len∨(full=false∧off+h≤fr))∧(mx.isSome=true→hi.isSome=true∧h≤m∧(m≤len∨(full=false∧off+m≤fr))∧(m=h∨fr≤off+m))∧(mx.isSome=false→full=true→h=len∨fr≤off+len) then
    k (.sl sz id (off+l) (h-l) fr ((mx.isSome&&m==h)||(mx.isNone&&full&&h==len))) else none
  | _,_,_=>none
 | .s (.slice none 0 0)=>
  match boundOr mx 0,boundOr hi 0,boundOr lo 0 with
  | some 0,some 0,some 0=>if mx.isSome=true→hi.isSome=true then k (.s (.slice none 0 0)) else none
  | _,_,_=>none
 | .lst sz nil es=>
  match boundOr mx es.length,boundOr hi es.length,boundOr lo 0 with
  | some m,some h,some l=>if sz=n∧l≤h∧h≤m∧m≤es.length∧(mx.isSome=true→hi.isSome=true) then k (.lst sz nil ((es.drop l).take (h-l))) else none
  | _,_,_=>none
 | _=>none
def faK(off:Nat)(p:AV)(k:K β):Option β:=match p with | .ptr id idx sub fr=>k (.ptr id idx (sub+off) fr) | .ep e sub=>k (.ep e (sub+off)) | _=>none
def fldK(n:Nat)(agg:Bool)(off:Nat)(x:AV)(k:K β):Option β:=
 match x with
 | .agg cs=>match pickC n agg cs off with | some v=>k v | none=>none
 | _=>none
def iaK(n:Nat)(x i:AV)(k:K β):Option β:=
 match x,i with
 | .sl sz id off len fr _,.s (.int _ m)=>if sz=n∧0≤m∧m<len then k (.ptr id (off+m.toNat) 0 fr) else none
 | .lst sz _ es,.s (.int _ m)=>if sz=n∧0≤m then match es[m.toNat]? with | some e=>k (.ep e 0) | none=>none else none
 | _,_=>none
def iaA(n len:Nat)(x i:AV)(k:K β):Option β:=
 match x,i with
 | .ptr id idx sub fr,.s (.int _ m)=>if 0≤m∧m<len then k (.ptr id idx (sub+m.toNat * n) fr) else none
 | .ep e sub,.s (.int _ m)=>if 0≤m∧m<len then k (.ep e (sub+m.toNat * n)) else none
 | _,_=>none
def chK(x i:AV)(k:K β):Option β:=
 match x,i with
 | .s (.string s),.s (.int _ m)=>if 0≤m then (match s[m.toNat]? with | some b=>k (.s (.int .u8 b.toNat)) | none=>none) else none
 | _,_=>none
def lookupKV(kvs:List (Value × AV))(eq:Value→Value→Option Bool)(k:Value):Option (Option AV):=
 match kvs with
 | []=>some none
 | (k',v)::rest=>match eq k k' with | some true=>some (some v) | some false=>lookupKV rest eq k | none=>none
def updateKV(kvs:List (Value × AV))(eq:Value→Value→Option Bool)(k:Value)(v:AV):Option (List (Value × AV)):=
 match kvs with
 | []=>some [(k,v)]
 | (k',v')::rest=>match eq k k' with | some true=>some ((k,v)::rest) | some false=>(updateKV rest eq k v).map ((k',v') :: ·) | none=>none
def keyEq(P:Program)(kt:TypeId)(a b:Value):Option Bool:=
 match pureVal P (Op.equal kt a b) with
 | some true=>if Instr.sameBits 10000 b a then some true else none
 | r=>r
def keyOk(P:Program)(kt:TypeId)(a:Value):Bool:=(pureVal P (Instr.checkKey false 10000 kt a)).isSome&&(pureVal P (Instr.checkKey true 10000 kt a)).isSome
def lookK(P:Program)(kt:TypeId)(z:AV)(ok:Bool)(m kk:AV)(h:Hp)(k:K β):Option β:=
 match m,toV kk with
 | .mp id,some kv=>
  match h[id]? with
  | some (.map kvs)=>
   if keyOk P kt kv then
    match lookupKV kvs (keyEq P kt) kv with
    | some (some v)=>k (if ok then .tup [v,.s (.bool true)] else v)
    | some none=>k (if ok then .tup [z,.s (.bool false)] else z)
    | none=>none
   else none
  | _=>none
 | _,_=>none
def ixA(n len:Nat)(agg:Bool)(x i:AV)(k:K β):Option β:=
 match x,i with
 | .agg cs,.s (.int _ m)=>if 0≤m∧m<len then (match pickC n agg cs (m.toNat * n) with | some v=>k v | none=>none) else none
 | _,_=>none
def capK(x:AV)(k:K β):Option β:=
 match x with
 | .s (.slice none _ c)=>k (.s (.int .i64 c))
 | .sl _ _ _ len _ true=>k (.s (.int .i64 len))
 | _=>none
def exK(x:AV)(i:Nat)(k:K β):Option β:=
 match x with
 | .tup vs=>match vs[i]? with | some v=>k v | none=>none
 | _=>none
def lenK(x:AV)(k:K β):Option β:=
 match x with
 | .sl _ _ _ len _ _=>k (.s (.int .i64 len))
 | .lst _ _ es=>k (.s (.int .i64 es.length))
 | .s (.slice none n _)=>k (.s (.int .i64 n))
 | _=>none
def lenM(x:AV)(h:Hp)(k:K β):Option β:=
 match x with
 | .s (.map none)=>k (.s (.int .i64 0))
 | .mp id=>match h[id]? with | some (.map kvs)=>k (.s (.int .i64 kvs.length)) | _=>none
 | _=>none
def minK(x y:AV)(k:K β):Option β:=
 match x,y with
 | .s (.int a m),.s (.int b n)=>if a=b then k (.s (.int a (if n<m then n else m))) else none
 | _,_=>none
def maxK(x y:AV)(k:K β):Option β:=
 match x,y with
 | .s (.int a m),.s (.int b n)=>if a=b then k (.s (.int a (if m<n then n else m))) else none
 | _,_=>none

abbrev R:=Option (AV × Eff)
def boxE(n:Nat)(v:AV)(base:Nat):R:=
 if (cellsOf v).length=n∧(cellsOf v).all okC then some (.ptr base 0 0 1,EN (.arr n [cellsOf v] true false)) else none
def fillS(n:Nat)(es:List (List AV)):List (Nat × AV)→Option (List (List AV))
 | []=>some es
 | (i,v)::rest=>if (cellsOf v).length=n∧(cellsOf v).all okC∧i<es.length then fillS n (es.set i (cellsOf v)) rest else none
def bsE(n:Nat)(z:List AV)(len:Nat)(parts:List (Nat × AV))(base:Nat):R:=
 match fillS n (List.replicate len z) parts with
 | some es=>some (.sl n base 0 len len true,EN (.arr n es true false))
 | none=>none
def stE(n:Nat)(p v:AV)(h:Hp):R:=
 match p with
 | .ptr id idx sub fr=>
  match h[id]? with
  | some (.arr sz es own nil)=>
   if es.length=fr∧own=true∧(cellsOf v).length=n∧(cellsOf v).all okC then
    match es[idx]? with
    | some e=>if sub+n≤e.length then some (.u,⟨[(id,.arr sz (es.set idx (putAt e sub (cellsOf v))) own nil)],[],[id]⟩) else none
    | none=>none
   else none
  | _=>none
 | _=>none
def mupE(P:Program)(kt:TypeId)(m kk v:AV)(h:Hp):R:=
 match m,toV kk with
 | .mp id,some kv=>
  match h[id]? with
  | some (.map kvs)=>
   if keyOk P kt kv then
    match updateKV kvs (keyEq P kt) kv v with
    | some kvs'=>some (.u,⟨[(id,.map kvs')],[],[id]⟩)
    | none=>none
   else none
  | _=>none
 | _,_=>none
def findKV(kvs:List (Value × AV))(eq:Value→Value→Option Bool)(k:Value):Option (Option (Nat × AV)):=
 match kvs with
 | []=>some none
 | (k',v)::rest=>match eq k k' with | some true=>some (some (0,v)) | some false=>(findKV rest eq k).map (Option.map λp=>(p.1+1,p.2)) | none=>none
def mentE(P:Program)(kt:TypeId)(z m kk:AV)(h:Hp):R:=
 match m,toV kk with
 | .mp id,some kv=>
  match h[id]? with
  | some (.map kvs)=>
   if keyOk P kt kv then
    match findKV kvs (keyEq P kt) kv with
    | some (some (j,b))=>if (findKV (kvs.set j (kv,b)) (keyEq P kt) kv).map (Option.map (·.1))=some (some j) then some (.tup [b,.s (.int .i64 j)],⟨[(id,.map (kvs.set j (kv,b)))],[],[id]⟩) else none
    | some none=>if (findKV (kvs++[(kv,z)]) (keyEq P kt) kv).map (Option.map (·.1))=some (some kvs.length) then some (.tup [z,.s (.int .i64 kvs.length)],⟨[(id,.map (kvs++[(kv,z)]))],[],[id]⟩) else none
    | none=>none
   else none
  | _=>none
 | _,_=>none
def rngE(m:AV)(h:Hp)(base:Nat):R:=
 match m with
 | .mp id=>
  match h[id]? with
  | some (.map kvs)=>some (.it base,⟨[],[.iter id kvs.length []],[id]⟩)
  | _=>none
 | _=>none
def estE(m st v:AV)(h:Hp):R:=
 match m,st with
 | .mp id,.s (.int _ n)=>
  match h[id]? with
  | some (.map kvs)=>
   if 0≤n then
    match kvs[n.toNat]? with
    | some (k,_)=>some (.u,⟨[(id,.map (kvs.set n.toNat (k,v)))],[],[id]⟩)
    | none=>none
   else none
  | _=>none
 | _,_=>none
def clrE(n:Nat)(z:List AV)(x:AV)(h:Hp):R:=
 match x with
 | .s (.slice none _ _)=>some (.tup [],E0)
 | .sl sz id off len fr _=>
  match h[id]? with
  | some (.arr sz' es own nil)=>
   if es.length=fr∧sz=n∧sz'=n∧own=true∧off+len≤es.length then some (.tup [],⟨[(id,.arr n (es.take off++List.replicate len z++es.drop (off+len)) true nil)],[],[id]⟩) else none
  | _=>none
 | _=>none
def appE(n by_:Nat)(s x:AV)(h:Hp)(base:Nat):R:=
 match readSl h x with
 | some news=>
  match s with
  | .s (.slice none 0 0)=>
   if news.length=0 then some (s,EF (idsOf x))
   else if news.length * by_≤140737488355328∧news.all (λe=>e.length==n) then some (.sl n base 0 news.length news.length false,⟨[],[.arr n news true false],idsOf x⟩)
   else none
  | .sl _ id off len fr full=>
   match h[id]? with
   | some (.arr sz es own nil)=>
    if es.length=fr∧sz=n∧(len+news.length) * by_≤140737488355328∧news.all (λe=>e.length==n) then
     if full=true∧off+len≤fr∧(len=0∨news.length≠0) then some (.sl n base 0 (len+news.length) (len+news.length) false,⟨[],[.arr n ((es.drop off).take len++news) true (nil&&len+news.length==0)],id::idsOf x⟩)
     else if own=true∧off=0∧len=fr then some (.sl n id 0 (len+news.length) (fr+news.length) false,⟨[(id,.arr n (es++news) true (nil&&news.length==0))],[],id::idsOf x⟩)
     else if own=true∧full=false∧off+len+news.length≤fr then some (.sl n id off (len+news.length) fr false,⟨[(id,.arr n (es.take (off+len)++news++es.drop (off+len+news.length)) true nil)],[],id::idsOf x⟩)
     else none
    else none
   | _=>none
  | _=>none
 | none=>none
def mkE(n by_:Nat)(z:List AV)(s x:AV)(base:Nat):R:=
 match s,x with
 | .s (.slice none 0 0),.s (.int _ m)=>if 0<m∧m * by_≤140737488355328 then some (.sl n base 0 m.toNat m.toNat false,EN (.arr n (List.replicate m.toNat z) true false)) else none
 | _,_=>none
def callE(F:Option DFun)(args:List AV)(h:Hp)(base:Nat):R:=
 match F with
 | some F=>F args h base
 | none=>none
def callVE(T:DTab)(f:AV)(args:List AV)(h:Hp)(base:Nat):R:=
 match f with
 | .fn g caps=>callE (T g) (args++caps) h base
 | _=>none
def ap(h:Hp)(e:Eff):Hp:=e.puts.foldl (λh p=>h.set p.1 p.2) h++e.news
def effK(r:R)(h:Hp)(k:Kb β):Option β:=
 match r with
 | some (v,e)=>k v (ap h e)
 | none=>none

def callK(F:Option Fun)(args:List AV)(h:Hp)(k:Kb β):Option β:=
 match F with
 | some F=>match F args h with | some (v,h')=>k v h' | none=>none
 | none=>none
abbrev YB:Nat:=1000000
abbrev ymark:AV := .s (.map (some 0))
def callVK(T:Tab)(f:AV)(args:List AV)(h:Hp)(k:Kb β):Option β:=
 match f with
 | .fn g caps=>callK (T g) (args++caps) h k
 | .yl l=>callK (T YB) (ymark :: .yl l::args) h k
 | _=>none

abbrev Env:=List (Nat × AV)
def look(t:Tm):Env→Nat→AV
 | [],i=>t i
 | (j,v)::e,i=>if i=j then v else look t e i
def cv(v:Value):AV:=if gv v then .s v else .u
def ev(t:Tm)(e:Env):Operand→AV
 | .tmp i=>look t e i
 | .const v=>cv v
 | .global _ => .u
 | .func f => .fn f []

def pureK(P:Program)(r:Operand→AV)(h:Hp)(o:Op)(k:K β):Option β:=
 match o with
 | .move x | .assign x=>k (r x)
 | .pick c a b=>pickK (r c) (r a) (r b) k
 | .build ty parts=>
  match zeroAV P ty,allSized P ty with
  | some (.agg z),true=>buildK z (parts.toList.map λp=>(placeOf P ty p.1,r p.2)) k
  | _,_=>none
 | .load ty a=>match szOf P ty with | some n=>ldK n (aggT P ty) (r a) h k | none=>none
 | .nilCheck x=>nilK (r x) k
 | .binOp op ty x y _=>binK P op ty (r x) (r y) h k
 | .unOp op _ x=>unK P op (r x) k
 | .convert a b x=>convK P a b (r x) k
 | .makeFunc (.func f) first caps=>if first.size=0 then k (.fn f (caps.toList.map r)) else none
 | .slice ty x lo hi mx=>match (elemOf P ty).bind (szOf P) with | some n=>sliceK n (r x) (lo.map r) (hi.map r) (mx.map r) k | none=>none
 | .fieldAddr ty x f=>match fieldOf P ty f with
  | some (off,ft)=>match szOf P ft with | some (_+1)=>faK off (r x) k | _=>none
  | none=>none
 | .field ty x f=>match fieldOf P ty f with
  | some (off,ft)=>match szOf P ft with | some n=>fldK n (aggT P ft) off (r x) k | none=>none
  | none=>none
 | .indexAddr ty x i=>match arrOf P ty with
  | some (len,e)=>match szOf P e with | some n=>iaA n len (r x) (r i) k | none=>none
  | none=>match (elemOf P ty).bind (szOf P) with | some n=>iaK n (r x) (r i) k | none=>none
 | .index ty x i=>match P.underlying ty with
  | some .string=>chK (r x) (r i) k
  | some (.array len e)=>match szOf P e with | some n=>ixA n len (aggT P e) (r x) (r i) k | none=>none
  | _=>none
 | .lookup ty m kk ok=>match P.underlying ty with
  | some (.map kt et)=>match zeroAV P et,P.underlying kt with | some z,some _=>lookK P kt z ok (r m) (r kk) h k | _,_=>none
  | _=>none
 | .extract x i=>exK (r x) i k
 | .call c=>
  match c.callee with
  | .builtin .len=>match c.args.toList,c.argTypes.toList with
   | [x],[ty]=>match P.underlying ty with
    | some (.slice _)=>lenK (r x) k
    | some (.map ..)=>lenM (r x) h k
    | _=>none
   | _,_=>none
  | .builtin .min=>match c.args.toList with | [x,y]=>minK (r x) (r y) k | _=>none
  | .builtin .max=>match c.args.toList with | [x,y]=>maxK (r x) (r y) k | _=>none
  | .builtin .cap=>match c.args.toList,c.argTypes.toList with
   | [x],[ty]=>match elemOf P ty with | some _=>capK (r x) k | none=>none
   | _,_=>none
  | _=>none
 | _=>none
def actE(P:Program)(T:DTab)(r:Operand→AV)(h:Hp)(base:Nat)(o:Op):R:=
 match o with
 | .alloc e=>match zeroAV P e,szOf P e with | some z,some n=>boxE n z base | _,_=>none
 | .box e x=>match szOf P e with | some n=>boxE n (r x) base | none=>none
 | .buildSlice ty len parts=>
  match elemOf P ty with
  | some e=>match szOf P e,zeroAV P e with
   | some n,some z=>if len * n≤16777216∧0<n∧(cellsOf z).all okC=true∧(cellsOf z).length=n then bsE n (cellsOf z) len (parts.toList.map λp=>(p.1,r p.2)) base else none
   | _,_=>none
  | none=>none
 | .store ty a x=>match szOf P ty with | some n=>stE n (r a) (r x) h | none=>none
 | .makeMap _ none=>some (.mp base,EN (.map []))
 | .mapUpdate ty m kk x | .insert ty m kk x=>match P.underlying ty with
  | some (.map kt _)=>match P.underlying kt with | some _=>mupE P kt (r m) (r kk) (r x) h | none=>none
  | _=>none
 | .mapEntry ty m kk=>match P.underlying ty with
  | some (.map kt et)=>match zeroAV P et,P.underlying kt with | some z,some _=>mentE P kt z (r m) (r kk) h | _,_=>none
  | _=>none
 | .entryStore _ m st x=>estE (r m) (r st) (r x) h
 | .range ty x=>match P.underlying ty with
  | some (.map ..)=>rngE (r x) h base
  | _=>none
 | .call c=>
  match c.callee with
  | .builtin .append=>match c.args.toList,c.argTypes.toList with
   | [s,x],[ty,ty']=>if ty=ty' then match elemOf P ty with
    | some e=>match szOf P e,bytesOf P e,(zeroAV P e).map (λz=>((cellsOf z).length,(cellsOf z).all okC)) with
     | some (n+1),some b,some (m,true)=>if m=n+1∧0<b then appE (n+1) b (r s) (r x) h base else none
     | _,_,_=>none
    | none=>none else
     match elemOf P ty,P.underlying ty' with
     | some e,some (.int .i64)=>match szOf P e,bytesOf P e,zeroAV P e with
      | some (n+1),some b,some z=>if (cellsOf z).length=n+1∧(cellsOf z).all okC=true∧0<b then mkE (n+1) b (cellsOf z) (r s) (r x) base else none
      | _,_,_=>none
     | _,_=>none
   | _,_=>none
  | .builtin .clear=>match c.args.toList,c.argTypes.toList with
   | [x],[ty]=>match elemOf P ty with
    | some e=>match szOf P e,zeroAV P e with
     | some n,some z=>if (cellsOf z).length=n∧(cellsOf z).all okC=true∧0<n then clrE n (cellsOf z) (r x) h else none
     | _,_=>none
    | none=>none
   | _,_=>none
  | .value (.func f)=>callE (T f) (c.args.toList.map r) h base
  | .value f=>callVE T (r f) (c.args.toList.map r) h base
  | _=>none
 | _=>none
def acts:Op→Bool
 | .alloc _ | .box .. | .buildSlice .. | .store .. | .makeMap .. | .mapUpdate .. | .insert .. | .mapEntry .. | .entryStore .. | .range .. => true
 | .call c=>match c.callee with | .builtin .append | .builtin .clear | .value _=>true | _=>false
 | _=>false

def calls:Op→Bool
 | .call c=>match c.callee with | .value _=>true | _=>false
 | _=>false
def callO(T:Tab)(r:Operand→AV)(h:Hp)(o:Op)(k:Kb β):Option β:=
 match o with
 | .call c=>
  match c.callee with
  | .value (.func f)=>callK (T f) (c.args.toList.map r) h k
  | .value f=>callVK T (r f) (c.args.toList.map r) h k
  | _=>none
 | _=>none
def opK(P:Program)(T:Tab)(r:Operand→AV)(h:Hp)(o:Oper)(k:Kb β):Option β:=
 match calls o.op with
 | true=>callO T r h o.op k
 | false=>match acts o.op with | true=>effK (actE P (λ_=>none) r h h.length o.op) h k | false=>pureK P r h o.op (λv=>k v h)

def wB(x:AV)(want:Bool):Option Bool:=match x with | .s (.bool b)=>some (b==want) | .tup []=>some false | _=>none
def wants(all:List Oper)(t:Tm)(e:Env)(o:Oper):Option Bool:=
 match o.guard with
 | none=>some true
 | some (j,want)=>match (all[j]?).bind (·.dst) with
  | some d=>wB (look t e d) want
  | none=>none
def gopK(g:Option Bool)(h:Hp)(run:(Kb β)→Option β)(k:Kb β):Option β:=
 match g with
 | some true=>run k
 | some false=>k (.tup []) h
 | none=>none
def stepK(P:Program)(T:Tab)(all:List Oper)(t:Tm)(e:Env)(h:Hp)(o:Oper)(k:Kb β):Option β:=
 match o.guard with
 | none=>opK P T (ev t e) h o k
 | some _=>gopK (wants all t e o) h (opK P T (ev t e) h o) k

def putE(e:Env)(d:Option Nat)(v:AV):Env:=match d with | some d=>(d,v)::e | none=>e
def putT(ks:List Nat)(t:Tm)(d:Option Nat)(v:AV):Tm:=match d with | some d=>(match ks.contains d with | true=>upd t d v | false=>t) | none=>t
abbrev St:=Tm × Hp

def opsK(P:Program)(T:Tab)(ks:List Nat)(all:List Oper):List Oper→Tm→Env→Hp→(St→Option β)→Option β
 | [],t,_,h,k=>k (t,h)
 | o::os,t,e,h,k=>stepK P T all t e h o λv h=>opsK P T ks all os (putT ks t o.dst v) (putE e o.dst v) h k

abbrev Ent:=List Nat × List Nat
def isSl(P:Program)(t:TypeId):Bool:=match P.underlying t with | some (.slice _)=>true | _=>false
def isMap(P:Program)(t:TypeId):Bool:=match P.underlying t with | some (.map ..)=>true | _=>false
def looksH(P:Program):Op→Bool
 | .load .. | .lookup .. => true
 | .binOp op ty _ _ _=>(match op with | .eql | .neq=>true | _=>false)&&isSl P ty
 | .call c=>match c.callee,c.argTypes.toList with | .builtin .len,[ty]=>isMap P ty | _,_=>false
 | _=>false
def footP(P:Program)(r:Operand→AV)(o:Op):List Nat:=
 bif looksH P o then
  match o with
  | .load _ x=>idsOf (r x)
  | .lookup _ m _ _=>idsOf (r m)
  | .binOp _ _ x _ _=>idsOf (r x)
  | .call c=>match c.args.toList with | [x]=>idsOf (r x) | _=>[]
  | _=>[]
 else []
def wrOf(base:Nat)(e:Eff):List Nat:=e.puts.map (·.1)++(List.range e.news.length).map (base + ·)
def effD(r:R)(h:Hp)(k:AV→Hp→Ent→Option β):Option β:=
 match r with
 | some (v,e)=>k v (ap h e) (e.foot,wrOf h.length e)
 | none=>none
def opD(P:Program)(D:DTab)(r:Operand→AV)(h:Hp)(o:Oper)(k:AV→Hp→Ent→Option β):Option β:=
 match acts o.op with | true=>effD (actE P D r h h.length o.op) h k | false=>pureK P r h o.op (λv=>k v h (footP P r o.op,[]))
def gopD(g:Option Bool)(h:Hp)(run:(AV→Hp→Ent→Option β)→Option β)(k:AV→Hp→Ent→Option β):Option β:=
 match g with
 | some true=>run k
 | some false=>k (.tup []) h ([],[])
 | none=>none
def stepD(P:Program)(D:DTab)(all:List Oper)(t:Tm)(e:Env)(h:Hp)(o:Oper)(k:AV→Hp→Ent→Option β):Option β:=
 match o.guard with
 | none=>opD P D (ev t e) h o k
 | some _=>gopD (wants all t e o) h (opD P D (ev t e) h o) k
def disj2(a b:Ent):Bool:=a.2.all (λx => !b.1.contains x && !b.2.contains x)&&b.2.all λx => !a.1.contains x
def disjAll(prs:List (Nat × Nat))(lg:List Ent):Bool:=prs.all λp=>disj2 (lg.getD p.1 ([],[])) (lg.getD p.2 ([],[]))
def opsD(P:Program)(D:DTab)(ks:List Nat)(all:List Oper)(prs:List (Nat × Nat)):List Oper→Tm→Env→Hp→List Ent→(St→Option β)→Option β
 | [],t,_,h,lg,k=>bif disjAll prs lg.reverse then k (t,h) else none
 | o::os,t,e,h,lg,k=>stepD P D all t e h o λv h en=>opsD P D ks all prs os (putT ks t o.dst v) (putE e o.dst v) h (en::lg) k
def befM(bs:List Nat)(o:Oper):Nat:=o.after.toList.foldl (λs e=>bif Region.binds .any e then s ||| (1 <<< e.on) ||| bs.getD e.on 0 else s) 0
def befs(ops:List Oper):List Nat:=ops.foldl (λbs o=>bs++[befM bs o]) []
def free2(bs:List Nat):List (Nat × Nat):=(List.range bs.length).flatMap λj=>(List.range j).filterMap λi=>bif (bs.getD j 0).testBit i then none else some (i,j)
def heavy(P:Program)(o:Oper):Bool:=acts o.op||looksH P o.op
def prsOf(P:Program)(ops:List Oper):List (Nat × Nat):=(free2 (befs ops)).filter λp=>
 match ops[p.1]?,ops[p.2]? with
 | some a,some b=>(acts a.op&&heavy P b)||(heavy P a&&acts b.op)
 | _,_=>false
def softL(a b:Op):Bool:=match a,b with
 | .lookup ty (.tmp m) (.tmp k) false,.mapEntry ty' (.tmp m') (.tmp k')=>Nat.beq ty ty'&&(Nat.beq m m'&&Nat.beq k k')
 | _,_=>false
def softO(a b:Oper):Bool:=(a.guard.isNone&&b.guard.isNone)&&(softL a.op b.op||softL b.op a.op)
def hardP(ops:List Oper)(ps:List (Nat × Nat)):List (Nat × Nat):=ps.filter λp=>match ops[p.1]?,ops[p.2]? with
 | some a,some b => !softO a b
 | _,_=>true
def okDraw(ops:Array Oper):Bool:=
 Region.noSelect ops&&(ops.toList.zipIdx.all λx=>x.1.after.toList.all λe => !Region.binds .any e||e.on<x.2) &&
  (free2 (befs ops.toList)).all λp=>match ops[p.1]?,ops[p.2]? with
   | some a,some b=>a.apart ops b
   | _,_=>false

inductive RT where
 | op (i:Nat)
 | grp (j:Nat) (want:Bool) (d y z:Nat) (body:List RT) (pk:Nat)
def sameG:Option (Nat × Bool)→Option (Nat × Bool)→Bool
 | none,none=>true
 | some a,some b=>Nat.beq a.1 b.1&&(a.2==b.2)
 | _,_=>false
def pickOf(all:List Oper)(j:Nat)(w:Bool)(pk:Oper):Option (Nat × Nat × Nat):=
 match (all[j]?).bind (·.dst),pk.dst,pk.op with
 | some d,some z,.pick (.tmp c) a b=>
  bif Nat.beq c d then
   match w,a,b with
   | false,.const (.bool true),.tmp y=>some (d,y,z)
   | true,.tmp y,.const (.bool false)=>some (d,y,z)
   | _,_,_=>none
  else none
 | _,_,_=>none
def parseT(all:List Oper):Nat→Option (Nat × Bool)→Nat→Nat→List RT × Nat
 | 0,_,_,i=>([],i)
 | f+1,ctx,st,i=>
  match all[i]? with
  | none=>([],i)
  | some o=>
   bif sameG o.guard ctx then (match parseT all f ctx st (i+1) with | (r,n)=>(.op i::r,n))
   else
    match o.guard with
    | some (j,w)=>
     bif ctx.isNone||Nat.ble st j then
      match parseT all f (some (j,w)) i i with
      | (b,n)=>
       match (all[n]?).bind (pickOf all j w) with
       | some (d,y,z)=>(match parseT all f ctx st (n+1) with | (r,m)=>(.grp j w d y z b n::r,m))
       | none=>([],i)
     else ([],i)
    | none=>([],i)
mutual
def flat1:RT→List Nat
 | .op i=>[i]
 | .grp _ _ _ _ _ body pk=>flats body++[pk]
def flats:List RT→List Nat
 | []=>[]
 | r::rs=>flat1 r++flats rs
end
def noRef(S:List Nat)(o:Op):Bool:=o.operands.toList.all λx=>match x with | .tmp i => !S.contains i | _=>true
abbrev Cx:=Option (Nat × Bool × Nat)
def Cx.g(c:Cx):Option (Nat × Bool):=match c with | some (j,w,_)=>some (j,w) | none=>none
def Cx.off(c:Cx)(l:List Nat):Bool:=match c with | some (_,_,d) => !l.contains d | none=>true
def free(ks l:List Nat):Bool:=l.all λi => !ks.contains i
mutual
def wf1(all:List Oper)(ks:List Nat):Cx→List Nat→List Nat→RT→Option (List Nat × List Nat)
 | ctx,S,I,.op i=>
  match all[i]? with
  | some o=>
   bif sameG o.guard ctx.g&&noRef S o.op&&ctx.off o.dst.toList&&free S o.dst.toList&&(ctx.isNone||free ks o.dst.toList) then some (S,o.dst.toList++I) else none
  | none=>none
 | ctx,S,I,.grp j want d y z body pk=>
  match wfs all ks (some (j,want,d)) S [] body,all[pk]? with
  | some (S1,I1),some p=>
   bif (ctx.isNone||I.contains d) && !S.contains d && !S1.contains d && !I1.contains d&&free ks I1&&I1.contains y && !S1.contains y&&ctx.off (z::(I1++S1)) && !(I1++S1).contains z&&sameG p.guard ctx.g&&(ctx.isNone||free ks [z]) &&
    (match pickOf all j want p with | some (d',y',z')=>Nat.beq d' d&&Nat.beq y' y&&Nat.beq z' z | none=>false) then some (I1++S1,z::I) else none
  | _,_=>none
def wfs(all:List Oper)(ks:List Nat):Cx→List Nat→List Nat→List RT→Option (List Nat × List Nat)
 | _,S,I,[]=>some (S,I)
 | ctx,S,I,r::rs=>match wf1 all ks ctx S I r with | some (S',I')=>wfs all ks ctx S' I' rs | none=>none
end
def grpK(want:Bool)(x:AV)(h:Hp)(run:(Kb β)→Option β)(k:Kb β):Option β:=
 match x with
 | .s (.bool b)=>bif b==want then run k else k (.s (.bool b)) h
 | _=>none
mutual
def opT(P:Program)(T:Tab)(ks:List Nat)(all:List Oper):RT→Tm→Env→Hp→(Tm→Env→Qb β)→Option β
 | .op i,t,e,h,k=>match all[i]? with | some o=>opK P T (ev t e) h o λv h=>k (putT ks t o.dst v) (putE e o.dst v) h | none=>none
 | .grp _ want d y z body _,t,e,h,k=>grpK want (look t e d) h (λK=>opsT P T ks all body t e h λ_ e' h'=>K (look t e' y) h') λv h'=>k (putT ks t (some z) v) ((z,v)::e) h'
def opsT(P:Program)(T:Tab)(ks:List Nat)(all:List Oper):List RT→Tm→Env→Hp→(Tm→Env→Qb β)→Option β
 | [],t,e,h,k=>k t e h
 | r::rs,t,e,h,k=>opT P T ks all r t e h λt e h=>opsT P T ks all rs t e h k
end
def treeOf(ks:List Nat)(ops:List Oper):Option (List RT):=
 bif ops.all λo=>o.guard.isNone then none
 else
  match parseT ops (ops.length+ops.length) none 0 0 with
  | (tr,_)=>bif (flats tr==List.range ops.length)&&(wfs ops ks none [] [] tr).isSome then some tr else none
def regK(P:Program)(T:Tab)(ks:List Nat)(ops:List Oper)(t:Tm)(h:Hp)(k:St→Option β):Option β:=
 match treeOf ks ops with
 | some tr=>opsT P T ks ops tr t [] h λt _ h=>k (t,h)
 | none=>opsK P T ks ops ops t [] h k

inductive Ex where
 | normal | exit (id:Nat) | ret
 deriving DecidableEq
abbrev Ex.on{α:Type}(e:Ex)(n:α)(x:Nat→α)(r:α):α:=match e with | .normal=>n | .exit i=>x i | .ret=>r

def iterK(f:St→(Ex→St→Option β)→Option β):Nat→St→(Ex→St→Option β)→Option β
 | 0,_,_=>none
 | n+1,s,k=>f s λe s'=>e.on (iterK f n s' k) (λi=>k (.exit i) s') (k .ret s')

def condK(c:AV)(a b:Option β):Option β:=match c with | .s (.bool q)=>bif q then a else b | _=>none

def jumpC(pend:Option Code)(n:Option β)(x:Nat→Option β)(r:Option β):Option β:=
 match pend with
 | none=>n
 | some (.exit i)=>x i
 | some .ret=>r
 | _=>none
def needC:Code→Nat
 | .region _ ops _=>ops.toList.foldl (λm o=>match o.dst with | some d=>max m (d+1) | none=>m) 0
 | .seq a b=>max (needC a) (needC b)
 | .cond _ a b=>max (needC a) (needC b)
 | .block _ c=>needC c
 | .loop c=>needC c
 | .scope c=>needC c
 | _=>0
def readsC:Code→List Nat
 | .region _ ops _=>ops.toList.flatMap λo=>o.op.operands.toList.filterMap λx=>match x with | .tmp i=>some i | _=>none
 | .cond c a b=>(match c with | .tmp i=>[i] | _=>[])++readsC a++readsC b
 | .seq a b=>readsC a++readsC b
 | .block _ c=>readsC c
 | .loop c=>readsC c
 | .scope c=>readsC c
 | _=>[]
def writesC:Code→List Nat
 | .region _ ops _=>ops.toList.filterMap λo=>o.dst
 | .cond _ a b=>writesC a++writesC b
 | .seq a b=>writesC a++writesC b
 | .block _ c=>writesC c
 | .loop c=>writesC c
 | .scope c=>writesC c
 | _=>[]
def freeR(ps:List Nat)(asg body:Code):List Nat:=
 let r:=readsC asg++readsC body
 let w:=ps++writesC asg++writesC body
 (List.range (r.foldl max 0+1)).filter λi=>r.contains i && !w.contains i
def envT:List (Nat × AV)→Tm
 | []=>λ_ => .u
 | (i,v)::l=>upd (envT l) i v
def needR(asg body:Code):Nat:=max (needC asg) (needC body)
def rangeX(T:Tab)(g:AV)(m:Nat)(ps:Array Tmp)(asg body:Code)(ts:Tm)(h:Hp)(k:Option Code→Qb β):Option β:=
 match g with
 | .fn f caps=>callK (T f) (.yl h.length::caps) (h++[.loop m ps asg body ts .ready none]) λ_ h'=>
  match h'[h.length]? with
  | some (.loop m ps asg body ts st pend)=>match st with
   | .busy=>none
   | _=>k pend (h'.set h.length (.loop m ps asg body ts .exhausted pend))
  | _=>none
 | _=>none
def rangeK(T:Tab)(g:AV)(ps:Array Tmp)(asg body:Code)(t:Tm)(h:Hp)(k:Ex→St→Option β):Option β:=
 rangeX T g (needR asg body) ps asg body (envT ((freeR ps.toList asg body).map λi=>(i,t i))) h λpd h'=>jumpC pd (k .normal (t,h')) (λi=>k (.exit i) (t,h')) (k .ret (t,h'))
open Classical in
noncomputable def allSame(d:Option β):List (Option β)→Option β
 | []=>d
 | x::xs=>if ∀y ∈ xs,y=x then x else none
def leftIt(n:Nat)(seen:List Nat):List Nat:=(List.range n).filter λj => !seen.contains j
noncomputable def nextK(x:AV)(h:Hp)(k:Kb β):Option β:=
 match x with
 | .it id=>
  match h[id]? with
  | some (.iter m n seen)=>
   match h[m]? with
   | some (.map kvs)=>if kvs.length=n then allSame (k (.tup [.s (.bool false)]) h) ((leftIt n seen).map λj=>k (.tup [.s (.bool true),.u,.u]) (h.set id (.iter m n (seen++[j])))) else none
   | _=>none
  | _=>none
 | _=>none
def keyAV(v:Value):AV:=(ofV1 v).getD .u
def entryK(x:AV)(h:Hp)(k:K β):Option β:=
 match x with
 | .it id=>
  match h[id]? with
  | some (.iter m n seen)=>
   match h[m]?,seen.getLast? with
   | some (.map kvs),some j=>if kvs.length=n then match kvs[j]? with | some (ky,v)=>k (.tup [keyAV ky,v]) | none=>none else none
   | _,_=>none
  | _=>none
 | _=>none
noncomputable def regN(P:Program)(T:Tab)(ks:List Nat)(ops:List Oper)(t:Tm)(h:Hp)(k:St→Option β):Option β:=
 match ops with
 | o::os=>match o.guard,o.op with
  | none,.next x false=>nextK (ev t [] x) h λv h=>opsK P T ks ops os (putT ks t o.dst v) (putE [] o.dst v) h k
  | none,.entry x=>entryK (ev t [] x) h λv=>opsK P T ks ops os (putT ks t o.dst v) (putE [] o.dst v) h k
  | _,_=>regK P T ks ops t h k
 | []=>regK P T ks ops t h k
noncomputable def execK(P:Program)(T:Tab)(D:DTab)(N:Nat)(ks:List Nat):Code→St→(Ex→St→Option β)→Option β
 | .skip,s,k=>k .normal s
 | .region _ ops false,s,k=>regN P T ks ops.toList s.1 s.2 λs=>k .normal s
 | .region _ ops true,s,k=>match okDraw ops with | true=>(match (prsOf P ops.toList).isEmpty with | true=>regK P T ks ops.toList s.1 s.2 λs=>k .normal s | false=>opsD P D ks ops.toList (hardP ops.toList (prsOf P ops.toList)) ops.toList s.1 [] s.2 [] λs=>k .normal s) | false=>none
 | .seq a b,s,k=>execK P T D N ks a s λe s'=>e.on (execK P T D N ks b s' k) (λi=>k (.exit i) s') (k .ret s')
 | .cond c a b,s,k=>condK (ev s.1 [] c) (execK P T D N ks a s k) (execK P T D N ks b s k)
 | .block id c,s,k=>execK P T D N ks c s λe s'=>e.on (k .normal s') (λi=>match i==id with | true=>k .normal s' | false=>k (.exit i) s') (k .ret s')
 | .loop c,s,k=>iterK (λs k=>execK P T D N ks c s k) N s k
 | .scope c,s,k=>execK P T D N ks c s k
 | .rangeFunc g ps asg body,s,k=>rangeK T (ev s.1 [] g) ps asg body s.1 s.2 k
 | .exit id,s,k=>k (.exit id) s
 | .label _,s,k=>k .normal s
 | .ret,s,k=>k .ret s
 | _,_,_=>none

def outV(P:Program)(t:Tm)(h:Hp):ResultVar→Option AV
 | .tmp i=>some (t i)
 | .cell a ty=>match szOf P ty with | some n=>ldK n (aggT P ty) (t a) h some | none=>none
def outsK(P:Program)(t:Tm)(h:Hp):List ResultVar→(List AV→Option β)→Option β
 | [],k=>k []
 | .tmp i::rs,k=>outsK P t h rs λvs=>k (t i::vs)
 | .cell a ty::rs,k=>match szOf P ty with | some n=>ldK n (aggT P ty) (t a) h λv=>outsK P t h rs λvs=>k (v::vs) | none=>none
def pack:List AV→AV
 | [v]=>v
 | vs => .tup vs
def tm0:List AV→Tm
 | [],_ => .u
 | a::_,0=>a
 | _::asl,i+1=>tm0 asl i
noncomputable def finish(P:Program)(rs:List ResultVar)(e:Ex)(s:St):Option (AV × Hp):=
 e.on (outsK P s.1 s.2 rs λvs=>some (pack vs,s.2)) (λ_=>none) (outsK P s.1 s.2 rs λvs=>some (pack vs,s.2))
noncomputable def run(P:Program)(T:Tab)(D:DTab)(N:Nat)(ks:List Nat)(fn:Func)(args:List AV)(h:Hp):Option (AV × Hp):=
 match fn.body with
 | none=>none
 | some c=>execK P T D N ks c (tm0 args,h) (finish P fn.results.toList)
end Go.AM


namespace Go.AM
open Go.RowKit

inductive Loc where
 | real (blk off cap:Nat)
 | virt (a:Option Addr)
structure Mu where
 loc:Nat→Loc
 base:World
 imm:Nat→Prop
instance:CoeFun Mu (λ_=>Nat→Loc):=⟨Mu.loc⟩
def Mu.set(μ:Mu)(id:Nat)(l:Loc):Mu:={ μ with loc:=λi=>if i=id then l else μ.loc i }
@[simp] theorem Mu.set_loc(μ:Mu)(id:Nat)(l:Loc)(i:Nat):(μ.set id l).loc i=if i=id then l else μ.loc i:=rfl
@[simp] theorem Mu.set_imm(μ:Mu)(id:Nat)(l:Loc):(μ.set id l).imm=μ.imm:=rfl
@[simp] theorem Mu.set_base(μ:Mu)(id:Nat)(l:Loc):(μ.set id l).base=μ.base:=rfl
def ImmLe(μ μ':Mu):Prop:=∀k,μ.imm k→μ'.imm k∧μ'.base.heap[k]? = μ.base.heap[k]?
theorem ImmLe.refl(μ:Mu):ImmLe μ μ:=λk hk=>⟨hk,rfl⟩
theorem ImmLe.trans{a b c:Mu}(h1:ImmLe a b)(h2:ImmLe b c):ImmLe a c:=λk hk=>⟨(h2 k (h1 k hk).1).1,((h2 k (h1 k hk).1).2).trans (h1 k hk).2⟩
theorem Z2u{w w':World}{b:Nat}(hb:w'.heap[b]? = w.heap[b]?)(i:Nat):w'.cell? ⟨b,i,none⟩=w.cell? ⟨b,i,none⟩:=by simp[World.cell?,hb]
theorem ImmLe.cell{μ μ':Mu}(hi:ImmLe μ μ'){k:Nat}(hk:μ.imm k)(i:Nat):μ'.base.cell? ⟨k,i,none⟩=μ.base.cell? ⟨k,i,none⟩:=Z2u (hi k hk).2 i

def SlCap(full:Bool)(off len fr c:Nat):Prop:=(full=true→c=len)∧(full=false→fr≤off+c)
theorem SlCap.full{off len fr:Nat}:SlCap true off len fr len:=⟨λ_=>rfl,λh=>by cases h⟩
theorem SlCap.room{off len fr c:Nat}(h:fr≤off+c):SlCap false off len fr c:=⟨λh=>(by cases h),λ_=>h⟩
def SlOk(L:Loc)(sz off len:Nat)(A:Option Addr)(c:Nat):Prop:=
 match L with
 | .real blk o cap=>∃a,A=some a∧off+c≤cap∧(c≠0→a=⟨blk,o+off * sz,none⟩)
 | .virt A'=>A=A'∧c=0∧off=0

mutual
def VR(μ:Mu)(h:Hp):AV→Value→Prop
 | .u,_=>True
 | .s x,v=>gv x=true∧v=x
 | .ptr id idx sub fr,v=>∃a,v = .pointer (some a)∧∃sz es own nil,h[id]? = some (.arr sz es own nil)∧fr≤es.length ∧
   (fr=es.length→∃blk o c,μ id = .real blk o c∧a=⟨blk,o+(idx * sz+sub),none⟩)
 | .sl sz id off len fr full,v=>∃A c,v = .slice A len c∧len≤c∧(0<c→A.isSome=true)∧SlCap full off len fr c ∧
   ∃es own nil,h[id]? = some (.arr sz es own nil)∧fr≤es.length∧(fr=es.length→SlOk (μ id) sz off len A c)
 | .mp id,v=>∃kvs blk,h[id]? = some (.map kvs)∧μ id = .real blk 0 0∧v = .map (some blk)
 | .fn f caps,v=>∃vs,v = .func (.func f) #[] vs∧VRs μ h caps vs.toList
 | .yl id,v=>∃blk m ps asg body ts st pend,h[id]? = some (.loop m ps asg body ts st pend)∧μ id = .real blk 0 0∧v = .func (.yield blk) #[] #[]
 | .it id,v=>∃blk m n seen,h[id]? = some (.iter m n seen)∧μ id = .real blk 0 0∧v = .pointer (some ⟨blk,0,none⟩)
 | .lst sz nil es,v=>∃A c,v = .slice A es.length c∧es.length≤c∧c≤maxLen∧nil=A.isNone∧(A=none→c=0)∧(∀e ∈ es,e.length=sz∧∀x ∈ e,okC x=true) ∧
   (0<es.length→∃blk o vs,A=some ⟨blk,o,none⟩∧μ.imm blk∧VRf μ [] es vs∧∀j u,vs[j]? = some u→μ.base.cell? ⟨blk,o+j,none⟩=some u∧u.oneCell'=true)
 | .ep e sub,v=>∃blk o vs,v = .pointer (some ⟨blk,o+sub,none⟩)∧μ.imm blk∧VRs μ [] e vs∧∀j u,vs[j]? = some u→μ.base.cell? ⟨blk,o+j,none⟩=some u∧u.oneCell'=true
 | .agg cs,v=>∃vs,v = .agg vs∧VRs μ h cs vs.toList
 | .tup cs,v=>∃vs,v = .tuple vs∧VRs μ h cs vs.toList
def VRs(μ:Mu)(h:Hp):List AV→List Value→Prop
 | [],vs=>vs=[]
 | a::asl,vs=>∃v vs',vs=v::vs'∧VR μ h a v∧VRs μ h asl vs'
def VRf(μ:Mu)(h:Hp):List (List AV)→List Value→Prop
 | [],vs=>vs=[]
 | e::es,vs=>∃a b,vs=a++b∧VRs μ h e a∧VRf μ h es b
end
def ORel(μ:Mu)(h:Hp)(w:World)(id:Nat):AObj→Prop
 | .arr sz es own nil=>
  (∀e ∈ es,e.length=sz∧∀c ∈ e,okC c=true) ∧
  match μ id with
  | .virt A=>es=[]∧nil=A.isNone∧own=true
  | .real blk o cap=>nil=false∧es.length≤cap∧cap≤maxLen∧blk<w.heap.size ∧
    (∀(i:Nat)(e:List AV)(j:Nat)(c:AV),es[i]? = some e→e[j]? = some c→∃v,w.cell? ⟨blk,o+(i * sz+j),none⟩=some v∧v.oneCell'=true∧VR μ h c v) ∧
    (own=true→o=0∧∃cur T,w.heap[blk]? = some (.cells cur T (0,0))∧cur.size=cap * sz)
 | .map kvs=>∃blk,μ id = .real blk 0 0∧∃(es:Array MapEntry)(clock:Nat),w.heap[blk]? = some (.map es clock)∧kvs.length=es.size∧clock=es.size∧(∀(i:Nat)(e:MapEntry),es[i]? = some e→e.born=i) ∧
   ∀(i:Nat)(k:Value)(a:AV)(e:MapEntry),kvs[i]? = some (k,a)→es[i]? = some e→e.key=k∧VR μ h a e.val
 | .dead=>True
 | .loop m ps asg body ts st pend=>∃blk r,μ id = .real blk 0 0∧w.heap[blk]? = some (.loop r)∧r.state=st∧r.pending=pend∧r.params=ps∧r.assign=asg∧r.body=body∧m≤r.tmps.size ∧
   ∀i,VR μ h (ts i) (r.tmps.getD i undef)
 | .iter m n seen=>∃blk mb,μ id = .real blk 0 0∧μ m = .real mb 0 0∧(∃kvs,h[m]? = some (.map kvs))∧w.heap[blk]? = some (.mapIter (some mb) n seen.toArray n)

def isOwn:AObj→Bool
 | .arr _ _ own _=>own
 | .map _=>true
 | .dead=>false
 | .loop .. => true
 | .iter .. => true
def Own(μ:Mu)(h:Hp)(b:Nat):Prop:=∃(id:Nat)(o:AObj)(off c:Nat),h[id]? = some o∧isOwn o=true∧μ id = .real b off c

structure Rel(μ:Mu)(h:Hp)(w:World):Prop where
 obj:∀(id:Nat)(o:AObj),h[id]? = some o→ORel μ h w id o
 sep:∀(i j:Nat)(o p:AObj)(b x c y d:Nat),h[i]? = some o→h[j]? = some p→isOwn o=true→isOwn p=true→μ i = .real b x c→μ j = .real b y d→i=j
 apart:∀(i sz:Nat)(es:List (List AV))(nil:Bool)(b x c:Nat),h[i]? = some (.arr sz es false nil)→μ i = .real b x c→¬Own μ h b
 imm:∀k,μ.imm k→k<w.heap.size∧w.heap[k]? = μ.base.heap[k]? ∧ ¬Own μ h k

structure Evo(μ:Mu)(h:Hp)(μ':Mu)(h':Hp):Prop where
 imm:ImmLe μ μ'
 obj:∀(id:Nat)(o:AObj),h[id]? = some o→match o with
 | .arr sz es own nil=>∃es' nil',h'[id]? = some (.arr sz es' own nil')∧es.length≤es'.length∧(es'.length=es.length→μ' id=μ id)
 | .map _=>∃kvs',h'[id]? = some (.map kvs')∧μ' id=μ id
 | .dead=>True
 | .loop m ps asg body ts _ _=>∃st' pend',h'[id]? = some (.loop m ps asg body ts st' pend')∧μ' id=μ id
 | .iter m n _=>∃seen',h'[id]? = some (.iter m n seen')∧μ' id=μ id
def DrLe(w w':World):Prop:=True
theorem DrLe.refl(w:World):DrLe w w:=by unfold DrLe;first | exact Nat.le_refl _ | trivial
theorem DrLe.trans{a b c:World}(h1:DrLe a b)(h2:DrLe b c):DrLe a c:=by unfold DrLe at *;first | exact Nat.le_trans h1 h2 | trivial
structure Frame(S:Nat→Prop)(w w':World):Prop where
 os:w'.os=w.os
 tape:w'.tape=w.tape
 output:w'.output=w.output
 drawn:DrLe w w'
 size:w.heap.size≤w'.heap.size
 block:∀k,k<w.heap.size→¬S k→w'.heap[k]? = w.heap[k]?
structure Step(μ:Mu)(h:Hp)(w:World)(μ':Mu)(h':Hp)(w':World):Prop where
 rel:Rel μ' h' w'
 evo:Evo μ h μ' h'
 frame:Frame (Own μ h) w w'
 own:∀b,Own μ' h' b→Own μ h b∨w.heap.size≤b
 fresh:∀k,μ'.imm k→μ.imm k∨Own μ h k∨w.heap.size≤k

theorem Evo.refl(μ:Mu)(h:Hp):Evo μ h μ h:=by
 refine ⟨ImmLe.refl _, ?_⟩;intro id o ho;cases o with
 | arr sz es own nil=>exact ⟨es,nil,ho,Nat.le_refl _,λ_=>rfl⟩
 | map kvs=>exact ⟨kvs,ho,rfl⟩
 | dead=>trivial
 | loop m ps asg body ts st pend=>exact ⟨st,pend,ho,rfl⟩
 | iter m n seen=>exact ⟨seen,ho,rfl⟩
theorem Evo.nil{μ μ':Mu}{h':Hp}(hi:ImmLe μ μ'):Evo μ [] μ' h':=⟨hi,λid o ho=>by simp at ho⟩
theorem Evo.trans{μ μ1 μ2:Mu}{h h1 h2:Hp}(a:Evo μ h μ1 h1)(b:Evo μ1 h1 μ2 h2):Evo μ h μ2 h2:=by
 refine ⟨a.imm.trans b.imm, ?_⟩;intro id o ho;have:=a.obj id o ho;cases o with
 | arr sz es own nil=>
  obtain ⟨es1,nil1,h1e,l1,m1⟩:=this;obtain ⟨es2,nil2,h2e,l2,m2⟩:=b.obj id _ h1e;exact ⟨es2,nil2,h2e,by omega,λe=>(m2 (by omega)).trans (m1 (by omega))⟩
 | map kvs=>
  obtain ⟨k1,h1e,m1⟩:=this;obtain ⟨k2,h2e,m2⟩:=b.obj id _ h1e;exact ⟨k2,h2e,m2.trans m1⟩
 | dead=>trivial
 | loop m ps asg body ts st pend=>
  obtain ⟨s1,p1,h1e,m1⟩:=this;obtain ⟨s2,p2,h2e,m2⟩:=b.obj id _ h1e;exact ⟨s2,p2,h2e,m2.trans m1⟩
 | iter m n seen=>
  obtain ⟨k1,h1e,m1⟩:=this;obtain ⟨k2,h2e,m2⟩:=b.obj id _ h1e;exact ⟨k2,h2e,m2.trans m1⟩
theorem Frame.refl(S:Nat→Prop)(w:World):Frame S w w:=⟨rfl,rfl,rfl,DrLe.refl _,Nat.le_refl _,λ_ _ _=>rfl⟩
theorem Frame.trans{S S1:Nat→Prop}{w w1 w2:World}(a:Frame S w w1)(b:Frame S1 w1 w2)(hs:∀k,S1 k→S k∨w.heap.size≤k):Frame S w w2:=
 ⟨b.os.trans a.os,b.tape.trans a.tape,b.output.trans a.output,a.drawn.trans b.drawn,Nat.le_trans a.size b.size,
  λk hk hn=>(b.block k (Nat.lt_of_lt_of_le hk a.size) (λh1=>(hs k h1).elim hn (by omega))).trans (a.block k hk hn)⟩
theorem Step.refl{μ:Mu}{h:Hp}{w:World}(r:Rel μ h w):Step μ h w μ h w:=⟨r,Evo.refl _ _,Frame.refl _ _,λ_ hb => .inl hb,λ_ hb => .inl hb⟩
theorem Step.trans{μ μ1 μ2:Mu}{h h1 h2:Hp}{w w1 w2:World}(a:Step μ h w μ1 h1 w1)(b:Step μ1 h1 w1 μ2 h2 w2):Step μ h w μ2 h2 w2:=
 ⟨b.rel,a.evo.trans b.evo,a.frame.trans b.frame a.own,λk hk=>(b.own k hk).elim (λh=>a.own k h) (λh => .inr (Nat.le_trans a.frame.size h)),
  λk hk=>(b.fresh k hk).elim (λh=>a.fresh k h) λh=>h.elim (λh => .inr (a.own k h)) λh => .inr (.inr (Nat.le_trans a.frame.size h))⟩

mutual
theorem VR.evo{μ μ':Mu}{h h':Hp}(he:Evo μ h μ' h'):∀(a:AV)(v:Value),VR μ h a v→VR μ' h' a v
 | .u,_,_=>by simp[VR]
 | .s _,_,hv=>by simpa [VR] using hv
 | .ptr id idx sub fr,v,hv=>by
  simp only[VR] at hv ⊢
  obtain ⟨a,rfl,sz,es,own,nil,hid,hl,hc⟩:=hv;obtain ⟨es',nil',hid',hl',hm⟩:=he.obj id _ hid;exact ⟨a,rfl,sz,es',own,nil',hid',by omega,λe=>by rw[hm (by omega)];exact hc (by omega)⟩
 | .sl sz id off len fr full,v,hv=>by
  simp only[VR] at hv ⊢
  obtain ⟨A,c,rfl,h1,h2,h3,es,own,nil,hid,hl,hc⟩:=hv;obtain ⟨es',nil',hid',hl',hm⟩:=he.obj id _ hid;exact ⟨A,c,rfl,h1,h2,h3,es',own,nil',hid',by omega,λe=>by rw[hm (by omega)];exact hc (by omega)⟩
 | .mp id,v,hv=>by
  simp only[VR] at hv ⊢
  obtain ⟨kvs,blk,hid,hm,rfl⟩:=hv;obtain ⟨kvs',hid',hm'⟩:=he.obj id _ hid;exact ⟨kvs',blk,hid',hm'.trans hm,rfl⟩
 | .fn f caps,v,hv=>by
  simp only[VR] at hv ⊢
  obtain ⟨vs,rfl,hc⟩:=hv;exact ⟨vs,rfl,VRs.evo he caps _ hc⟩
 | .yl id,v,hv=>by
  simp only[VR] at hv ⊢
  obtain ⟨blk,m,ps,asg,body,ts,st,pend,hid,hm,rfl⟩:=hv;obtain ⟨st',pend',hid',hm'⟩:=he.obj id _ hid;exact ⟨blk,m,ps,asg,body,ts,st',pend',hid',hm'.trans hm,rfl⟩
 | .it id,v,hv=>by
  simp only[VR] at hv ⊢
  obtain ⟨blk,m,n,seen,hid,hm,rfl⟩:=hv;obtain ⟨seen',hid',hm'⟩:=he.obj id _ hid;exact ⟨blk,m,n,seen',hid',hm'.trans hm,rfl⟩
 | .lst sz nil es,v,hv=>by
  simp only[VR] at hv ⊢
  obtain ⟨A,c,rfl,h1,h2,h3,h4,h5,h6⟩:=hv;refine ⟨A,c,rfl,h1,h2,h3,h4,h5,λhp => ?_⟩
  obtain ⟨blk,o,vs,rfl,hi,hf,hc⟩:=h6 hp;exact ⟨blk,o,vs,rfl,(he.imm _ hi).1,VRf.evo (Evo.nil he.imm) es _ hf,λj u hu=>⟨(he.imm.cell hi _).trans (hc j u hu).1,(hc j u hu).2⟩⟩
 | .ep e sub,v,hv=>by
  simp only[VR] at hv ⊢
  obtain ⟨blk,o,vs,rfl,hi,hf,hc⟩:=hv;exact ⟨blk,o,vs,rfl,(he.imm _ hi).1,VRs.evo (Evo.nil he.imm) e _ hf,λj u hu=>⟨(he.imm.cell hi _).trans (hc j u hu).1,(hc j u hu).2⟩⟩
 | .agg cs,v,hv=>by
  simp only[VR] at hv ⊢
  obtain ⟨vs,rfl,hc⟩:=hv;exact ⟨vs,rfl,VRs.evo he cs _ hc⟩
 | .tup cs,v,hv=>by
  simp only[VR] at hv ⊢
  obtain ⟨vs,rfl,hc⟩:=hv;exact ⟨vs,rfl,VRs.evo he cs _ hc⟩
theorem VRs.evo{μ μ':Mu}{h h':Hp}(he:Evo μ h μ' h'):∀(asl:List AV)(vs:List Value),VRs μ h asl vs→VRs μ' h' asl vs
 | [],_,hv=>by simpa [VRs] using hv
 | a::asl,vs,hv=>by
  simp only[VRs] at hv ⊢
  obtain ⟨v,vs',rfl,h1,h2⟩:=hv;exact ⟨v,vs',rfl,VR.evo he a v h1,VRs.evo he asl vs' h2⟩
theorem VRf.evo{μ μ':Mu}{h h':Hp}(he:Evo μ h μ' h'):∀(es:List (List AV))(vs:List Value),VRf μ h es vs→VRf μ' h' es vs
 | [],_,hv=>by simpa [VRf] using hv
 | e::es,vs,hv=>by
  simp only[VRf] at hv ⊢
  obtain ⟨a,b,rfl,h1,h2⟩:=hv;exact ⟨a,b,rfl,VRs.evo he e a h1,VRf.evo he es b h2⟩
end
theorem VR.lift{μ:Mu}(h:Hp){a:AV}{v:Value}(hv:VR μ [] a v):VR μ h a v:=VR.evo ⟨ImmLe.refl _,λid o ho=>by simp at ho⟩ a v hv
theorem VRs.lift{μ:Mu}(h:Hp){asl:List AV}{vs:List Value}(hv:VRs μ [] asl vs):VRs μ h asl vs:=VRs.evo ⟨ImmLe.refl _,λid o ho=>by simp at ho⟩ asl vs hv
theorem VRf.flat{μ:Mu}{h:Hp}:∀{es:List (List AV)}{vs:List Value},VRf μ h es vs→VRs μ h es.flatten vs
 | [],_,hv=>by simpa [VRf,VRs] using hv
 | e::es,_,hv=>by
  simp only[VRf] at hv;obtain ⟨a,b,rfl,h1,h2⟩:=hv
  rw[List.flatten_cons];exact VRs.app h1 (VRf.flat h2)
where
 VRs.app {μ:Mu} {h:Hp}:∀{asl bs:List AV}{vs ws:List Value},VRs μ h asl vs→VRs μ h bs ws→VRs μ h (asl++bs) (vs++ws)
 | [],_,_,_,h1,h2=>by simp only[VRs] at h1;subst h1;simpa using h2
 | a::asl,_,_,_,h1,h2=>by
  simp only[VRs] at h1;obtain ⟨v,vs',rfl,h3,h4⟩:=h1
  simp only[List.cons_append,VRs];exact ⟨v,vs'++_,rfl,h3,VRs.app h4 h2⟩

theorem VRs.length{μ:Mu}{h:Hp}:∀{asl:List AV}{vs:List Value},VRs μ h asl vs→asl.length=vs.length
 | [],_,hv=>by simp only[VRs] at hv;subst hv;rfl
 | _::_,_,hv=>by
  simp only[VRs] at hv;obtain ⟨_,_,rfl,_,h2⟩:=hv
  simp[VRs.length h2]
theorem VRs.get{μ:Mu}{h:Hp}:∀{asl:List AV}{vs:List Value},VRs μ h asl vs→∀(i:Nat)(a:AV),asl[i]? = some a→∃v,vs[i]? = some v∧VR μ h a v
 | [],_,hv,i,a,ha=>by simp at ha
 | x::asl,_,hv,i,a,ha=>by
  simp only[VRs] at hv;obtain ⟨v,vs',rfl,h1,h2⟩:=hv
  cases i with
  | zero=>simp at ha;subst ha;exact ⟨v,by simp,h1⟩
  | succ i=>simp at ha;obtain ⟨v',e,r⟩:=VRs.get h2 i a ha;exact ⟨v',by simpa using e,r⟩
theorem VRs.of_get{μ:Mu}{h:Hp}:∀{asl:List AV}{vs:List Value},asl.length=vs.length→(∀(i:Nat)(a:AV)(v:Value),asl[i]? = some a→vs[i]? = some v→VR μ h a v)→VRs μ h asl vs
 | [],vs,hl,_=>by simp only[VRs];simpa using hl.symm
 | a::asl,[],hl,_=>by simp at hl
 | a::asl,v::vs,hl,hg=>by
  simp only[VRs];exact ⟨v,vs,rfl,hg 0 a v rfl rfl,VRs.of_get (by simpa using hl) (λi a' v' h1 h2=>hg (i+1) a' v' (by simpa using h1) (by simpa using h2))⟩
theorem VRs.append{μ:Mu}{h:Hp}:∀{asl bs:List AV}{vs ws:List Value},VRs μ h asl vs→VRs μ h bs ws→VRs μ h (asl++bs) (vs++ws)
 | [],_,_,_,h1,h2=>by simp only[VRs] at h1;subst h1;simpa using h2
 | a::asl,_,_,_,h1,h2=>by
  simp only[VRs] at h1;obtain ⟨v,vs',rfl,h3,h4⟩:=h1
  simp only[List.cons_append,VRs];exact ⟨v,vs'++_,rfl,h3,VRs.append h4 h2⟩
theorem VRs.take{μ:Mu}{h:Hp}:∀{asl:List AV}{vs:List Value}(n:Nat),VRs μ h asl vs→VRs μ h (asl.take n) (vs.take n)
 | asl,_,0,_=>by simp[VRs]
 | [],_,n+1,h1=>by simp only[VRs] at h1;subst h1;simp[VRs]
 | a::asl,_,n+1,h1=>by
  simp only[VRs] at h1;obtain ⟨v,vs',rfl,h3,h4⟩:=h1
  simp only[List.take_succ_cons,VRs];exact ⟨v,vs'.take n,rfl,h3,VRs.take n h4⟩
theorem VRs.drop{μ:Mu}{h:Hp}:∀{asl:List AV}{vs:List Value}(n:Nat),VRs μ h asl vs→VRs μ h (asl.drop n) (vs.drop n)
 | asl,_,0,h1=>by simpa using h1
 | [],_,n+1,h1=>by simp only[VRs] at h1;subst h1;simp[VRs]
 | a::asl,_,n+1,h1=>by
  simp only[VRs] at h1;obtain ⟨v,vs',rfl,h3,h4⟩:=h1
  simpa using VRs.drop n h4
theorem VRs.map{μ:Mu}{h:Hp}{γ:Type}(f:γ→AV)(g:γ→Value)(hf:∀x,VR μ h (f x) (g x)):∀l:List γ,VRs μ h (l.map f) (l.map g)
 | []=>by simp[VRs]
 | x::l=>by simp only[List.map_cons,VRs];exact ⟨_,_,rfl,hf x,VRs.map f g hf l⟩

theorem Zm4{v:Value}(h:gv v=true):v.oneCell'=true:=by cases v<;>simp_all[gv,Value.oneCell']
theorem VR.one{μ:Mu}{h:Hp}{a:AV}{v:Value}(hv:VR μ h a v)(ok:okC a=true):v.oneCell'=true:=by
 cases a with
 | s x=>simp only[VR] at hv;rw[hv.2];exact Zm4 hv.1
 | ptr=>simp only[VR] at hv;obtain ⟨_,rfl,_⟩:=hv;rfl
 | sl=>simp only[VR] at hv;obtain ⟨_,_,rfl,_⟩:=hv;rfl
 | mp=>simp only[VR] at hv;obtain ⟨_,_,_,_,rfl⟩:=hv;rfl
 | fn=>simp only[VR] at hv;obtain ⟨_,rfl,_⟩:=hv;rfl
 | yl=>simp only[VR] at hv;obtain ⟨_,_,_,_,_,_,_,_,_,_,rfl⟩:=hv;rfl
 | it=>simp only[VR] at hv;obtain ⟨_,_,_,_,_,_,rfl⟩:=hv;rfl
 | lst=>simp only[VR] at hv;obtain ⟨_,_,rfl,_⟩:=hv;rfl
 | ep=>simp only[VR] at hv;obtain ⟨_,_,_,rfl,_⟩:=hv;rfl
 | u=>simp[okC] at ok
 | agg=>simp[okC] at ok
 | tup=>simp[okC] at ok
theorem VR.cells{μ:Mu}{h:Hp}{a:AV}{v:Value}(hv:VR μ h a v)(ok:(cellsOf a).all okC=true):VRs μ h (cellsOf a) v.cells.toList:=by
 cases a with
 | agg cs=>simp only[VR] at hv;obtain ⟨vs,rfl,hc⟩:=hv;simpa [cellsOf,Value.cells] using hc
 | tup cs=>simp[cellsOf,okC] at ok
 | u=>simp[cellsOf,okC] at ok
 | _=>
  have h1:=VR.one hv (by simpa [cellsOf] using ok)
  have:v.cells = #[v]:=by cases v<;>simp_all[Value.cells,Value.oneCell']
  rw[this];simp only[cellsOf,VRs];exact ⟨v,[],rfl,hv,rfl⟩
theorem VR.toV{μ:Mu}{h:Hp}{a:AV}{v x:Value}(hv:VR μ h a v)(hx:toV a=some x):v=x:=by
 cases a with
 | s y=>simp only[AM.toV] at hx;split at hx<;>simp_all[VR]
 | agg cs=>
  simp only[VR] at hv;obtain ⟨vs,rfl,hc⟩:=hv
  simp only[AM.toV,Option.map_eq_some_iff] at hx;obtain ⟨xs,hxs,rfl⟩:=hx
  have:∀(cs:List AV)(vs xs:List Value),VRs μ h cs vs→cs.mapM cellV=some xs→vs=xs:=by
   intro cs;induction cs with
   | nil=>intro vs xs h1 h2;simp only[VRs] at h1;simp at h2;simp[h1,h2]
   | cons c cs ih=>
    intro vs xs h1 h2;simp only[VRs] at h1
    obtain ⟨v,vs',rfl,h3,h4⟩:=h1;simp only[List.mapM_cons,bind,Option.bind_eq_some_iff,pure,Option.some.injEq] at h2;obtain ⟨x,hx1,xs',hx2,rfl⟩:=h2
    have e1:v=x:=by
     cases c<;>simp only[cellV] at hx1<;>try (simp at hx1;done)
     split at hx1<;>simp_all[VR]
    rw[e1,ih vs' xs' h4 hx2]
  have e:=this cs vs.toList xs hc hxs;rw[← e]
 | _=>simp[AM.toV] at hx
theorem VR.ofC{μ:Mu}{h:Hp}{v:Value}{a:AV}(hx:ofC v=some a):VR μ h a v:=by
 unfold AM.ofC at hx
 split at hx
 ·simp at hx;subst hx;simp[VR, *]
 ·simp at hx
theorem VR.ofV1{μ:Mu}{h:Hp}{v:Value}{a:AV}(hx:ofV1 v=some a):VR μ h a v:=by
 unfold AM.ofV1 at hx
 split at hx
 ·rename_i cs
  simp only[Option.map_eq_some_iff] at hx;obtain ⟨asl,has,rfl⟩:=hx
  simp only[VR];refine ⟨cs,rfl, ?_⟩
  have:∀(l:List Value)(asl:List AV),l.mapM AM.ofC=some asl→VRs μ h asl l:=by
   intro l;induction l with
   | nil=>intro asl h1;simp at h1;subst h1;simp[VRs]
   | cons x l ih=>
    intro asl h1;simp only[List.mapM_cons,bind,Option.bind_eq_some_iff,pure,Option.some.injEq] at h1
    obtain ⟨y,hy,ys,hys,rfl⟩:=h1;simp only[VRs];exact ⟨x,l,rfl,VR.ofC hy,ih ys hys⟩
  exact this _ _ has
 ·exact VR.ofC hx
theorem VRf.get{μ:Mu}{h:Hp}{sz:Nat}:∀{es:List (List AV)}{vs:List Value},VRf μ h es vs→(∀e ∈ es,e.length=sz)→∀(i:Nat)(e:List AV),es[i]? = some e→
  ∃us,VRs μ h e us∧∀(j:Nat)(u:Value),us[j]? = some u→vs[i * sz+j]? = some u
 | [],_,_,_,i,e,he=>by simp at he
 | x::es,_,hv,hs,i,e,he=>by
  simp only[VRf] at hv;obtain ⟨a,b,rfl,h1,h2⟩:=hv
  have hl:a.length=sz:=by rw[← h1.length];exact hs x (by simp)
  cases i with
  | zero=>
   simp at he
   subst he;exact ⟨a,h1,λj u hu=>by rw[Nat.zero_mul,Nat.zero_add,List.getElem?_append_left (List.getElem?_eq_some_iff.1 hu).1];exact hu⟩
  | succ i=>
   simp at he
   obtain ⟨us,g1,g2⟩:=VRf.get h2 (λe he=>hs e (by simp[he])) i e he
   refine ⟨us,g1,λj u hu => ?_⟩
   rw[Nat.add_mul,Nat.one_mul,List.getElem?_append_right (by omega)]
   have:=g2 j u hu
   rw[← this];congr 1
   omega
theorem VRf.take{μ:Mu}{h:Hp}:∀{es:List (List AV)}{vs:List Value}(n:Nat),VRf μ h es vs→∃us,VRf μ h (es.take n) us∧∀(j:Nat)(u:Value),us[j]? = some u→vs[j]? = some u
 | es,_,0,_=>⟨[],by simp[VRf],λj u hu=>by simp at hu⟩
 | [],_,n+1,h1=>⟨[],by simp[VRf],λj u hu=>by simp at hu⟩
 | e::es,_,n+1,h1=>by
  simp only[VRf] at h1;obtain ⟨a,b,rfl,h3,h4⟩:=h1
  obtain ⟨us,g1,g2⟩:=VRf.take n h4;refine ⟨a++us,by simp only[List.take_succ_cons,VRf];exact ⟨a,us,rfl,h3,g1⟩,λj u hu => ?_⟩
  rcases Nat.lt_or_ge j a.length with hj | hj
  ·rw[List.getElem?_append_left hj] at hu ⊢;exact hu
  ·rw[List.getElem?_append_right hj] at hu ⊢;exact g2 _ _ hu
theorem VRf.drop{μ:Mu}{h:Hp}{sz:Nat}:∀{es:List (List AV)}{vs:List Value}(n:Nat),VRf μ h es vs→(∀e ∈ es,e.length=sz)→n≤es.length→∃us,VRf μ h (es.drop n) us∧∀(j:Nat)(u:Value),us[j]? = some u→vs[n * sz+j]? = some u
 | es,vs,0,h1,_,_=>⟨vs,by simpa using h1,λj u hu=>by simpa using hu⟩
 | [],_,n+1,h1,_,hn=>by simp at hn
 | e::es,_,n+1,h1,hs,hn=>by
  simp only[VRf] at h1;obtain ⟨a,b,rfl,h3,h4⟩:=h1
  have hl:a.length=sz:=by rw[← h3.length];exact hs e (by simp)
  obtain ⟨us,g1,g2⟩:=VRf.drop n h4 (λe he=>hs e (by simp[he])) (by simpa using hn)
  refine ⟨us,by simpa using g1,λj u hu => ?_⟩
  rw[Nat.add_mul,Nat.one_mul,List.getElem?_append_right (by omega)]
  have:=g2 j u hu
  rw[← this];congr 1
  omega
theorem Z1L{α:Type}{P:Program}:∀(s:Sem α)(a:α),pureVal P s=some a→∀w,s.run P w = .ok a w:=by
 intro s;induction s with
 | pure a=>intro b hb w;simp[pureVal] at hb;subst hb;rfl
 | program k ih=>intro b hb w;simp only[pureVal] at hb;simp only[Sem.run];exact ih P b hb w
 | _=>intro b hb;simp[pureVal] at hb
end Go.AM


namespace Go.AM
variable {β:Type}
theorem Zm5(op:BinOp)(x y:AV)(k:K β):arithK op x y k=(arithK op x y some).bind k:=by
 unfold arithK;split<;>first | rfl | (split<;>first | rfl | (split<;>rfl))
theorem Zet(P:Program)(op:BinOp)(ty:TypeId)(x y:AV)(k:K β):reckK P op ty x y k=(reckK P op ty x y some).bind k:=by
 unfold reckK;split<;>first | rfl | (split<;>first | rfl | (split<;>rfl))
theorem Zm6(P:Program)(neq:Bool)(ty:TypeId)(x y:AV)(h:Hp)(k:K β):eqK P neq ty x y h k=(eqK P neq ty x y h some).bind k:=by
 unfold eqK;split
 ·split<;>rfl
 ·split<;>rfl
 ·split
  ·split<;>rfl
  ·rfl
 ·split<;>rfl
 ·split<;>rfl
 ·split<;>rfl
 ·exact Zet ..
theorem Zm7(P:Program)(op:BinOp)(ty:TypeId)(x y:AV)(h:Hp)(k:K β):binK P op ty x y h k=(binK P op ty x y h some).bind k:=by
 unfold binK;split<;>first | exact Zm5 .. | exact Zm6 .. | exact Zet ..
theorem Zm8(x:AV)(k:K β):notK x k=(notK x some).bind k:=by unfold notK;split<;>rfl
theorem Zm9(P:Program)(op:UnOp)(x:AV)(k:K β):unK P op x k=(unK P op x some).bind k:=by
 unfold unK;split
 ·exact Zm8 ..
 ·split<;>first | rfl | (split<;>first | rfl | (split<;>rfl))
theorem Zma(P:Program)(a b:TypeId)(x:AV)(k:K β):convK P a b x k=(convK P a b x some).bind k:=by
 unfold convK;split<;>first | rfl | (split<;>first | rfl | (split<;>rfl))
theorem ZaB(c a b:AV)(k:K β):pickK c a b k=(pickK c a b some).bind k:=by unfold pickK;split<;>rfl
theorem Zmb(z:List AV)(ps:List (Option (Nat × Nat) × AV))(k:K β):buildK z ps k=(buildK z ps some).bind k:=by unfold buildK;split<;>rfl
theorem Zeu(n:Nat)(agg:Bool)(p:AV)(h:Hp)(k:K β):ldK n agg p h k=(ldK n agg p h some).bind k:=by
 unfold ldK;split<;>first | rfl | (split<;>first | rfl | (split<;>first | rfl | (split<;>first | rfl | (split<;>rfl))))
theorem Zmc(x:AV)(k:K β):nilK x k=(nilK x some).bind k:=by unfold nilK;split<;>rfl
theorem Zmd(n:Nat)(x:AV)(lo hi mx:Option AV)(k:K β):sliceK n x lo hi mx k=(sliceK n x lo hi mx some).bind k:=by
 unfold sliceK;split<;>first | rfl | (split<;>first | rfl | (split<;>first | rfl | (split<;>rfl)))
theorem Zme(n len:Nat)(agg:Bool)(x i:AV)(k:K β):ixA n len agg x i k=(ixA n len agg x i some).bind k:=by unfold ixA;split<;>first | rfl | (split<;>first | rfl | (split<;>rfl))
theorem Zmf(x:AV)(k:K β):capK x k=(capK x some).bind k:=by unfold capK;split<;>rfl
theorem Zmg(off:Nat)(p:AV)(k:K β):faK off p k=(faK off p some).bind k:=by unfold faK;split<;>rfl
theorem Zmh(n:Nat)(agg:Bool)(off:Nat)(x:AV)(k:K β):fldK n agg off x k=(fldK n agg off x some).bind k:=by
 unfold fldK;split<;>first | rfl | (split<;>rfl)
theorem Zmi(n:Nat)(x i:AV)(k:K β):iaK n x i k=(iaK n x i some).bind k:=by unfold iaK;split<;>first | rfl | (split<;>first | rfl | (split<;>rfl))
theorem Zmj(n len:Nat)(x i:AV)(k:K β):iaA n len x i k=(iaA n len x i some).bind k:=by unfold iaA;split<;>first | rfl | (split<;>rfl)
theorem Zmk(x i:AV)(k:K β):chK x i k=(chK x i some).bind k:=by unfold chK;split<;>first | rfl | (split<;>first | rfl | (split<;>rfl))
theorem Zml(P:Program)(kt:TypeId)(z:AV)(ok:Bool)(m kk:AV)(h:Hp)(k:K β):lookK P kt z ok m kk h k=(lookK P kt z ok m kk h some).bind k:=by
 unfold lookK;split<;>first | rfl | (split<;>first | rfl | (split<;>first | rfl | (split<;>rfl)))
theorem Zmm(x:AV)(i:Nat)(k:K β):exK x i k=(exK x i some).bind k:=by unfold exK;split<;>first | rfl | (split<;>rfl)
theorem Zev(x:AV)(k:K β):lenK x k=(lenK x some).bind k:=by unfold lenK;split<;>rfl
theorem Zmn(x:AV)(h:Hp)(k:K β):lenM x h k=(lenM x h some).bind k:=by unfold lenM;split<;>first | rfl | (split<;>rfl)
theorem Zmo(x y:AV)(k:K β):minK x y k=(minK x y some).bind k:=by unfold minK;split<;>first | rfl | (split<;>rfl)
theorem Zmp(x y:AV)(k:K β):maxK x y k=(maxK x y some).bind k:=by unfold maxK;split<;>first | rfl | (split<;>rfl)
theorem Z1g(P:Program)(r:Operand→AV)(h:Hp)(o:Op)(k:K β):pureK P r h o k=(pureK P r h o some).bind k:=by
 unfold pureK;cases o<;>try rfl
 case pick=>exact ZaB ..
 case build=>dsimp only;split<;>first | rfl | exact Zmb ..
 case load=>dsimp only;split<;>first | rfl | exact Zeu ..
 case nilCheck=>exact Zmc ..
 case binOp=>exact Zm7 ..
 case unOp=>exact Zm9 ..
 case convert=>exact Zma ..
 case makeFunc fn first caps=>cases fn<;>first | rfl | (dsimp only;split<;>rfl)
 case slice=>dsimp only;split<;>first | rfl | exact Zmd ..
 case fieldAddr=>dsimp only;split<;>first | rfl | (split<;>first | rfl | exact Zmg ..)
 case field=>dsimp only;split<;>first | rfl | (split<;>first | rfl | exact Zmh ..)
 case indexAddr=>dsimp only;split<;>(split<;>first | rfl | exact Zmi .. | exact Zmj ..)
 case index=>dsimp only;split<;>first | rfl | exact Zmk .. | (split<;>first | rfl | exact Zme ..)
 case lookup=>dsimp only;split<;>first | rfl | (split<;>first | rfl | exact Zml ..)
 case extract=>exact Zmm ..
 case call c=>
  dsimp only
  split
  ·split<;>first | rfl | (split<;>first | rfl | exact Zev .. | exact Zmn ..)
  ·split<;>first | rfl | exact Zmo ..
  ·split<;>first | rfl | exact Zmp ..
  ·split<;>first | rfl | (split<;>first | rfl | exact Zmf ..)
  ·rfl
end Go.AM


namespace Go.AM
open Go.RowKit
variable {P:Program} {μ:Mu} {h:Hp} {w:World}

theorem Zmq{s:Sem Value}{a:Value}{w w':World}(hs:s.run P w = .ok a w'):(do pure (Next.value (← s)):Sem Next).run P w = .ok (.value a) w':=by
 simp[Sem.run_bind,hs]
theorem Zmr{t n:Nat}(hs:szOf P t=some n):∃d,P.underlying t=some d:=by
 unfold szOf at hs;split at hs
 ·rename_i d hd;exact ⟨d,hd⟩
 ·simp at hs
theorem Zew{t n:Nat}(hs:szOf P t=some n):∃i,P.info? t=some i∧i.size=n:=by
 unfold szOf at hs;split at hs<;>try (simp at hs;done)
 cases hi:P.info? t with
 | none=>simp[hi] at hs
 | some i=>simp[hi] at hs;exact ⟨i,rfl,hs⟩
theorem Z0h{t n:Nat}(hs:szOf P t=some n)(w:World):(Go.sizeOf t).run P w = .ok n w:=by
 obtain ⟨i,hi,rfl⟩:=Zew hs;simp[Go.sizeOf,typeInfo,hi]
theorem Z47{t n:Nat}(hs:szOf P t=some n)(w:World):(isAgg t).run P w = .ok (aggT P t) w:=by
 obtain ⟨d,hd⟩:=Zmr hs;unfold isAgg aggT;rw[Sem.run_bind,run_underlying hd w];simp only[hd,Result.andThen_ok];cases d<;>rfl

theorem Zex(R:Rel μ h w){id sz idx j:Nat}{es:List (List AV)}{own nil:Bool}{e:List AV}{c:AV}
  (ho:h[id]? = some (.arr sz es own nil)) (he:es[idx]? = some e) (hc:e[j]? = some c):
  ∃blk o cap v,μ id = .real blk o cap∧w.cell? ⟨blk,o+(idx * sz+j),none⟩=some v∧v.oneCell'=true∧VR μ h c v:=by
 have:=(R.obj id _ ho).2
 cases hm:μ id with
 | virt A=>rw[hm] at this;obtain ⟨rfl,_⟩:=this;simp at he
 | real blk o cap=>
  rw[hm] at this;obtain ⟨v,h1,h2,h3⟩:=this.2.2.2.2.1 idx e j c he hc
  exact ⟨blk,o,cap,v,rfl,h1,h2,h3⟩
theorem Zey(R:Rel μ h w){id sz idx:Nat}{es:List (List AV)}{own nil:Bool}{e:List AV}
  (ho:h[id]? = some (.arr sz es own nil)) (he:es[idx]? = some e):e.length=sz∧∀c ∈ e,okC c=true:=
 (R.obj id _ ho).1 e (List.mem_of_getElem? he)
theorem Zez(R:Rel μ h w){id sz idx:Nat}{es:List (List AV)}{own nil:Bool}{e:List AV}{blk o cap:Nat}
  (ho:h[id]? = some (.arr sz es own nil)) (he:es[idx]? = some e) (hm:μ id = .real blk o cap) (sub n:Nat) (hn:sub+n≤e.length):
  ∃vs:List Value,vs.length=n∧VRs μ h ((e.drop sub).take n) vs∧(∀v ∈ vs,v.oneCell'=true) ∧
   ∀j v,vs[j]? = some v→w.cell? ⟨blk,o+(idx * sz+sub)+j,none⟩=some v:=by
 induction n with
 | zero=>exact ⟨[],rfl,by simp[VRs],by simp,by simp⟩
 | succ n ih=>
  obtain ⟨vs,hl,hr,h1,hc⟩:=ih (by omega)
  have hlt:sub+n<e.length:=by omega
  obtain ⟨blk',o',cap',v,hm',hcell,hone,hv⟩:=Zex R ho he (List.getElem?_eq_getElem hlt);rw[hm] at hm';obtain ⟨rfl,rfl,rfl⟩:blk=blk'∧o=o'∧cap=cap':=by injection hm' with a b c;exact ⟨a,b,c⟩
  refine ⟨vs++[v],by simp[hl], ?_, ?_, ?_⟩
  ·have:(e.drop sub).take (n+1)=(e.drop sub).take n++[e[sub+n]]:=by
    rw[List.take_add_one,List.getElem?_drop,List.getElem?_eq_getElem hlt];rfl
   rw[this];exact VRs.append hr (by simp only[VRs];exact ⟨v,[],rfl,hv,rfl⟩)
  ·intro x hx
   rcases List.mem_append.1 hx with hx | hx
   ·exact h1 x hx
   ·simp at hx;subst hx;exact hone
  ·intro j x hx
   rcases Nat.lt_or_ge j vs.length with hj | hj
   ·rw[List.getElem?_append_left hj] at hx;exact hc j x hx
   ·rw[List.getElem?_append_right hj] at hx
    have:j-vs.length=0:=by
     rcases Nat.eq_zero_or_pos (j-vs.length) with h0 | h0
     ·exact h0
     ·rw[List.getElem?_eq_none (by simp;omega)] at hx;simp at hx
    rw[this] at hx;simp at hx
    subst hx;have ej:j=n:=by omega
    subst ej;rw[← hcell]
    congr 2
    omega

theorem Zms(R:Rel μ h w){n sub:Nat}{ty:TypeId}{e:List AV}{a:AV}{v:Value}(hv:VR μ h (.ep e sub) v)(hs:szOf P ty=some n)
  (hb:pickC n (aggT P ty) e sub=some a):∃v',(Instr.loadAt ty v).run P w = .ok v' w∧VR μ h a v':=by
 simp only[VR] at hv;obtain ⟨blk,o,vs,rfl,hi,hvs,hc⟩:=hv
 have hvs':=hvs.lift h;have hw:∀j u,vs[j]? = some u→w.cell? ⟨blk,o+j,none⟩=some u:=λj u hu=>(Z2u (R.imm _ hi).2.1 _).trans (hc j u hu).1
 have hagg:=Z47 hs w;have hsz:=Z0h hs w;unfold pickC at hb;cases hag:aggT P ty with
 | true=>
  simp only[hag,if_true] at hb;split at hb<;>try (simp at hb;done)
  rename_i hle;simp only[Option.some.injEq] at hb
  subst hb;have hle':sub+n≤vs.length:=by rw[← hvs.length];exact hle
  refine ⟨.agg ((vs.drop sub).take n).toArray, ?_,by simp only[VR];exact ⟨_,rfl,VRs.take n (VRs.drop sub hvs')⟩⟩
  have hld:=run_loadCells_list (P:=P) w ⟨blk,o+sub,none⟩ ((vs.drop sub).take n) (λj x hx=>by
   rw[Addr.add_mid];rw[List.getElem?_take] at hx;split at hx<;>try (simp at hx;done)
   rw[List.getElem?_drop] at hx;have:=hw _ _ hx
   rw[← this];congr 2
   omega)
  rw[show ((vs.drop sub).take n).length=n by simp;omega] at hld
  simp[Instr.loadAt,Instr.sureAddr,loadVar,Sem.run_bind,hagg,hag,hsz,hld]
 | false=>
  simp only[hag,Bool.false_eq_true,if_false] at hb;obtain ⟨u,hu,hr⟩:=VRs.get hvs' sub a hb
  refine ⟨u, ?_,hr⟩;simp[Instr.loadAt,Instr.sureAddr,loadVar,Sem.run_bind,hagg,hag,load,Sem.run,hw _ _ hu]
theorem ZeA(R:Rel μ h w){n:Nat}{ty:TypeId}{p a:AV}{v:Value}(hv:VR μ h p v)(hs:szOf P ty=some n)
  (hk:ldK n (aggT P ty) p h some=some a):∃v',(Instr.loadAt ty v).run P w = .ok v' w∧VR μ h a v':=by
 unfold ldK at hk;split at hk<;>try (simp at hk;done)
 case h_2 e sub=>
  split at hk<;>try (simp at hk;done)
  rename_i b hb;simp only[Option.some.injEq] at hk
  subst hk;exact Zms R hv hs hb
 rename_i id idx sub fr;split at hk<;>try (simp at hk;done)
 rename_i sz es own nil ho;split at hk<;>try (simp at hk;done)
 rename_i hfr;split at hk<;>try (simp at hk;done)
 rename_i e he;split at hk<;>try (simp at hk;done)
 rename_i b hb;simp only[Option.some.injEq] at hk
 subst hk;simp only[VR] at hv
 obtain ⟨ad,rfl,sz',es',own',nil',ho',_,hc⟩:=hv;rw[ho] at ho';obtain ⟨rfl,rfl,rfl,rfl⟩:sz=sz'∧es=es'∧own=own'∧nil=nil':=by injection ho' with q;injection q with a b c d;exact ⟨a,b,c,d⟩
 obtain ⟨blk,o,cap,hm,rfl⟩:=hc hfr.symm;have hagg:=Z47 hs w;have hsz:=Z0h hs w;unfold pickC at hb;cases hag:aggT P ty with
 | true=>
  simp only[hag,if_true] at hb;split at hb<;>try (simp at hb;done)
  rename_i hle;simp only[Option.some.injEq] at hb
  subst hb;obtain ⟨vs,hl,hr,_,hcell⟩:=Zez R ho he hm sub n hle
  refine ⟨.agg vs.toArray, ?_,by simp only[VR];exact ⟨_,rfl,by simpa using hr⟩⟩
  have hld:=run_loadCells_list (P:=P) w ⟨blk,o+(idx * sz+sub),none⟩ vs (λj x hx=>by rw[Addr.add_mid];exact hcell j x hx)
  rw[hl] at hld;simp[Instr.loadAt,Instr.sureAddr,loadVar,Sem.run_bind,hagg,hag,hsz,hld]
 | false=>
  simp only[hag,Bool.false_eq_true,if_false] at hb;obtain ⟨blk',o',cap',x,hm',hcell,hone,hx⟩:=Zex R ho he hb
  rw[hm] at hm';obtain ⟨rfl,rfl,rfl⟩:blk=blk'∧o=o'∧cap=cap':=by injection hm' with a b c;exact ⟨a,b,c⟩
  refine ⟨x, ?_,hx⟩;simp[Instr.loadAt,Instr.sureAddr,loadVar,Sem.run_bind,hagg,hag,load,Sem.run,hcell]

theorem Zmt{α β:Type}(f:α→Sem β):∀s:Sem α,pureVal P (s.bind f)=(pureVal P s).bind λa=>pureVal P (f a):=by
 intro s;induction s with
 | pure a=>simp[Sem.bind,pureVal]
 | program k ih=>simp only[Sem.bind,pureVal];exact ih P
 | _=>simp[Sem.bind,pureVal]
theorem Zmu(op:BinOp)(t:TypeId)(X Y:Operand)(a b:Value)(hn:a ≠ .nilIface):
  Go.eqGuard op t X Y a b=Go.eqGuard op t (.tmp 0) (.tmp 0) a b:=by
 unfold Go.eqGuard
 cases a<;>cases b<;>first | rfl | exact absurd rfl hn
theorem Zmv{a:AV}{v:Value}(hv:toV a=some v):v ≠ .nilIface:=by
 rintro rfl
 cases a<;>simp only[toV] at hv<;>try (simp at hv;done)
 ·split at hv
  ·rename_i hg;simp only[Option.some.injEq] at hv;subst hv;simp[gv] at hg
  ·simp at hv
theorem Zmw{op:BinOp}{X Y:Operand}{ty:TypeId}{v v' u:Value}(hg:(Go.eqGuard op ty X Y v v').run P w = .ok () w)(hb:(Go.binOp op ty v v').run P w = .ok u w):
  (do Go.eqGuard op ty X Y v v';Go.binOp op ty v v':Sem Value).run P w = .ok u w:=by
 simp[Sem.run_bind,hg,hb]

section ops
variable {X Y:Operand} {ty:TypeId} {op:BinOp} {x y a:AV} {v v':Value}
theorem Zmx(hx:VR μ h x v)(hy:VR μ h y v')(hk:arithK op x y some=some a):
  ∃u,(do Go.eqGuard op ty X Y v v';Go.binOp op ty v v':Sem Value).run P w = .ok u w∧VR μ h a u:=by
 unfold arithK at hk;split at hk<;>try (simp at hk;done)
 simp only[VR] at hx hy;obtain ⟨-,rfl⟩:=hx
 obtain ⟨-,rfl⟩:=hy;split at hk<;>try (simp at hk;done)
 rename_i hab;subst hab
 split at hk<;>first
  | (simp at hk;done)
  | (simp only[Option.some.injEq] at hk;subst hk;exact ⟨_,by simp[Go.eqGuard,Go.binOp,Op.intArith,Op.intCmp,Sem.run_bind];rfl,by simp[VR,gv]⟩)
theorem ZeB(hx:VR μ h x v)(hy:VR μ h y v')(hk:reckK P op ty x y some=some a):
  ∃u,(do Go.eqGuard op ty X Y v v';Go.binOp op ty v v':Sem Value).run P w = .ok u w∧VR μ h a u:=by
 unfold reckK at hk;split at hk<;>try (simp at hk;done)
 rename_i p q hp hq;obtain rfl:=VR.toV hx hp
 obtain rfl:=VR.toV hy hq
 split at hk<;>try (simp at hk;done)
 rename_i u hu;split at hk<;>try (simp at hk;done)
 rename_i b hb;simp only[Option.some.injEq] at hk
 subst hk
 change pureVal P (Sem.bind _ _)=_ at hu
 rw[Zmt] at hu;obtain ⟨⟨⟩,h1,h2⟩:=Option.bind_eq_some_iff.1 hu
 exact ⟨u,Zmw (by rw[Zmu _ _ _ _ _ _ (Zmv hp)];exact Z1L _ _ h1 w) (Z1L _ _ h2 w),VR.ofV1 hb⟩
theorem Z19{t e:TypeId}(he:elemOf P t=some e):P.underlying t=some (.slice e):=by
 unfold elemOf at he;split at he
 ·rename_i e' h1;simp at he;subst he;exact h1
 ·simp at he
theorem ZeC{t:TypeId}{n off:Nat}(hs:szOf P t=some n){vs:List Value}{X:Value}(hX:(aggT P t=true∧X = .agg ((vs.drop off).take n).toArray)∨(aggT P t=false∧vs[off]? = some X)):(part t vs.toArray off).run P w = .ok X w:=by
 have hag:=Z47 hs w;have hsz:=Z0h hs w;rcases hX with ⟨h1,rfl⟩ | ⟨h1,h2⟩
 ·have e:vs.toArray.extract off (off+n)=((vs.drop off).take n).toArray:=by
   apply Array.ext';rw[Array.toList_extract,List.extract_eq_take_drop,Nat.add_sub_cancel_left]
  simp[part,Sem.run_bind,hag,h1,hsz,e]
 ·simp[part,Sem.run_bind,hag,h1,h2]
def IsV(P:Program)(t:TypeId)(vs:List Value)(X:Value):Prop:=(aggT P t=true∧X = .agg vs.toArray)∨(aggT P t=false∧vs=[X])
theorem ZeD : ∀(d : Nat)(t : TypeId)(xs ys : List AV)(b : Bool)(vs us : List Value)(X Y : Value), eqFlat P d t xs ys = some b → VRs μ h xs vs → VRs μ h ys us → IsV P t vs X → IsV P t us Y → ∀ D, d ≤ D → (Op.equalIn D t X Y).run P w = .ok b w
  | 0, t, xs, ys, b, vs, us, X, Y, hk, _, _, _, _, D, _ => by simp[eqFlat] at hk
  | d + 1, t, xs, ys, b, vs, us, X, Y, hk, hx, hy, hX, hY, D, hD => by
    obtain ⟨D, rfl⟩ : ∃ D', D = D' + 1 := ⟨D - 1, by omega⟩
    unfold eqFlat at hk;split at hk <;> try (simp at hk; done)
    · rename_i kk hu
      split at hk <;> try (simp at hk; done)
      rename_i a m c n;split at hk <;> try (simp at hk; done)
      rename_i hac;subst hac
      simp only[Option.some.injEq] at hk;subst hk
      have hq : aggT P t = false := by simp[aggT, hu]
      simp only[VRs] at hx hy;obtain ⟨v, _, rfl, h1, rfl⟩ := hx
      obtain ⟨u, _, rfl, h2, rfl⟩ := hy;simp only[VR] at h1 h2;obtain ⟨-, rfl⟩ := h1;obtain ⟨-, rfl⟩ := h2
      have e1 : X = .int a m := by rcases hX with ⟨q, _⟩ | ⟨_, q⟩; · rw[hq] at q; cases q
                                   · simpa using q.symm
      have e2 : Y = .int a n := by rcases hY with ⟨q, _⟩ | ⟨_, q⟩; · rw[hq] at q; cases q
                                   · simpa using q.symm
      subst e1 e2;exact run_equalIn_int w D t a kk m n hu
    · rename_i hu
      split at hk <;> try (simp at hk; done)
      rename_i m n;simp only[Option.some.injEq] at hk
      subst hk;have hq : aggT P t = false := by simp[aggT, hu]
      simp only[VRs] at hx hy;obtain ⟨v, _, rfl, h1, rfl⟩ := hx
      obtain ⟨u, _, rfl, h2, rfl⟩ := hy;simp only[VR] at h1 h2;obtain ⟨-, rfl⟩ := h1;obtain ⟨-, rfl⟩ := h2
      have e1 : X = .bool m := by rcases hX with ⟨q, _⟩ | ⟨_, q⟩; · rw[hq] at q; cases q
                                  · simpa using q.symm
      have e2 : Y = .bool n := by rcases hY with ⟨q, _⟩ | ⟨_, q⟩; · rw[hq] at q; cases q
                                  · simpa using q.symm
      subst e1 e2;exact run_equalIn_bool' w D t m n hu
    · rename_i fs hu
      split at hk <;> try (simp at hk; done)
      rename_i hst;have hq : aggT P t = true := by simp[aggT, hu]
      have e1 : X = .agg vs.toArray := by rcases hX with ⟨_, q⟩ | ⟨q, _⟩; · exact q
                                          · rw[hq] at q; cases q
      have e2 : Y = .agg us.toArray := by rcases hY with ⟨_, q⟩ | ⟨q, _⟩; · exact q
                                          · rw[hq] at q; cases q
      subst e1 e2;have hff : P.fieldsOf t = fs := by simp[Program.fieldsOf, hu]
      rw[run_equalIn_struct w D t vs.toArray us.toArray (by rw[hff]; exact hu) (by simpa using hst), hff]
      have key : ∀(l : List Field)(b : Bool), eqFlds P (eqFlat P d) xs ys l = some b → (Op.eqFields D vs.toArray us.toArray l).run P w = .ok b w := by
        intro l;induction l with
        | nil => intro b hb; simp[eqFlds] at hb; subst hb; simp[Op.eqFields]
        | cons f l ih =>
          intro b hb;simp only[eqFlds] at hb
          split at hb <;> try (simp at hb; done)
          rename_i hnm;split at hb <;> try (simp at hb; done)
          rename_i n hsz;split at hb <;> try (simp at hb; done)
          rename_i b1 b2 hb1 hb2;simp only[Option.some.injEq] at hb
          subst hb;have p1 := VRs.take n (VRs.drop f.offset hx)
          have p2 := VRs.take n (VRs.drop f.offset hy)
          -- the two values
          have hval : ∀(zs : List AV)(ws : List Value), VRs μ h zs ws → ∀(zs' : List AV), (∃ b, eqFlat P d f.type zs zs' = some b ∨ eqFlat P d f.type zs' zs = some b) → (aggT P f.type = true) ∨ (aggT P f.type = false ∧ ∃ x, ws = [x]) := by
            intro zs ws hz zs' hb
            cases hag : aggT P f.type with
            | true => exact .inl rfl
            | false =>
              refine .inr ⟨rfl, ?_⟩
              have h1 : zs.length = 1 := by
                cases d with
                | zero => obtain ⟨b, hb | hb⟩ := hb <;> simp[eqFlat] at hb
                | succ d =>
                  obtain ⟨b, hb | hb⟩ := hb
                  all_goals
                    unfold eqFlat at hb;split at hb <;> try (simp at hb; done)
                    · split at hb <;> try (simp at hb; done)
                      rfl
                    · split at hb <;> try (simp at hb; done)
                      rfl
                    · rename_i hu'; simp[aggT, hu'] at hag
              have h2 := hz.length;rw[h1] at h2
              match ws, h2 with
              | [x], _ => exact ⟨x, rfl⟩
          have hone : ∀(ws : List Value)(off : Nat)(x : Value), (ws.drop off).take n = [x] → ws[off]? = some x := by
            intro ws off x hx;have : ((ws.drop off).take n)[0]? = some x := by rw[hx]; rfl
            rw[List.getElem?_take] at this;split at this
            · rw[List.getElem?_drop] at this; simpa using this
            · simp at this
          have mk : ∀(zs : List AV)(ws : List Value), VRs μ h ((zs.drop f.offset).take n) ((ws.drop f.offset).take n) → ∀(zs' : List AV), (∃ b, eqFlat P d f.type ((zs.drop f.offset).take n) zs' = some b ∨ eqFlat P d f.type zs' ((zs.drop f.offset).take n) = some b) →
              ∃ X, IsV P f.type ((ws.drop f.offset).take n) X ∧ (part f.type ws.toArray f.offset).run P w = .ok X w := by
            intro zs ws hz zs' hb
            rcases hval _ _ hz zs' hb with hag | ⟨hag, x, hx⟩
            · exact ⟨_,.inl ⟨hag, rfl⟩, ZeC hsz (.inl ⟨hag, rfl⟩)⟩
            · exact ⟨x,.inr ⟨hag, hx⟩, ZeC hsz (.inr ⟨hag, hone _ _ _ hx⟩)⟩
          obtain ⟨X1, i1, r1⟩ := mk xs vs p1 _ ⟨b1,.inl hb1⟩;obtain ⟨Y1, i2, r2⟩ := mk ys us p2 _ ⟨b1,.inr hb1⟩;have heq := ZeD d f.type _ _ b1 _ _ X1 Y1 hb1 p1 p2 i1 i2 D (by omega)
          have ih' := ih b2 hb2;simp only[Op.eqFields];rw[if_pos hnm];simp only[Sem.run_bind, r1, Result.andThen_ok, r2, heq];cases b1 with
          | true => simpa using ih'
          | false => simp
      exact key _ _ hk
theorem ZeE(R:Rel μ h w){neq:Bool}(hx:VR μ h x v)(hy:VR μ h y v')(hk:eqK P neq ty x y h some=some a):
  ∃u,(do Go.eqGuard (if neq then .neq else .eql) ty X Y v v';Go.binOp (if neq then .neq else .eql) ty v v':Sem Value).run P w = .ok u w∧VR μ h a u:=by
 unfold eqK at hk;split at hk
 ·simp only[VR] at hx hy
  obtain ⟨-,rfl⟩:=hx;obtain ⟨-,rfl⟩:=hy;split at hk<;>try (simp at hk;done)
  rename_i hab;subst hab
  simp only[Option.some.injEq] at hk;subst hk
  rename_i m n;cases neq
  ·exact ⟨.bool (m==n),by simp[Go.eqGuard,Go.binOp,Op.intCmp,Sem.run_bind],by simp[VR,gv]⟩
  ·exact ⟨.bool (m != n),by simp[Go.eqGuard,Go.binOp,Op.intCmp,Sem.run_bind],by simp[VR,gv,bne]⟩
 ·simp only[VR] at hx hy
  obtain ⟨-,rfl⟩:=hx;obtain ⟨-,rfl⟩:=hy;split at hk<;>try (simp at hk;done)
  rename_i m n _ hu;simp only[Option.some.injEq] at hk
  subst hk
  have heq:(Op.equal ty (.bool m) (.bool n)).run P w = .ok (m==n) w:=by
   unfold Op.equal Op.maxDepth
   rw[Op.equalIn,Sem.run_bind,run_underlying hu,Result.andThen_ok]
   rfl
  cases neq
  ·exact ⟨.bool (m==n),by simp[Go.eqGuard,Go.binOp,Sem.run_bind,heq],by simp[VR,gv]⟩
  ·exact ⟨.bool (!(m==n)),by simp[Go.eqGuard,Go.binOp,Sem.run_bind,heq],by simp[VR,gv]⟩
 ·simp only[VR] at hx hy
  obtain ⟨-,rfl⟩:=hy;split at hk<;>try (simp at hk;done)
  rename_i e _ es _ nil he ho;split at hk<;>try (simp at hk;done)
  rename_i hfr;simp only[Option.some.injEq] at hk
  subst hk;obtain ⟨A,c,rfl,-,-,-,es',own',nil',ho',-,hc⟩:=hx
  rw[ho] at ho';injection ho' with ho'
  injection ho' with e1 e2 e3 e4
  subst e1 e2 e3 e4;have hO:=(R.obj _ _ ho).2
  have hn:A.isNone=nil:=by
   have:=hc hfr.symm
   revert this hO;cases μ _ with
   | real b o c'=>rintro ⟨h1,_⟩ ⟨a',rfl,_⟩;simp[h1]
   | virt A'=>rintro ⟨h1,h2,_⟩ ⟨rfl,_⟩;exact h2.symm
  have hu:=Z19 he
  have heq:∀L n' c',(Op.equal ty (.slice A L c) (.slice none n' c')).run P w = .ok A.isNone w:=by
   intro L n' c'
   unfold Op.equal Op.maxDepth
   rw[Op.equalIn,Sem.run_bind,run_underlying hu,Result.andThen_ok];cases A<;>rfl
  cases neq
  ·exact ⟨.bool nil,by simp[Go.eqGuard,Go.binOp,Sem.run_bind,heq,hn],by simp[VR,gv]⟩
  ·exact ⟨.bool !nil,by simp[Go.eqGuard,Go.binOp,Sem.run_bind,heq,hn],by simp[VR,gv]⟩
 ·simp only[VR] at hx hy
  obtain ⟨-,rfl⟩:=hy;split at hk<;>try (simp at hk;done)
  rename_i nl _ _ _ _ e he;simp only[Option.some.injEq] at hk
  subst hk;obtain ⟨A,c,rfl,-,-,hn,-⟩:=hx
  have hu:=Z19 he
  have heq:∀L n' c',(Op.equal ty (.slice A L c) (.slice none n' c')).run P w = .ok A.isNone w:=by
   intro L n' c'
   unfold Op.equal Op.maxDepth
   rw[Op.equalIn,Sem.run_bind,run_underlying hu,Result.andThen_ok];cases A<;>rfl
  cases neq
  ·exact ⟨.bool nl,by simp[Go.eqGuard,Go.binOp,Sem.run_bind,heq, ← hn],by simp[VR,gv]⟩
  ·exact ⟨.bool !nl,by simp[Go.eqGuard,Go.binOp,Sem.run_bind,heq, ← hn],by simp[VR,gv]⟩
 ·simp only[VR] at hx hy
  obtain ⟨vs,rfl,-⟩:=hx;obtain ⟨-,rfl⟩:=hy;split at hk<;>try (simp at hk;done)
  rename_i g _ _ _ _ _ hu;simp only[Option.some.injEq] at hk
  subst hk
  have heq:(Op.equal ty (.func (.func g) #[] vs) .nilFunc).run P w = .ok false w:=by
   unfold Op.equal Op.maxDepth
   rw[Op.equalIn,Sem.run_bind,run_underlying hu,Result.andThen_ok]
   rfl
  cases neq
  ·exact ⟨.bool false,by simp[Go.eqGuard,Go.binOp,Sem.run_bind,heq],by simp[VR,gv]⟩
  ·exact ⟨.bool true,by simp[Go.eqGuard,Go.binOp,Sem.run_bind,heq],by simp[VR,gv]⟩
 ·rename_i xs ys
  split at hk<;>try (simp at hk;done)
  rename_i b hg ha hb;simp only[Option.some.injEq] at hk
  subst hk;simp only[VR] at hx hy
  obtain ⟨vs,rfl,h1⟩:=hx;obtain ⟨us,rfl,h2⟩:=hy;have hgd:=λop=>run_eqGuard_agg (P:=P) w op ty X Y vs us hg
  have heq:=ZeD (P:=P) (w:=w) 8 ty xs ys b vs.toList us.toList (.agg vs) (.agg us) hb h1 h2 (.inl ⟨ha,by simp⟩) (.inl ⟨ha,by simp⟩) 10000 (by omega)
  cases neq
  ·refine ⟨.bool b, ?_,by simp[VR,gv]⟩
   simp only[Bool.false_eq_true,if_false,Sem.run_bind,hgd,Result.andThen_ok];rw[run_eql_struct,heq];rfl
  ·refine ⟨.bool !b, ?_,by simp[VR,gv]⟩
   simp only[if_true,Sem.run_bind,hgd,Result.andThen_ok];rw[run_neq_struct,heq];rfl
 ·exact ZeB hx hy hk
theorem Zmy(R:Rel μ h w)(hx:VR μ h x v)(hy:VR μ h y v')(hk:binK P op ty x y h some=some a):
  ∃u,(do Go.eqGuard op ty X Y v v';Go.binOp op ty v v':Sem Value).run P w = .ok u w∧VR μ h a u:=by
 unfold binK at hk
 split at hk<;>first
  | exact Zmx hx hy hk
  | exact ZeE (neq:=false) R hx hy hk
  | exact ZeE (neq:=true) R hx hy hk
  | exact ZeB hx hy hk
end ops
theorem Zmz{op:UnOp}{x a:AV}{v:Value}(hx:VR μ h x v)(hk:unK P op x some=some a):∃u,(Op.unary op v).run P w = .ok u w∧VR μ h a u:=by
 unfold unK at hk;split at hk
 ·unfold notK at hk
  split at hk<;>try (simp at hk;done)
  simp only[Option.some.injEq] at hk;subst hk
  simp only[VR] at hx;obtain ⟨-,rfl⟩:=hx
  exact ⟨_,rfl,by simp[VR,gv]⟩
 ·split at hk<;>try (simp at hk;done)
  rename_i p hp;obtain rfl:=VR.toV hx hp
  split at hk<;>try (simp at hk;done)
  rename_i u hu;split at hk<;>try (simp at hk;done)
  rename_i b hb;simp only[Option.some.injEq] at hk
  subst hk;exact ⟨u,Z1L _ _ hu w,VR.ofV1 hb⟩
theorem ZmA{s d:TypeId}{x a:AV}{v:Value}(hx:VR μ h x v)(hk:convK P s d x some=some a):∃u,(Go.convert s d v).run P w = .ok u w∧VR μ h a u:=by
 unfold convK at hk;split at hk<;>try (simp at hk;done)
 rename_i p hp;obtain rfl:=VR.toV hx hp
 split at hk<;>try (simp at hk;done)
 rename_i u hu;split at hk<;>try (simp at hk;done)
 rename_i b hb;simp only[Option.some.injEq] at hk
 subst hk;exact ⟨u,Z1L _ _ hu w,VR.ofV1 hb⟩
theorem ZmB{x a:AV}{v:Value}{i:Nat}(hx:VR μ h x v)(hk:exK x i some=some a):∃u,(Instr.extract v i).run P w = .ok u w∧VR μ h a u:=by
 unfold exK at hk;split at hk<;>try (simp at hk;done)
 split at hk<;>try (simp at hk;done)
 rename_i vs b hb;simp only[Option.some.injEq] at hk
 subst hk;simp only[VR] at hx
 obtain ⟨us,rfl,hr⟩:=hx;obtain ⟨u,hu,hv⟩:=VRs.get hr i _ hb;exact ⟨u,by simp[Instr.extract,Array.getElem?_toList ▸ hu],hv⟩
theorem ZmC{x y a:AV}{v v':Value}{tys:Array TypeId}{ty:TypeId}(hx:VR μ h x v)(hy:VR μ h y v')(hk:minK x y some=some a):
  ∃u,(Builtin.min_ tys ty #[v,v']).run P w = .ok u w∧VR μ h a u:=by
 unfold minK at hk;split at hk<;>try (simp at hk;done)
 simp only[VR] at hx hy;obtain ⟨-,rfl⟩:=hx
 obtain ⟨-,rfl⟩:=hy;split at hk<;>try (simp at hk;done)
 simp only[Option.some.injEq] at hk;subst hk
 exact ⟨_,by simp[Builtin.min_,Builtin.min2];rfl,by simp[VR,gv]⟩
theorem ZmD{x y a:AV}{v v':Value}{tys:Array TypeId}{ty:TypeId}(hx:VR μ h x v)(hy:VR μ h y v')(hk:maxK x y some=some a):
  ∃u,(Builtin.max_ tys ty #[v,v']).run P w = .ok u w∧VR μ h a u:=by
 unfold maxK at hk;split at hk<;>try (simp at hk;done)
 simp only[VR] at hx hy;obtain ⟨-,rfl⟩:=hx
 obtain ⟨-,rfl⟩:=hy;split at hk<;>try (simp at hk;done)
 simp only[Option.some.injEq] at hk;subst hk
 exact ⟨_,by simp[Builtin.max_,Builtin.max2];rfl,by simp[VR,gv]⟩
theorem ZmE{x a:AV}{v:Value}{t e ty:TypeId}(hu:P.underlying t=some (.slice e))(hx:VR μ h x v)(hk:lenK x some=some a):
  ∃u,(Builtin.len_ #[t] ty #[v]).run P w = .ok u w∧VR μ h a u:=by
 unfold lenK at hk;split at hk<;>try (simp at hk;done)
 ·simp only[Option.some.injEq] at hk
  subst hk;simp only[VR] at hx
  obtain ⟨A,c,rfl,-⟩:=hx;exact ⟨_,by simp[Builtin.len_,Sem.run_bind,run_underlying hu,goInt];rfl,by simp[VR,gv]⟩
 ·simp only[Option.some.injEq] at hk
  subst hk;simp only[VR] at hx
  obtain ⟨A,c,rfl,-⟩:=hx;exact ⟨_,by simp[Builtin.len_,Sem.run_bind,run_underlying hu,goInt];rfl,by simp[VR,gv]⟩
 ·simp only[Option.some.injEq] at hk
  subst hk;simp only[VR] at hx
  obtain ⟨-,rfl⟩:=hx;exact ⟨_,by simp[Builtin.len_,Sem.run_bind,run_underlying hu,goInt];rfl,by simp[VR,gv]⟩
end Go.AM


namespace Go.AM
open Go.RowKit
variable {P:Program} {μ:Mu} {h:Hp} {w:World}
theorem ZmF(R:Rel μ h w){x a:AV}{v:Value}{t k e ty:TypeId}(hu:P.underlying t=some (.map k e))(hx:VR μ h x v)(hk:lenM x h some=some a):
  ∃u,(Builtin.len_ #[t] ty #[v]).run P w = .ok u w∧VR μ h a u:=by
 unfold lenM at hk;split at hk<;>try (simp at hk;done)
 ·simp only[Option.some.injEq] at hk
  subst hk;simp only[VR] at hx
  obtain ⟨-,rfl⟩:=hx;exact ⟨_,by simp[Builtin.len_,Sem.run_bind,run_underlying hu,goInt];rfl,by simp[VR,gv]⟩
 ·split at hk<;>try (simp at hk;done)
  rename_i id _ kvs ho;simp only[Option.some.injEq] at hk
  subst hk;simp only[VR] at hx
  obtain ⟨kvs',blk,ho',hm,rfl⟩:=hx;obtain ⟨blk',hm',es,clock,hh,hl,-⟩:=R.obj _ _ ho;rw[hm] at hm';injection hm' with e1;subst e1;exact ⟨.int .i64 kvs.length,by simp[Builtin.len_,Sem.run_bind,run_underlying hu,goInt,getObj,Sem.run,hh,hl],by simp[VR,gv]⟩
theorem ZmG{c x y a:AV}{v1 v2 v3:Value}(hc:VR μ h c v1)(hx:VR μ h x v2)(hy:VR μ h y v3)(hk:pickK c x y some=some a):
  ∃u,(do pure (Next.value (if ← asBool v1 then v2 else v3)):Sem Next).run P w = .ok (.value u) w∧VR μ h a u:=by
 unfold pickK at hk;split at hk<;>try (simp at hk;done)
 rename_i q;simp only[Option.some.injEq] at hk
 subst hk;simp only[VR] at hc
 obtain ⟨-,rfl⟩:=hc;cases q
 ·exact ⟨v3,by simp[asBool,Sem.run_bind],hy⟩
 ·exact ⟨v2,by simp[asBool,Sem.run_bind],hx⟩
theorem ZmH{ty ft:TypeId}{f off n:Nat}{x a:AV}{v:Value}(hf:fieldOf P ty f=some (off,ft))(hs:szOf P ft=some (n+1))(hx:VR μ h x v)
  (hk:faK off x some=some a):∃u,(Instr.fieldAt ty v f).run P w = .ok u w∧VR μ h a u:=by
 unfold faK at hk;split at hk<;>try (simp at hk;done)
 case h_2 e sub=>
  simp only[Option.some.injEq] at hk;subst hk
  simp only[VR] at hx;obtain ⟨blk,o,vs,rfl,hi,hr,hc⟩:=hx
  unfold fieldOf at hf;split at hf<;>try (simp at hf;done)
  rename_i fs hu;simp only[Option.map_eq_some_iff] at hf
  obtain ⟨fl,hfl,e⟩:=hf;simp only[Prod.mk.injEq] at e;obtain ⟨e1,e2⟩:=e;subst e1 e2;refine ⟨.pointer (some (Addr.add ⟨blk,o+sub,none⟩ fl.offset)), ?_, ?_⟩
  ·simp[Instr.fieldAt,Instr.sureAddr,Sem.run_bind,run_underlying hu,hfl,fieldPlace,Z0h hs]
  ·simp only[VR]
   exact ⟨blk,o,vs,by rw[Addr.add_mid,Nat.add_assoc],hi,hr,hc⟩
 rename_i id idx sub fr;simp only[Option.some.injEq] at hk
 subst hk;simp only[VR] at hx
 obtain ⟨ad,rfl,sz,es,own,nil,ho,hl,hc⟩:=hx;unfold fieldOf at hf;split at hf<;>try (simp at hf;done)
 rename_i fs hu;simp only[Option.map_eq_some_iff] at hf
 obtain ⟨fl,hfl,e⟩:=hf;simp only[Prod.mk.injEq] at e;obtain ⟨e1,e2⟩:=e;subst e1 e2;refine ⟨.pointer (some (ad.add fl.offset)), ?_, ?_⟩
 ·simp[Instr.fieldAt,Instr.sureAddr,Sem.run_bind,run_underlying hu,hfl,fieldPlace,Z0h hs]
 ·simp only[VR]
  refine ⟨_,rfl,sz,es,own,nil,ho,hl,λe => ?_⟩
  obtain ⟨blk,o,c,hm,rfl⟩:=hc e;exact ⟨blk,o,c,hm,by rw[Addr.add_mid];congr 1;omega⟩
theorem ZmI{ty ft:TypeId}{f off n:Nat}{x a:AV}{v:Value}(hf:fieldOf P ty f=some (off,ft))(hs:szOf P ft=some n)(hx:VR μ h x v)
  (hk:fldK n (aggT P ft) off x some=some a):∃u,(Instr.field ty v f).run P w = .ok u w∧VR μ h a u:=by
 unfold fldK at hk;split at hk<;>try (simp at hk;done)
 rename_i cs;split at hk<;>try (simp at hk;done)
 rename_i b hb;simp only[Option.some.injEq] at hk
 subst hk;simp only[VR] at hx
 obtain ⟨vs,rfl,hr⟩:=hx;unfold fieldOf at hf;split at hf<;>try (simp at hf;done)
 rename_i fs hu;simp only[Option.map_eq_some_iff] at hf
 obtain ⟨fl,hfl,e⟩:=hf;simp only[Prod.mk.injEq] at e;obtain ⟨e1,e2⟩:=e;subst e1 e2;have hag:=Z47 hs w;have hsz:=Z0h hs w;unfold pickC at hb;cases hq:aggT P fl.type with
 | true=>
  simp only[hq,if_true] at hb;split at hb<;>try (simp at hb;done)
  rename_i hle;simp only[Option.some.injEq] at hb
  subst hb;refine ⟨.agg (vs.extract fl.offset (fl.offset+n)), ?_, ?_⟩
  ·simp[Instr.field,asAgg,part,Sem.run_bind,run_underlying hu,hfl,hag,hq,hsz]
  ·simp only[VR]
   refine ⟨_,rfl, ?_⟩;have:=VRs.take n (VRs.drop fl.offset hr)
   rwa [Array.toList_extract,List.extract_eq_take_drop,Nat.add_sub_cancel_left]
 | false=>
  simp only[hq,Bool.false_eq_true,if_false] at hb;obtain ⟨u,hu',hv⟩:=VRs.get hr _ _ hb
  refine ⟨u, ?_,hv⟩;have:vs[fl.offset]? = some u:=by simpa using hu'
  simp[Instr.field,asAgg,part,Sem.run_bind,run_underlying hu,hfl,hag,hq,this]
theorem ZmJ{ty e:TypeId}{n:Nat}{x i a:AV}{v v':Value}(he:elemOf P ty=some e)(hs:szOf P e=some n)(hx:VR μ h x v)(hi:VR μ h i v')
  (hk:iaK n x i some=some a):∃u,(Instr.indexAt ty v v').run P w = .ok u w∧VR μ h a u:=by
 unfold iaK at hk;split at hk<;>try (simp at hk;done)
 case h_2 sz nil es kk m=>
  split at hk<;>try (simp at hk;done)
  rename_i hc;obtain ⟨rfl,h0⟩:=hc
  split at hk<;>try (simp at hk;done)
  rename_i el hel;simp only[Option.some.injEq] at hk
  subst hk;simp only[VR] at hx hi
  obtain ⟨-,rfl⟩:=hi;have hlt:=(List.getElem?_eq_some_iff.1 hel).1;obtain ⟨A,c,rfl,hlc,-,-,-,hsz,hq⟩:=hx;obtain ⟨blk,o,vs,rfl,him,hf,hcell⟩:=hq (by omega)
  have hu:=Z19 he;obtain ⟨us,g1,g2⟩:=VRf.get hf (λe he=>(hsz e he).1) _ _ hel
  refine ⟨.pointer (some (Addr.add ⟨blk,o,none⟩ (m.toNat * sz))), ?_, ?_⟩
  ·have hcond:0≤m∧m<(es.length:Int):=⟨h0,by omega⟩
   simp[Instr.indexAt,asIntOf,Sem.run_bind,run_underlying hu,hcond,Z0h hs]
  ·simp only[VR]
   refine ⟨blk,o+m.toNat * sz,us,by rw[Addr.add_mid,Nat.add_zero],him,g1,λj u hu => ?_⟩
   rw[Nat.add_assoc];exact hcell _ u (g2 j u hu)
 rename_i sz id off len fr full kk m;split at hk<;>try (simp at hk;done)
 rename_i hc;obtain ⟨rfl,h0,hm⟩:=hc
 simp only[Option.some.injEq] at hk;subst hk
 simp only[VR] at hx hi;obtain ⟨-,rfl⟩:=hi
 obtain ⟨A,c,rfl,hlc,hA,-,es,own,nil,ho,hfr,hq⟩:=hx;have hu:=Z19 he;obtain ⟨ad,rfl⟩:=Option.isSome_iff_exists.1 (hA (by omega))
 refine ⟨.pointer (some (ad.add (m.toNat * sz))), ?_, ?_⟩
 ·have hcond:0≤m∧m<(len:Int):=⟨h0,hm⟩
  simp[Instr.indexAt,asIntOf,Sem.run_bind,run_underlying hu,hcond,Z0h hs]
 ·simp only[VR]
  refine ⟨_,rfl,sz,es,own,nil,ho,hfr,λe => ?_⟩
  have:=hq e
  unfold SlOk at this;split at this
  ·rename_i blk o cap hmu
   obtain ⟨a',e1,hcap,hne⟩:=this;injection e1 with e1;subst e1;have:=hne (by omega)
   subst this;exact ⟨blk,o,cap,hmu,by rw[Addr.add_mid];congr 1;rw[Nat.add_mul];omega⟩
  ·omega
theorem ZeF{ty e:TypeId}{n:Nat}(he:arrOf P ty=some (n,e)):P.underlying ty=some (.array n e):=by
 unfold arrOf at he;split at he<;>simp_all
theorem ZmK{ty e:TypeId}{n len:Nat}{x i a:AV}{v v':Value}(he:arrOf P ty=some (len,e))(hs:szOf P e=some n)(hx:VR μ h x v)(hi:VR μ h i v')
  (hk:iaA n len x i some=some a):∃u,(Instr.indexAt ty v v').run P w = .ok u w∧VR μ h a u:=by
 unfold iaA at hk;split at hk<;>try (simp at hk;done)
 case h_2 el sub kk m=>
  split at hk<;>try (simp at hk;done)
  rename_i hc;simp only[Option.some.injEq] at hk
  subst hk;simp only[VR] at hx hi
  obtain ⟨-,rfl⟩:=hi;obtain ⟨blk,o,vs,rfl,him,hr,hcell⟩:=hx;have hu:=ZeF he;refine ⟨.pointer (some (Addr.add ⟨blk,o+sub,none⟩ (m.toNat * n))), ?_, ?_⟩
  ·simp[Instr.indexAt,asIntOf,Sem.run_bind,run_underlying hu,hc,Z0h hs,Instr.sureAddr]
  ·simp only[VR]
   exact ⟨blk,o,vs,by rw[Addr.add_mid,Nat.add_assoc],him,hr,hcell⟩
 rename_i id idx sub fr kk m;split at hk<;>try (simp at hk;done)
 rename_i hc;simp only[Option.some.injEq] at hk
 subst hk;simp only[VR] at hx hi
 obtain ⟨-,rfl⟩:=hi;obtain ⟨ad,rfl,sz,es,own,nil,ho,hfr,hq⟩:=hx;have hu:=ZeF he;refine ⟨.pointer (some (ad.add (m.toNat * n))), ?_, ?_⟩
 ·simp[Instr.indexAt,asIntOf,Sem.run_bind,run_underlying hu,hc,Z0h hs,Instr.sureAddr]
 ·simp only[VR]
  refine ⟨_,rfl,sz,es,own,nil,ho,hfr,λe => ?_⟩
  obtain ⟨blk,o,c,hmu,rfl⟩:=hq e;exact ⟨blk,o,c,hmu,by rw[Addr.add_mid];congr 1;omega⟩
theorem ZmL{ty e:TypeId}{n len:Nat}{x i a:AV}{v v':Value}(hu:P.underlying ty=some (.array len e))(hs:szOf P e=some n)(hx:VR μ h x v)(hi:VR μ h i v')
  (hk:ixA n len (aggT P e) x i some=some a):∃u,(Instr.index ty v v').run P w = .ok u w∧VR μ h a u:=by
 unfold ixA at hk;split at hk<;>try (simp at hk;done)
 rename_i cs kk m;split at hk<;>try (simp at hk;done)
 rename_i hc;split at hk<;>try (simp at hk;done)
 rename_i b hb;simp only[Option.some.injEq] at hk
 subst hk;simp only[VR] at hx hi
 obtain ⟨-,rfl⟩:=hi;obtain ⟨vs,rfl,hr⟩:=hx;have hag:=Z47 hs w;have hsz:=Z0h hs w;unfold pickC at hb;cases hq:aggT P e with
 | true=>
  simp only[hq,if_true] at hb;split at hb<;>try (simp at hb;done)
  rename_i hle;simp only[Option.some.injEq] at hb
  subst hb;refine ⟨.agg (vs.extract (m.toNat * n) (m.toNat * n+n)), ?_, ?_⟩
  ·simp[Instr.index,part,asIntOf,Sem.run_bind,run_underlying hu,hc,hag,hq,hsz]
  ·simp only[VR]
   refine ⟨_,rfl, ?_⟩;have:=VRs.take n (VRs.drop (m.toNat * n) hr)
   rwa [Array.toList_extract,List.extract_eq_take_drop,Nat.add_sub_cancel_left]
 | false=>
  simp only[hq,Bool.false_eq_true,if_false] at hb;obtain ⟨u,hu',hv⟩:=VRs.get hr _ _ hb
  refine ⟨u, ?_,hv⟩;have:vs[m.toNat * n]? = some u:=by simpa using hu'
  simp[Instr.index,part,asIntOf,Sem.run_bind,run_underlying hu,hc,hag,hq,hsz,this]
theorem ZmM{ty e ty':TypeId}{x a:AV}{v:Value}(he:elemOf P ty=some e)(hx:VR μ h x v)(hk:capK x some=some a):
  ∃u,(Builtin.cap_ #[ty] ty' #[v]).run P w = .ok u w∧VR μ h a u:=by
 have hu:=Z19 he;unfold capK at hk;split at hk<;>try (simp at hk;done)
 ·simp only[Option.some.injEq] at hk
  subst hk;simp only[VR] at hx
  obtain ⟨-,rfl⟩:=hx;exact ⟨_,by simp[Builtin.cap_,Sem.run_bind,run_underlying hu,goInt];rfl,by simp[VR,gv]⟩
 ·simp only[Option.some.injEq] at hk
  subst hk;simp only[VR] at hx
  obtain ⟨A,c,rfl,-,-,hf,-⟩:=hx;rw[hf.1 rfl];exact ⟨_,by simp[Builtin.cap_,Sem.run_bind,run_underlying hu,goInt];rfl,by simp[VR,gv]⟩
theorem ZmN{ty:TypeId}{x i a:AV}{v v':Value}(hu:P.underlying ty=some .string)(hx:VR μ h x v)(hi:VR μ h i v')
  (hk:chK x i some=some a):∃u,(Instr.index ty v v').run P w = .ok u w∧VR μ h a u:=by
 unfold chK at hk;split at hk<;>try (simp at hk;done)
 rename_i s kk m;split at hk<;>try (simp at hk;done)
 rename_i hc;split at hk<;>try (simp at hk;done)
 rename_i b hb;simp only[Option.some.injEq] at hk
 subst hk;simp only[VR] at hx hi
 obtain ⟨-,rfl⟩:=hi;obtain ⟨-,rfl⟩:=hx;exact ⟨.int .u8 b.toNat,by simp[Instr.index,asIntOf,Sem.run_bind,run_underlying hu,hc,hb],by simp[VR,gv]⟩
theorem ZaC{x:AV}{v:Value}{d n:Nat}(hv:VR μ h x v)(hb:boundOr (some x) d=some n):∃k,v = .int k n:=by
 unfold boundOr at hb;split at hb
 ·simp at *
 ·rename_i k m e
  injection e with e;subst e
  simp only[VR] at hv;obtain ⟨-,rfl⟩:=hv
  split at hb<;>try (simp at hb;done)
  rename_i h0;simp only[Option.some.injEq] at hb
  subst hb;exact ⟨k,by rw[Int.toNat_of_nonneg h0]⟩
 ·simp at hb
theorem Z48(k:IntKind)(n cap:Nat)(code:BoundsCode)(hle:n≤cap)(w:World):(Instr.sliceBound (.int k n) cap code).run P w = .ok n w:=by
 have hc:0≤(n:Int)∧(n:Int)≤(cap:Int):=⟨by omega,by omega⟩
 simp[Instr.sliceBound,asIntOf,Sem.run_bind,hc,hle]
theorem ZaD{lo hi mx:Option AV}{vl vh vm:Option Value}{len cap l hh m:Nat}(hlo:∀y,lo=some y→∃u,vl=some u∧VR μ h y u)(nlo:lo=none→vl=none)
  (hhi:∀y,hi=some y→∃u,vh=some u∧VR μ h y u) (nhi:hi=none→vh=none) (hmx:∀y,mx=some y→∃u,vm=some u∧VR μ h y u) (nmx:mx=none→vm=none)
  (bl:boundOr lo 0=some l) (bh:boundOr hi len=some hh) (bm:boundOr mx len=some m) (h1:l≤hh) (h2:mx.isSome=true→hh≤m∧m≤cap) (h3:hh≤cap) (h4:mx.isSome=true→hi.isSome=true) (hc:len≤cap):
  (Instr.sliceBounds true len cap vl vh vm).run P w = .ok (l,hh,if mx.isSome then m else cap) w:=by
 have hl:(vl=none∧l=0)∨∃k,vl=some (.int k l):=by
  cases lo with
  | none=>left;simp only[boundOr,Option.some.injEq] at bl;exact ⟨nlo rfl,bl.symm⟩
  | some y=>right;obtain ⟨u,rfl,hu⟩:=hlo y rfl;obtain ⟨k,rfl⟩:=ZaC hu bl;exact ⟨k,rfl⟩
 have hh':(hi=none∧vh=none∧hh=len)∨(hi.isSome=true∧∃k,vh=some (.int k hh)):=by
  cases hi with
  | none=>left;simp only[boundOr,Option.some.injEq] at bh;exact ⟨rfl,nhi rfl,bh.symm⟩
  | some y=>right;obtain ⟨u,rfl,hu⟩:=hhi y rfl;obtain ⟨k,rfl⟩:=ZaC hu bh;exact ⟨rfl,k,rfl⟩
 have hm':(mx=none∧vm=none)∨(mx.isSome=true∧∃k,vm=some (.int k m)):=by
  cases mx with
  | none=>left;exact ⟨rfl,nmx rfl⟩
  | some y=>right;obtain ⟨u,rfl,hu⟩:=hmx y rfl;obtain ⟨k,rfl⟩:=ZaC hu bm;exact ⟨rfl,k,rfl⟩
 clear hlo nlo hhi nhi hmx nmx bl bh bm;unfold Instr.sliceBounds
 rcases hm' with ⟨rfl,rfl⟩ | ⟨hms,km,rfl⟩
 ·rcases hh' with ⟨rfl,rfl,rfl⟩ | ⟨hhs,kh,rfl⟩
  ·rcases hl with ⟨rfl,rfl⟩ | ⟨kl,rfl⟩
   ·simp[Sem.run_bind]
   ·simp[Sem.run_bind,Z48,h1]
  ·rcases hl with ⟨rfl,rfl⟩ | ⟨kl,rfl⟩
   ·simp[Sem.run_bind,Z48,show hh≤cap by omega]
   ·simp[Sem.run_bind,Z48,show hh≤cap by omega,h1]
 ·rcases hh' with ⟨rfl,rfl,rfl⟩ | ⟨hhs,kh,rfl⟩
  ·exact absurd (h4 hms) (by simp)
  ·rcases hl with ⟨rfl,rfl⟩ | ⟨kl,rfl⟩
   ·simp[Sem.run_bind,Z48,(h2 hms).1,(h2 hms).2,hms]
   ·simp[Sem.run_bind,Z48,(h2 hms).1,(h2 hms).2,hms,h1]
theorem ZmO{ty e:TypeId}{n:Nat}{x a:AV}{v:Value}{lo hi mx:Option AV}{vl vh vm:Option Value}(he:elemOf P ty=some e)(hs:szOf P e=some n)(hx:VR μ h x v)
  (hlo:∀y,lo=some y→∃u,vl=some u∧VR μ h y u) (nlo:lo=none→vl=none)
  (hhi:∀y,hi=some y→∃u,vh=some u∧VR μ h y u) (nhi:hi=none→vh=none) (hmx:∀y,mx=some y→∃u,vm=some u∧VR μ h y u) (nmx:mx=none→vm=none)
  (hk:sliceK n x lo hi mx some=some a):∃u,(Instr.sliceAt ty v vl vh vm).run P w = .ok u w∧VR μ h a u:=by
 unfold sliceK at hk;split at hk<;>try (simp at hk;done)
 case h_3 sz nil es=>
  split at hk<;>try (simp at hk;done)
  rename_i m hh l bm bh bl;split at hk<;>try (simp at hk;done)
  rename_i hc;obtain ⟨rfl,h1,h2,h3,h4⟩:=hc
  simp only[Option.some.injEq] at hk;subst hk
  simp only[VR] at hx;obtain ⟨A,c,rfl,hlc,hcm,hn,hA,hsz,hq⟩:=hx
  have hu:=Z19 he;have hb:=ZaD (P:=P) (w:=w) hlo nlo hhi nhi hmx nmx bl bh bm h1 (λ_=>⟨h2,by omega⟩) (by omega) h4 hlc
  obtain ⟨M,hM⟩:∃M,M=(if mx.isSome then m else c):=⟨_,rfl⟩
  rw[← hM] at hb;have hmM:m≤M:=by rw[hM];split<;>omega
  have hMc:M≤c:=by rw[hM];split<;>omega
  have hl:((es.drop l).take (hh-l)).length=hh-l:=by simp;omega
  refine ⟨.slice (if M=l then A else A.map (·.add (l * sz))) (hh-l) (M-l), ?_, ?_⟩
  ·simp[Instr.sliceAt,Instr.slice,Sem.run_bind,run_underlying hu,hb,Z0h hs]
  ·simp only[VR]
   refine ⟨_,_,by rw[hl],by rw[hl];omega,by omega,by rw[hn];split<;>simp,λhn0 => ?_,λe he=>hsz e (List.mem_of_mem_drop (List.mem_of_mem_take he)),λhp => ?_⟩
   ·have:A=none:=by
     split at hn0
     ·exact hn0
     ·simpa using hn0
    have:=hA this
    omega
   ·rw[hl] at hp
    obtain ⟨blk,o,vs,rfl,him,hf,hcell⟩:=hq (by omega)
    obtain ⟨us,g1,g2⟩:=VRf.drop l hf (λe he=>(hsz e he).1) (by omega)
    obtain ⟨us',g3,g4⟩:=VRf.take (hh-l) g1;refine ⟨blk,o+l * sz,us',by rw[if_neg (by omega),Option.map_some,Addr.add_mid],him,g3,λj u hu => ?_⟩
    rw[Nat.add_assoc];exact hcell _ u (g2 _ _ (g4 _ _ hu))
 case h_2=>
  split at hk<;>try (simp at hk;done)
  rename_i bm bh bl;split at hk<;>try (simp at hk;done)
  rename_i h4;simp only[Option.some.injEq] at hk
  subst hk;have hx':=hx
  simp only[VR] at hx;obtain ⟨-,rfl⟩:=hx
  have hu:=Z19 he;have hb:=ZaD (P:=P) (w:=w) (cap:=0) hlo nlo hhi nhi hmx nmx bl bh bm (Nat.le_refl _) (λ_=>⟨Nat.le_refl _,Nat.le_refl _⟩) (Nat.le_refl _) h4 (Nat.le_refl _)
  refine ⟨.slice none 0 0, ?_,hx'⟩;cases hm:mx.isSome<;>simp[hm] at hb<;>simp[Instr.sliceAt,Instr.slice,Sem.run_bind,run_underlying hu,hb,Z0h hs]
 rename_i sz id off len fr full;split at hk<;>try (simp at hk;done)
 rename_i m hh l bm bh bl;split at hk<;>try (simp at hk;done)
 rename_i hc;obtain ⟨rfl,h1,h2,h3,h4⟩:=hc
 simp only[Option.some.injEq] at hk;subst hk
 simp only[VR] at hx;obtain ⟨A,c,rfl,hlc,hA,hf,es,own,nil,ho,hfr,hq⟩:=hx
 have hu:=Z19 he
 have hhc:hh≤c:=by
  rcases h2 with h2 | ⟨h2,h2'⟩
  ·omega
  ·have:=hf.2 h2;omega
 have hmc:mx.isSome=true→m≤c:=λhm=>by
  rcases (h3 hm).2.2.1 with q | ⟨q,q'⟩
  ·omega
  ·have:=hf.2 q;omega
 have hb:=ZaD (P:=P) (w:=w) hlo nlo hhi nhi hmx nmx bl bh bm h1 (λhm=>⟨(h3 hm).2.1,hmc hm⟩) hhc (λhm=>(h3 hm).1) hlc
 obtain ⟨M,hM⟩:∃M,M=(if mx.isSome then m else c):=⟨_,rfl⟩
 rw[← hM] at hb
 have hmM:hh≤M:=by
  rw[hM];split
  ·rename_i hm;exact (h3 hm).2.1
  ·exact hhc
 have hMc:M≤c:=by
  rw[hM];split
  ·rename_i hm;exact hmc hm
  ·exact Nat.le_refl _
 refine ⟨.slice (if M=l then A else A.map (·.add (l * sz))) (hh-l) (M-l), ?_, ?_⟩
 ·simp[Instr.sliceAt,Instr.slice,Sem.run_bind,run_underlying hu,hb,Z0h hs]
 ·simp only[VR]
  refine ⟨_,_,rfl,by omega, ?_,⟨?_, ?_⟩,es,own,nil,ho,hfr,λe => ?_⟩
  ·intro hp
   have:=hA (by omega)
   obtain ⟨ad,rfl⟩:=Option.isSome_iff_exists.1 this;split<;>rfl
  ·intro hfl
   rcases Bool.or_eq_true_iff.1 hfl with hfl | hfl
   ·obtain ⟨a1,a2⟩:=Bool.and_eq_true_iff.1 hfl
    rw[hM,if_pos a1];have:m=hh:=by simpa using a2
    omega
   ·obtain ⟨a1,a2⟩:=Bool.and_eq_true_iff.1 hfl
    obtain ⟨a3,a4⟩:=Bool.and_eq_true_iff.1 a1;have e1:mx.isSome=false:=by cases mx<;>simp_all
    rw[hM,e1];have:=hf.1 a4
    have:hh=len:=by simpa using a2
    simp
    omega
  ·intro hfl
   obtain ⟨f1,f2⟩:=Bool.or_eq_false_iff.1 hfl;cases hms:mx.isSome with
   | true=>
    rw[hM,hms,if_pos rfl];rw[hms] at f1;have hne:m≠hh:=by simpa using f1
    have:=h3 hms
    rcases this.2.2.2 with q | q
    ·exact absurd q hne
    ·omega
   | false=>
    rw[hM,hms];simp only[Bool.false_eq_true,if_false];cases hfu:full with
    | false=>have:=hf.2 hfu;omega
    | true=>
     have hc1:=hf.1 hfu;have hmn:mx.isNone=true:=by cases mx<;>simp_all
     rw[hmn,hfu] at f2;have hne:hh≠len:=by simpa using f2
     rcases h4 hms hfu with q | q
     ·exact absurd q hne
     ·omega
  ·have:=hq e
   unfold SlOk at this ⊢
   split at this
   ·rename_i blk o cap hmu
    obtain ⟨a',rfl,hcap,hne⟩:=this;by_cases hz:M=l
    ·exact ⟨a',by simp[hz],by omega,λhne'=>absurd (by omega) hne'⟩
    ·refine ⟨a'.add (l * sz),by simp[hz],by omega,λ_ => ?_⟩
     rw[hne (by omega),Addr.add_mid]
     congr 1
     rw[Nat.add_mul]
     omega
   ·rename_i A' hmu
    obtain ⟨rfl,hc0,ho0⟩:=this;have:M=l:=by omega
    exact ⟨by simp[this],by omega,by omega⟩
end Go.AM


namespace Go.AM
open Go.RowKit
variable {P:Program} {μ:Mu} {h:Hp} {w:World}
theorem foldSet(off:Nat):∀(l:List Value)(k:Nat)(cells:Array Value),off+k+l.length≤cells.size→
  ((l.zipIdx k).foldl (λcs (p:Value × Nat)=>cs.setIfInBounds (off+p.2) p.1) cells).toList=cells.toList.take (off+k)++l++cells.toList.drop (off+k+l.length):=by
 intro l;induction l with
 | nil=>intro k cells hl;simp
 | cons x l ih=>
  intro k cells hl;simp only[List.zipIdx_cons,List.foldl_cons]
  simp only[List.length_cons] at hl;rw[ih (k+1) _ (by simp;omega)]
  have hlt:off+k<cells.toList.length:=by simp;omega
  simp only[Array.toList_setIfInBounds]
  have e1:(cells.toList.set (off+k) x).take (off+(k+1))=cells.toList.take (off+k)++[x]:=by
   rw[← Nat.add_assoc,List.take_add_one,List.take_set_of_le (Nat.le_refl _),List.getElem?_set_self hlt];rfl
  have e2:(cells.toList.set (off+k) x).drop (off+(k+1)+l.length)=cells.toList.drop (off+k+(l.length+1)):=by
   rw[List.drop_set_of_lt (by omega)];congr 1;omega
  rw[e1,e2]
  simp
theorem ZeG{place:Nat→Option (Nat × Nat)}{pl:Nat→Option (Nat × Nat)}(hp:∀i q,pl i=some q→place i=some q):
  ∀(parts:List (Nat × AV))(vparts:List (Nat × Value))(z:List AV)(cells:Array Value)(c:List AV),
   parts.length=vparts.length→(∀(i:Nat)(p:Nat × AV)(q:Nat × Value),parts[i]? = some p→vparts[i]? = some q→p.1=q.1∧VR μ h p.2 q.2)→VRs μ h z cells.toList→
   fillA z (parts.map λp=>(pl p.1,p.2))=some c→∃cells',Instr.fill place cells vparts=some cells'∧VRs μ h c cells'.toList:=by
 intro parts;induction parts with
 | nil=>
  intro vparts z cells c hl _ hz hk;simp[fillA] at hk
  subst hk;cases vparts with
  | nil=>exact ⟨cells,rfl,hz⟩
  | cons=>simp at hl
 | cons p parts ih=>
  intro vparts z cells c hl hr hz hk;cases vparts with
  | nil=>simp at hl
  | cons q vparts=>
   obtain ⟨e1,hv⟩:=hr 0 p q rfl rfl;simp only[List.map_cons,fillA] at hk;cases hq:pl p.1 with
   | none=>simp[hq,fillA] at hk
   | some os=>
    obtain ⟨off,size⟩:=os;simp only[hq,fillA] at hk;split at hk<;>try (simp at hk;done)
    rename_i hc;obtain ⟨hc1,hc2,hc3⟩:=hc
    have hcs:=VR.cells hv hc2;have hlen:=hcs.length;have hzl:=hz.length;have e3:q.2.cells.size=size:=by rw[← hc1,hlen];simp
    have hfit:off+0+q.2.cells.toList.length≤cells.size:=by simp;rw[e3];rw[hzl] at hc3;simpa using hc3
    have hfs:=foldSet off q.2.cells.toList 0 cells hfit
    obtain ⟨cells',h1,h2⟩:=ih vparts (putAt z off (cellsOf p.2)) (q.2.cells.zipIdx.foldl (λcs (c,j)=>cs.setIfInBounds (off+j) c) cells) c (by simpa using hl)
     (λi p' q' h1 h2=>hr (i+1) p' q' (by simpa using h1) (by simpa using h2)) (by
      rw[← Array.foldl_toList,Array.toList_zipIdx,hfs];simp only[putAt,Nat.add_zero,hlen];exact VRs.append (VRs.append (VRs.take _ hz) hcs) (VRs.drop _ hz)) hk
    refine ⟨cells', ?_,h2⟩;simp only[Instr.fill];rw[← e1,hp _ _ hq]
    have:¬((q.2.cells.size≠size||off+q.2.cells.size > cells.size)=true):=by
     simp[e3];rw[hzl] at hc3;simpa using hc3
    simp only[this];exact h1
theorem Z3c{t:TypeId}{z:AV}(hz:zeroAV P t=some z):∃v,(zeroValue t).run P w = .ok v w∧VR μ h z v:=by
 replace hz:=Zes hz
 obtain ⟨v,hv,hz⟩:=Option.bind_eq_some_iff.1 hz;obtain ⟨i,hi,hv⟩:=Option.bind_eq_some_iff.1 hv;exact ⟨v,by simp[zeroValue,typeInfo,hi,hv],VR.ofV1 hz⟩
theorem ZeH:∀(fs:List Field)(w:World),(∀f ∈ fs,(szOf P f.type).isSome=true)→
  (fs.mapM λf=>do pure (f.offset, ← Go.sizeOf f.type):Sem (List (Nat × Nat))).run P w = .ok (fs.map λf=>(f.offset,(szOf P f.type).getD 0)) w
 | [],w,_=>rfl
 | f::fs,w,hf=>by
  obtain ⟨n,hn⟩:=Option.isSome_iff_exists.1 (hf f (by simp))
  have ih:=ZeH fs w (λg hg=>hf g (by simp[hg]))
  simp only[List.mapM_cons,List.map_cons];have ih':(fs.mapM λf=>Prod.mk f.offset <$> Go.sizeOf f.type).run P w = .ok (fs.map λf=>(f.offset,(szOf P f.type).getD 0)) w:=by simpa using ih
  simp[Sem.run_bind,Z0h hn,ih',hn]
theorem ZmP{ty:TypeId}{z:List AV}{a:AV}{parts:List (Nat × AV)}{vparts:List (Nat × Value)}(hz:zeroAV P ty=some (.agg z))(ha:allSized P ty=true)
  (hl:parts.length=vparts.length) (hr:∀(i:Nat)(p:Nat × AV)(q:Nat × Value),parts[i]? = some p→vparts[i]? = some q→p.1=q.1∧VR μ h p.2 q.2)
  (hk:buildK z (parts.map λp=>(placeOf P ty p.1,p.2)) some=some a):∃u,(Instr.build ty vparts.toArray).run P w = .ok u w∧VR μ h a u:=by
 unfold buildK at hk;split at hk<;>try (simp at hk;done)
 rename_i c hc;simp only[Option.some.injEq] at hk
 subst hk;obtain ⟨v,hv,hvr⟩:=Z3c (μ:=μ) (h:=h) (w:=w) hz
 simp only[VR] at hvr;obtain ⟨vs,rfl,hvs⟩:=hvr
 unfold allSized at ha;split at ha<;>try (simp at ha;done)
 case h_2 n e hu=>
  obtain ⟨sz,hs⟩:=Option.isSome_iff_exists.1 ha;have hao:arrOf P ty=some (n,e):=by unfold arrOf;rw[hu]
  obtain ⟨cells',h1,h2⟩:=ZeG (μ:=μ) (h:=h) (place:=λi=>some (i * sz,sz)) (pl:=placeOf P ty) (by
   intro i q hq;unfold placeOf at hq
   rw[hao] at hq;simp only[hs,Option.map_some] at hq;exact hq) parts vparts z vs c hl hr hvs hc
  refine ⟨.agg cells', ?_,by simp only[VR];exact ⟨_,rfl,h2⟩⟩
  unfold Instr.build
  rw[Sem.run_bind,hv];simp only[Result.andThen_ok];rw[Sem.run_bind,run_underlying hu];simp only[Result.andThen_ok];rw[Sem.run_bind,Z0h hs];simp only[Result.andThen_ok,Value.cells];rw[h1]
  rfl
 rename_i fs hu;have hsz:=ZeH (P:=P) fs.toList w (by intro f hf;exact List.all_eq_true.1 ha f hf)
 obtain ⟨cells',h1,h2⟩:=ZeG (μ:=μ) (h:=h) (place:=((fs.map λf=>(f.offset,(szOf P f.type).getD 0))[·]?)) (pl:=placeOf P ty) (by
  intro i q hq;have hao:arrOf P ty=none:=by unfold arrOf;rw[hu]
  unfold placeOf at hq;rw[hao] at hq
  unfold fieldOf at hq;rw[hu] at hq
  simp only[Option.bind_eq_some_iff,Option.map_eq_some_iff] at hq;obtain ⟨⟨o,t⟩,⟨f,hf,e⟩,n,hn,rfl⟩:=hq
  simp only[Prod.mk.injEq] at e;obtain ⟨e1,e2⟩:=e
  subst e1 e2;simp[hf,hn]) parts vparts z vs c hl hr hvs hc
 refine ⟨.agg cells', ?_,by simp only[VR];exact ⟨_,rfl,h2⟩⟩
 have hmap:(fs.mapM λf=>do pure (f.offset, ← Go.sizeOf f.type):Sem (Array (Nat × Nat))).run P w = .ok (fs.map λf=>(f.offset,(szOf P f.type).getD 0)) w:=by
  rw[Array.mapM_eq_mapM_toList];have hsz':(fs.toList.mapM λf=>Prod.mk f.offset <$> Go.sizeOf f.type).run P w = .ok (fs.toList.map λf=>(f.offset,(szOf P f.type).getD 0)) w:=by simpa using hsz
  simp[Sem.run_bind,hsz'];apply Array.ext'
  simp
 unfold Instr.build
 rw[Sem.run_bind,hv];simp only[Result.andThen_ok];rw[Sem.run_bind,run_underlying hu];simp only[Result.andThen_ok];rw[Sem.run_bind,hmap];simp only[Result.andThen_ok,Value.cells];rw[h1]
 rfl
def EntsOk(μ:Mu)(h:Hp)(kvs:List (Value × AV))(es:List MapEntry):Prop:=
 kvs.length=es.length∧∀(i:Nat)(k:Value)(a:AV)(e:MapEntry),kvs[i]? = some (k,a)→es[i]? = some e→e.key=k∧VR μ h a e.val
theorem EntsOk.tail{k:Value}{a:AV}{kvs:List (Value × AV)}{e:MapEntry}{es:List MapEntry}(h1:EntsOk μ h ((k,a)::kvs) (e::es)):
  (e.key=k∧VR μ h a e.val)∧EntsOk μ h kvs es:=
 ⟨h1.2 0 k a e rfl rfl,by simpa using h1.1,λi k' a' e' h2 h3=>h1.2 (i+1) k' a' e' (by simpa using h2) (by simpa using h3)⟩
inductive Found (k:Value) (eq:Value→Value→Option Bool):List (Value × AV)→Nat→Option (Nat × AV)→Prop
 | nil (i:Nat):Found k eq [] i none
 | here {k' a kvs i} (he:eq k k'=some true):Found k eq ((k',a)::kvs) i (some (i,a))
 | there {k' a kvs i r} (he:eq k k'=some false) (ht:Found k eq kvs (i+1) r):Found k eq ((k',a)::kvs) i r
theorem ZaE{k:Value}{eq:Value→Value→Option Bool}:∀{kvs:List (Value × AV)}{r:Option AV}(i:Nat),lookupKV kvs eq k=some r→
  ∃r',Found k eq kvs i r'∧r'.map (·.2)=r
 | [],r,i,hk=>by simp[lookupKV] at hk;subst hk;exact ⟨none,.nil i,rfl⟩
 | (k',a)::kvs,r,i,hk=>by
  simp only[lookupKV] at hk;split at hk
  ·rename_i he;simp at hk;subst hk;exact ⟨_,.here he,rfl⟩
  ·rename_i he;obtain ⟨r',h1,h2⟩:=ZaE (i+1) hk;exact ⟨r',.there he h1,h2⟩
  ·simp at hk
theorem Z3d{kt:TypeId}{a b:Value}{q:Bool}(he:keyEq P kt a b=some q):pureVal P (Op.equal kt a b)=some q∧(q=true→Instr.sameBits 10000 b a=true):=by
 unfold keyEq at he;split at he
 ·rename_i h1
  split at he
  ·rename_i h2;simp at he;subst he;exact ⟨h1,λ_=>h2⟩
  ·simp at he
 ·rename_i hne;exact ⟨he,λhq=>by subst hq;exact absurd he hne⟩
theorem ZmQ{kt:TypeId}{k:Value}:∀{kvs:List (Value × AV)}{es:List MapEntry}{i:Nat}{r:Option (Nat × AV)},EntsOk μ h kvs es→Found k (keyEq P kt) kvs i r→
  ∃r',(Instr.findAsking kt k es i).run P w = .ok r' w∧(r=none→r'=none)∧∀j a,r=some (j,a)→∃v,r'=some (j,v)∧VR μ h a v:=by
 intro kvs;induction kvs with
 | nil=>
  intro es i r he hf;cases hf
  cases es with
  | nil=>exact ⟨none,rfl,λ_=>rfl,λ_ _ h=>by simp at h⟩
  | cons=>simp[EntsOk] at he
 | cons p kvs ih=>
  intro es i r he hf;obtain ⟨k',a⟩:=p
  cases es with
  | nil=>simp[EntsOk] at he
  | cons e es=>
   obtain ⟨⟨h1,h2⟩,h3⟩:=he.tail;cases hf with
   | here hq=>
    have:=Z1L _ _ (Z3d hq).1 w
    rw[← h1] at this;exact ⟨some (i,e.val),by simp[Instr.findAsking,Sem.run_bind,this],λh=>by simp at h,λj b hb=>by simp at hb;obtain ⟨rfl,rfl⟩:=hb;exact ⟨e.val,rfl,h2⟩⟩
   | there hq ht=>
    have:=Z1L _ _ (Z3d hq).1 w
    rw[← h1] at this;obtain ⟨r',h4,h5,h6⟩:=ih h3 ht
    exact ⟨r',by simp[Instr.findAsking,Sem.run_bind,this,h4],h5,h6⟩
theorem ZeI{kt:TypeId}{d:TypeDesc}{a b:Value}{q q':Bool}(hu:P.underlying kt=some d)(hs:Instr.sameNow d a b=some q)(he:pureVal P (Op.equal kt a b)=some q'):q=q':=by
 have hr:=Z1L _ _ he default;unfold Op.equal Op.maxDepth at hr;rw[Op.equalIn,Sem.run_bind,run_underlying hu,Result.andThen_ok] at hr;unfold Instr.sameNow at hs;split at hs
 ·split at hs
  ·rename_i hk
   subst hk;simp only[Option.some.injEq] at hs
   subst hs;simpa [Sem.run] using hr
  ·simp at hs
 ·simp only[Option.some.injEq] at hs
  subst hs;simpa [Sem.run] using hr
 ·simp only[Option.some.injEq] at hs
  subst hs;simpa [Sem.run] using hr
 ·simp at hs
theorem ZmR{kt:TypeId}{d:TypeDesc}{k:Value}(hu:P.underlying kt=some d):∀{kvs:List (Value × AV)}{es:List MapEntry}{i:Nat}{r:Option (Nat × AV)}{q:Option (Nat × Value)},
  EntsOk μ h kvs es→Found k (keyEq P kt) kvs i r→Instr.findNow d k es i=some q→(r=none→q=none)∧∀j a,r=some (j,a)→∃v,q=some (j,v)∧VR μ h a v:=by
 intro kvs;induction kvs with
 | nil=>
  intro es i r q he hf hn;cases hf
  cases es with
  | nil=>simp[Instr.findNow] at hn;subst hn;exact ⟨λ_=>rfl,λ_ _ h=>by simp at h⟩
  | cons=>simp[EntsOk] at he
 | cons p kvs ih=>
  intro es i r q he hf hn;obtain ⟨k',a⟩:=p
  cases es with
  | nil=>simp[EntsOk] at he
  | cons e es=>
   obtain ⟨⟨h1,h2⟩,h3⟩:=he.tail;simp only[Instr.findNow] at hn;rw[h1] at hn;cases hf with
   | here hq=>
    split at hn
    ·rename_i hs;simp at hn;subst hn;exact ⟨λh=>by simp at h,λj b hb=>by simp at hb;obtain ⟨rfl,rfl⟩:=hb;exact ⟨e.val,rfl,h2⟩⟩
    ·rename_i hs;have:=ZeI hu hs (Z3d hq).1;simp at this
    ·simp at hn
   | there hq ht=>
    split at hn
    ·rename_i hs;have:=ZeI hu hs (Z3d hq).1;simp at this
    ·exact ih h3 ht hn
    ·simp at hn
theorem Z3e{kt:TypeId}{d:TypeDesc}{k:Value}{kvs:List (Value × AV)}{es:List MapEntry}{r:Option (Nat × AV)}(hu:P.underlying kt=some d)(he:EntsOk μ h kvs es)
  (hf:Found k (keyEq P kt) kvs 0 r):∃r',(Instr.findKey kt k es).run P w = .ok r' w∧(r=none→r'=none)∧∀j a,r=some (j,a)→∃v,r'=some (j,v)∧VR μ h a v:=by
 unfold Instr.findKey
 rw[Sem.run_bind,run_underlying hu,Result.andThen_ok];cases hn:Instr.findNow d k es 0 with
 | some q=>obtain ⟨h1,h2⟩:=ZmR hu he hf hn;exact ⟨q,rfl,h1,h2⟩
 | none=>exact ZmQ he hf
theorem ZaF{kt:TypeId}{k:Value}(hk:keyOk P kt k=true)(b:Bool):(Instr.checkKey b 10000 kt k).run P w = .ok () w:=by
 unfold keyOk at hk;obtain ⟨h1,h2⟩:=Bool.and_eq_true_iff.1 hk
 cases b
 ·obtain ⟨⟨⟩,h⟩:=Option.isSome_iff_exists.1 h1;exact Z1L _ _ h w
 ·obtain ⟨⟨⟩,h⟩:=Option.isSome_iff_exists.1 h2;exact Z1L _ _ h w
theorem ZmS(R:Rel μ h w){ty kt et:TypeId}{d:TypeDesc}{z m kk a:AV}{ok:Bool}{v v':Value}(hu:P.underlying ty=some (.map kt et))(hkt:P.underlying kt=some d)(hz:zeroAV P et=some z)
  (hm:VR μ h m v) (hkk:VR μ h kk v') (hk:lookK P kt z ok m kk h some=some a):∃u,(Instr.lookup ty v v' ok).run P w = .ok u w∧VR μ h a u:=by
 unfold lookK at hk;split at hk<;>try (simp at hk;done)
 rename_i id kv hkv;obtain rfl:=VR.toV hkk hkv
 split at hk<;>try (simp at hk;done)
 rename_i kvs ho;split at hk<;>try (simp at hk;done)
 rename_i hok;simp only[VR] at hm
 obtain ⟨kvs',blk,ho',hmu,rfl⟩:=hm;obtain ⟨blk',hmu',es,clock,hh,hl,-,-,hes⟩:=R.obj _ _ ho;rw[hmu] at hmu';injection hmu' with e1;subst e1;have hE:EntsOk μ h kvs es.toList:=⟨by simpa using hl,λi k a e h1 h2=>hes i k a e h1 (by simpa using h2)⟩
 have hck:=ZaF (w:=w) hok es.isEmpty;obtain ⟨zv,hzv,hzr⟩:=Z3c (μ:=μ) (h:=h) (w:=w) hz;have hg:(getObj blk).run P w = .ok (.map es clock) w:=by simp[getObj,Sem.run,hh]
 split at hk
 ·rename_i x hlk
  simp only[Option.some.injEq] at hk;subst hk
  obtain ⟨r,hf,hr⟩:=ZaE 0 hlk;obtain ⟨r',h1,-,h3⟩:=Z3e (w:=w) hkt hE hf;obtain ⟨⟨j,b⟩,rfl⟩:∃y,r=some y:=by cases r with | none=>simp at hr | some y=>exact ⟨y,rfl⟩
  simp at hr
  subst hr;obtain ⟨u,rfl,hur⟩:=h3 j b rfl
  cases ok
  ·exact ⟨u,by simp[Instr.lookup,Sem.run_bind,run_underlying hu,hg,hck,h1],by simpa using hur⟩
  ·exact ⟨.tuple #[u,.bool true],by simp[Instr.lookup,Sem.run_bind,run_underlying hu,hg,hck,h1],by simp[VR,VRs,gv];exact hur⟩
 ·rename_i hlk
  simp only[Option.some.injEq] at hk;subst hk
  obtain ⟨r,hf,hr⟩:=ZaE 0 hlk;obtain ⟨r',h1,h2,-⟩:=Z3e (w:=w) hkt hE hf;have:r=none:=by cases r with | none=>rfl | some y=>simp at hr
  obtain rfl:=h2 this
  cases ok
  ·exact ⟨zv,by simp[Instr.lookup,Sem.run_bind,run_underlying hu,hg,hck,h1,hzv],by simpa using hzr⟩
  ·exact ⟨.tuple #[zv,.bool false],by simp[Instr.lookup,Sem.run_bind,run_underlying hu,hg,hck,h1,hzv],by simp[VR,VRs,gv];exact hzr⟩
 ·simp at hk
end Go.AM


namespace Go.AM
open Go.RowKit
variable {P:Program} {μ:Mu} {h:Hp} {w:World}
theorem VRs.map_ops{r:Operand→AV}{ρ:Operand→Value}(hr:∀x,VR μ h (r x) (ρ x))(l:List Operand):VRs μ h (l.map r) (l.map ρ):=VRs.map r ρ hr l
theorem ZaG{r:Operand→AV}{ρ:Operand→Value}(hr:∀x,VR μ h (r x) (ρ x))(o:Option Operand):(∀y,o.map r=some y→∃u,o.map ρ=some u∧VR μ h y u)∧(o.map r=none→o.map ρ=none):=by
 cases o with
 | none=>exact ⟨λy hy=>by simp at hy,λ_=>rfl⟩
 | some x=>exact ⟨λy hy=>by simp at hy;subst hy;exact ⟨_,rfl,hr x⟩,λhn=>by simp at hn⟩
theorem ZeJ(R:Rel μ h w){r:Operand→AV}{ρ:Operand→Value}(hr:∀x,VR μ h (r x) (ρ x)){o:Oper}{a:AV}(hk:pureK P r h o.op some=some a):
  ∃v,(execOp ρ o).run P w = .ok (.value v) w∧VR μ h a v:=by
 have key:∀{s:Sem Value} ,(∃v,s.run P w = .ok v w∧VR μ h a v)→(execOp ρ o=(do pure (Next.value (← s))))→∃v,(execOp ρ o).run P w = .ok (.value v) w∧VR μ h a v:=by
  rintro s ⟨v,h1,h2⟩ e
  exact ⟨v,by rw[e];exact Zmq h1,h2⟩
 unfold pureK at hk;cases ho:o.op<;>rw[ho] at hk<;>try (simp at hk;done)
 case move x=>simp at hk;subst hk;exact ⟨ρ x,by simp[execOp,ho],hr x⟩
 case assign x=>simp at hk;subst hk;exact ⟨ρ x,by simp[execOp,ho],hr x⟩
 case pick c x y=>
  obtain ⟨u,h1,h2⟩:=ZmG (P:=P) (w:=w) (hr c) (hr x) (hr y) hk;exact ⟨u,by simpa [execOp,ho] using h1,h2⟩
 case build ty parts=>
  dsimp only at hk;split at hk<;>try (simp at hk;done)
  rename_i z hz ha;refine key (ZmP (parts:=parts.toList.map λp=>(p.1,r p.2)) (vparts:=parts.toList.map λp=>(p.1,ρ p.2)) hz ha (by simp) ?_ (by rw[List.map_map];exact hk)) ?_
  ·intro i p q h1 h2
   simp only[List.getElem?_map,Option.map_eq_some_iff] at h1 h2;obtain ⟨x,hx,rfl⟩:=h1
   obtain ⟨y,hy,rfl⟩:=h2;rw[hx] at hy;injection hy with e;subst e;exact ⟨rfl,hr _⟩
  ·simp only[execOp,ho]
   congr 2
   have:(parts.map λx=>(x.1,ρ x.2))=(parts.toList.map λp=>(p.1,ρ p.2)).toArray:=by apply Array.ext';simp
   rw[← this]
 case load ty x=>
  dsimp only at hk;split at hk<;>try (simp at hk;done)
  rename_i n hs;exact key (ZeA R (hr x) hs hk) (by simp[execOp,ho])
 case nilCheck x=>
  have hx:=hr x;unfold nilK at hk;dsimp only at hk;split at hk<;>try (simp at hk;done)
  all_goals
   rename_i e;simp only[Option.some.injEq] at hk
   subst hk;rw[e] at hx
   refine ⟨ρ x, ?_,hx⟩;simp only[VR] at hx
  ·obtain ⟨ad,e',_⟩:=hx;simp[execOp,ho,e']
  ·obtain ⟨b,o',vs,e',_⟩:=hx;simp[execOp,ho,e']
  ·obtain ⟨vs,e',_⟩:=hx;simp[execOp,ho,e']
  ·obtain ⟨_,_,_,_,_,_,_,_,_,_,e'⟩:=hx;simp[execOp,ho,e']
 case binOp op ty x y yt=>exact key (Zmy (X:=x) (Y:=y) R (hr x) (hr y) hk) (by simp[execOp,ho])
 case unOp op ty x=>exact key (Zmz (hr x) hk) (by simp[execOp,ho])
 case convert s d x=>exact key (ZmA (hr x) hk) (by simp[execOp,ho])
 case makeFunc fn first caps=>
  cases fn<;>dsimp only at hk<;>try (simp at hk;done)
  split at hk<;>try (simp at hk;done)
  rename_i f hf;simp only[Option.some.injEq] at hk
  subst hk;have:first = #[]:=Array.size_eq_zero_iff.1 hf
  subst this;refine ⟨.func (.func f) #[] (caps.map ρ),by simp[execOp,ho,Instr.makeFunc], ?_⟩
  simp only[VR];exact ⟨_,rfl,by rw[Array.toList_map];exact VRs.map_ops hr _⟩
 case slice ty x lo hi mx=>
  dsimp only at hk;split at hk<;>try (simp at hk;done)
  rename_i n hs;obtain ⟨e,he,hs⟩:=Option.bind_eq_some_iff.1 hs
  obtain ⟨a1,a2⟩:=ZaG hr lo;obtain ⟨b1,b2⟩:=ZaG hr hi;obtain ⟨c1,c2⟩:=ZaG hr mx;exact key (ZmO he hs (hr x) a1 a2 b1 b2 c1 c2 hk) (by simp[execOp,ho])
 case fieldAddr ty x f=>
  dsimp only at hk;split at hk<;>try (simp at hk;done)
  rename_i off ft hf;split at hk<;>try (simp at hk;done)
  rename_i n hs;exact key (ZmH hf hs (hr x) hk) (by simp[execOp,ho])
 case field ty x f=>
  dsimp only at hk;split at hk<;>try (simp at hk;done)
  rename_i off ft hf;split at hk<;>try (simp at hk;done)
  rename_i n hs;exact key (ZmI hf hs (hr x) hk) (by simp[execOp,ho])
 case indexAddr ty x i=>
  dsimp only at hk;split at hk
  ·rename_i len e he
   split at hk<;>try (simp at hk;done)
   rename_i n hs;exact key (ZmK he hs (hr x) (hr i) hk) (by simp[execOp,ho])
  ·split at hk<;>try (simp at hk;done)
   rename_i n hs;obtain ⟨e,he,hs⟩:=Option.bind_eq_some_iff.1 hs
   exact key (ZmJ he hs (hr x) (hr i) hk) (by simp[execOp,ho])
 case index ty x i=>
  dsimp only at hk;split at hk<;>try (simp at hk;done)
  ·rename_i hu
   exact key (ZmN hu (hr x) (hr i) hk) (by simp[execOp,ho])
  ·rename_i len e hu
   split at hk<;>try (simp at hk;done)
   rename_i n hs;exact key (ZmL hu hs (hr x) (hr i) hk) (by simp[execOp,ho])
 case lookup ty m kk ok=>
  dsimp only at hk;split at hk<;>try (simp at hk;done)
  rename_i kt et hu;split at hk<;>try (simp at hk;done)
  rename_i z d hz hkt;exact key (ZmS R hu hkt hz (hr m) (hr kk) hk) (by simp[execOp,ho])
 case extract x i=>exact key (ZmB (hr x) hk) (by simp[execOp,ho])
 case call c=>
  dsimp only at hk;split at hk
  ·rename_i hc
   split at hk<;>try (simp at hk;done)
   rename_i x ty hargs htys;have e1:c.args = #[x]:=by apply Array.ext';simpa using hargs
   have e2:c.argTypes = #[ty]:=by apply Array.ext';simpa using htys
   split at hk
   ·rename_i e hu
    obtain ⟨u,h1,h2⟩:=ZmE (ty:=o.type) (w:=w) hu (hr x) hk;exact ⟨u,by simp[execOp,ho,resolve,hc,invoke,builtin,e1,e2,Sem.run_bind,h1],h2⟩
   ·rename_i k e hu
    obtain ⟨u,h1,h2⟩:=ZmF (ty:=o.type) R hu (hr x) hk;exact ⟨u,by simp[execOp,ho,resolve,hc,invoke,builtin,e1,e2,Sem.run_bind,h1],h2⟩
   ·simp at hk
  ·rename_i hc
   split at hk<;>try (simp at hk;done)
   rename_i x y hargs;have e1:c.args = #[x,y]:=by apply Array.ext';simpa using hargs
   obtain ⟨u,h1,h2⟩:=ZmC (P:=P) (w:=w) (tys:=c.argTypes) (ty:=o.type) (hr x) (hr y) hk;exact ⟨u,by simp[execOp,ho,resolve,hc,invoke,builtin,e1,Sem.run_bind,h1],h2⟩
  ·rename_i hc
   split at hk<;>try (simp at hk;done)
   rename_i x y hargs;have e1:c.args = #[x,y]:=by apply Array.ext';simpa using hargs
   obtain ⟨u,h1,h2⟩:=ZmD (P:=P) (w:=w) (tys:=c.argTypes) (ty:=o.type) (hr x) (hr y) hk;exact ⟨u,by simp[execOp,ho,resolve,hc,invoke,builtin,e1,Sem.run_bind,h1],h2⟩
  ·rename_i hc
   split at hk<;>try (simp at hk;done)
   rename_i x ty hargs htys;have e1:c.args = #[x]:=by apply Array.ext';simpa using hargs
   have e2:c.argTypes = #[ty]:=by apply Array.ext';simpa using htys
   split at hk<;>try (simp at hk;done)
   rename_i e he;obtain ⟨u,h1,h2⟩:=ZmM (ty':=o.type) (w:=w) he (hr x) hk
   exact ⟨u,by simp[execOp,ho,resolve,hc,invoke,builtin,e1,e2,Sem.run_bind,h1],h2⟩
  ·simp at hk
end Go.AM


namespace Go.AM
open Go.RowKit
variable {P:Program} {μ μ':Mu} {h h':Hp} {w w':World}

theorem ORel.mono{id:Nat}{o:AObj}(he:Evo μ h μ' h')(hm:μ' id=μ id)(hb:∀blk x c,μ id = .real blk x c→w'.heap[blk]? = w.heap[blk]?)(hs:w.heap.size≤w'.heap.size)
  (H:ORel μ h w id o):ORel μ' h' w' id o:=by
 cases o with
 | dead=>trivial
 | loop m ps asg body ts st pend=>
  obtain ⟨blk,r,hmu,hh,h1,h2,h3,h4,h5,h6,ht⟩:=H;exact ⟨blk,r,hm.trans hmu,(hb _ _ _ hmu).trans hh,h1,h2,h3,h4,h5,h6,λi=>VR.evo he _ _ (ht i)⟩
 | iter m n seen=>
  obtain ⟨blk,mb,hmu,hmb,⟨kvs,hk⟩,hh⟩:=H;obtain ⟨kvs',hk',hm'⟩:=he.obj m _ hk;exact ⟨blk,mb,hm.trans hmu,hm'.trans hmb,⟨kvs',hk'⟩,(hb _ _ _ hmu).trans hh⟩
 | map kvs=>
  obtain ⟨blk,hmu,es,clock,hh,hl,hcl,hbn,hes⟩:=H;exact ⟨blk,hm.trans hmu,es,clock,(hb _ _ _ hmu).trans hh,hl,hcl,hbn,λi k a e h1 h2=>let ⟨p,q⟩:=hes i k a e h1 h2; ⟨p,VR.evo he _ _ q⟩⟩
 | arr sz es own nil=>
  refine ⟨H.1, ?_⟩;have H2:=H.2;rw[hm];cases hmu:μ id with
  | virt A=>rw[hmu] at H2;exact H2
  | real blk x c=>
   rw[hmu] at H2;have hq:=hb _ _ _ hmu
   obtain ⟨h1,h2,h3,h4,h5,h6⟩:=H2;refine ⟨h1,h2,h3,by omega,λi e j a p q => ?_,λho => ?_⟩
   ·obtain ⟨v,r1,r2,r3⟩:=h5 i e j a p q
    exact ⟨v,(Z2u hq _).trans r1,r2,VR.evo he _ _ r3⟩
   ·obtain ⟨e0,cur,T,hc,hcs⟩:=h6 ho
    exact ⟨e0,cur,T,hq.trans hc,hcs⟩
theorem ORel.blk_lt{id:Nat}{o:AObj}(H:ORel μ h w id o){b x c:Nat}(hm:μ id = .real b x c)(ho:isOwn o=true∨∃sz es own nil,o = .arr sz es own nil):b<w.heap.size:=by
 cases o with
 | dead=>simp[isOwn] at ho
 | loop m ps asg body ts st pend=>
  obtain ⟨blk,r,hmu,hh,_⟩:=H;rw[hm] at hmu;injection hmu with e;subst e;exact (Array.getElem?_eq_some_iff.1 hh).1
 | iter m n seen=>
  obtain ⟨blk,mb,hmu,hmb,-,hh⟩:=H;rw[hm] at hmu;injection hmu with e;subst e;exact (Array.getElem?_eq_some_iff.1 hh).1
 | map kvs=>
  obtain ⟨blk,hmu,es,clock,hh,_⟩:=H;rw[hm] at hmu;injection hmu with e;subst e;exact (Array.getElem?_eq_some_iff.1 hh).1
 | arr sz es own nil=>
  have H2:=H.2;rw[hm] at H2;exact H2.2.2.2.1

theorem Step.upd(R:Rel μ h w){id:Nat}{old o':AObj}{loc:Loc}(hold:h[id]? = some old)
  (hevo:match old with
   | .arr sz es own nil=>∃es' nil',o' = .arr sz es' own nil'∧es.length≤es'.length∧(es'.length=es.length→loc=μ id)
   | .map _=>∃kvs',o' = .map kvs'∧loc=μ id
   | .dead=>True
   | .loop m ps asg body ts _ _=>∃st' pend',o' = .loop m ps asg body ts st' pend'∧loc=μ id
   | .iter m n _=>∃seen',o' = .iter m n seen'∧loc=μ id)
  (hfr:Frame (λb=>isOwn old=true∧∃x c,μ id = .real b x c) w w')
  (hloc:∀b x c,loc = .real b x c→w.heap.size≤b∨(isOwn old=true∧∃x' c',μ id = .real b x' c'))
  (hown:isOwn o'=true)
  (ho:Evo μ h (μ.set id loc) (h.set id o')→ORel (μ.set id loc) (h.set id o') w' id o'):
  Step μ h w (μ.set id loc) (h.set id o') w':=by
 have hlt:id<h.length:=(List.getElem?_eq_some_iff.1 hold).1;have hset:(h.set id o')[id]? = some o':=by simp[hlt]
 have hne:∀i,i≠id→(h.set id o')[i]? = h[i]? := λi hi=>List.getElem?_set_ne (Ne.symm hi)
 have hE:Evo μ h (μ.set id loc) (h.set id o'):=by
  refine ⟨ImmLe.refl _, ?_⟩;intro i o hi;by_cases e:i=id
  ·subst e
   rw[hold] at hi;injection hi with hi
   subst hi;cases old with
   | dead=>trivial
   | iter m n seen=>obtain ⟨seen',e1,e2⟩:=hevo;exact ⟨seen',by rw[hset,e1],by simp[e2]⟩
   | loop m ps asg body ts st pend=>obtain ⟨st',pend',e1,e2⟩:=hevo;exact ⟨st',pend',by rw[hset,e1],by simp[e2]⟩
   | map kvs=>obtain ⟨kvs',e1,e2⟩:=hevo;exact ⟨kvs',by rw[hset,e1],by simp[e2]⟩
   | arr sz es own nil=>obtain ⟨es',nil',e1,e2,e3⟩:=hevo;exact ⟨es',nil',by rw[hset,e1],e2,λq=>by simp[e3 q]⟩
  ·cases o with
   | dead=>trivial
   | loop m ps asg body ts st pend=>exact ⟨st,pend,by rw[hne i e];exact hi,by simp[e]⟩
   | iter m n seen=>exact ⟨seen,by rw[hne i e];exact hi,by simp[e]⟩
   | map kvs=>exact ⟨kvs,by rw[hne i e];exact hi,by simp[e]⟩
   | arr sz es own nil=>exact ⟨es,nil,by rw[hne i e];exact hi,Nat.le_refl _,λ_=>by simp[e]⟩
 -- the block of the turned object is no other object's
 have hsame:∀i o b x c,i≠id→h[i]? = some o→μ i = .real b x c→(isOwn o=true∨∃sz es own nil,o = .arr sz es own nil)→w'.heap[b]? = w.heap[b]? := by
  intro i o b x c hi hio hm hk;refine hfr.block b (ORel.blk_lt (R.obj i o hio) hm hk) ?_
  rintro ⟨h1,x',c',h2⟩
  by_cases hO:isOwn o=true
  ·exact hi (R.sep i id o old b x c x' c' hio hold hO h1 hm h2)
  ·rcases hk with hk | ⟨sz,es,own,nil,rfl⟩
   ·exact hO hk
   ·cases own with
    | true=>exact hO rfl
    | false=>exact R.apart i sz es nil b x c hio hm ⟨id,old,x',c',hold,h1,h2⟩
 have hO':∀b,Own (μ.set id loc) (h.set id o') b→Own μ h b∨w.heap.size≤b:=by
  rintro b ⟨i,o,x,c,h1,h2,h3⟩
  by_cases e:i=id
  ·subst e
   simp at h3
   rcases hloc b x c h3 with h4 | ⟨h4,x',c',h5⟩
   ·exact .inr h4
   ·exact .inl ⟨i,old,x',c',hold,h4,h5⟩
  ·rw[hne i e] at h1
   simp only[Mu.set_loc,e,if_false] at h3;exact .inl ⟨i,o,x,c,h1,h2,h3⟩
 refine ⟨⟨?_, ?_, ?_, ?_⟩,hE,⟨hfr.os,hfr.tape,hfr.output,hfr.drawn,hfr.size,λk hk hn=>hfr.block k hk λ⟨h1,x,c,h2⟩=>hn ⟨id,old,x,c,hold,h1,h2⟩⟩,hO',λk hk => .inl hk⟩
 ·intro i o hi
  by_cases e:i=id
  ·subst e
   rw[hset] at hi;injection hi with hi
   subst hi;exact ho hE
  ·rw[hne i e] at hi
   cases o with
   | dead=>trivial
   | iter m n seen=>exact ORel.mono hE (by simp[e]) (λb x c hm=>hsame i _ b x c e hi hm (.inl rfl)) hfr.size (R.obj i _ hi)
   | loop m ps asg body ts st pend=>exact ORel.mono hE (by simp[e]) (λb x c hm=>hsame i _ b x c e hi hm (.inl rfl)) hfr.size (R.obj i _ hi)
   | map kvs=>exact ORel.mono hE (by simp[e]) (λb x c hm=>hsame i _ b x c e hi hm (.inl rfl)) hfr.size (R.obj i _ hi)
   | arr sz es own nil=>exact ORel.mono hE (by simp[e]) (λb x c hm=>hsame i _ b x c e hi hm (.inr ⟨_,_,_,_,rfl⟩)) hfr.size (R.obj i _ hi)
 ·intro i j o p b x c y d hi hj hoi hpj hmi hmj
  by_cases ei:i=id
  ·by_cases ej:j=id
   ·rw[ei,ej]
   ·subst ei
    rw[hne j ej] at hj;simp only[Mu.set_loc,if_true] at hmi;simp only[Mu.set_loc,ej,if_false] at hmj
    exfalso
    rcases hloc b x c hmi with h4 | ⟨h4,x',c',h5⟩
    ·have:=ORel.blk_lt (R.obj j p hj) hmj (.inl hpj);omega
    ·exact ej (R.sep j i p old b y d x' c' hj hold hpj h4 hmj h5)
  ·rw[hne i ei] at hi
   simp only[Mu.set_loc,ei,if_false] at hmi;by_cases ej:j=id
   ·subst ej
    simp only[Mu.set_loc,if_true] at hmj
    exfalso
    rcases hloc b y d hmj with h4 | ⟨h4,x',c',h5⟩
    ·have:=ORel.blk_lt (R.obj i o hi) hmi (.inl hoi);omega
    ·exact ei (R.sep i j o old b x c x' c' hi hold hoi h4 hmi h5)
   ·rw[hne j ej] at hj
    simp only[Mu.set_loc,ej,if_false] at hmj;exact R.sep i j o p b x c y d hi hj hoi hpj hmi hmj
 ·intro i sz es nil b x c hi hmi hO
  by_cases ei:i=id
  ·subst ei
   rw[hset] at hi;injection hi with hi
   subst hi;simp[isOwn] at hown
  ·rw[hne i ei] at hi
   simp only[Mu.set_loc,ei,if_false] at hmi;rcases hO' b hO with h1 | h1
   ·exact R.apart i sz es nil b x c hi hmi h1
   ·have:=ORel.blk_lt (R.obj i _ hi) hmi (.inr ⟨_,_,_,_,rfl⟩);omega
 ·intro k hk
  obtain ⟨h1,h2,h3⟩:=R.imm k hk;refine ⟨Nat.lt_of_lt_of_le h1 hfr.size,(hfr.block k h1 λ⟨q1,x,c,q2⟩=>h3 ⟨id,old,x,c,hold,q1,q2⟩).trans h2,λhO => ?_⟩
  rcases hO' k hO with q | q
  ·exact h3 q
  ·omega
theorem Step.pad(R:Rel μ h w)(n:Nat):Step μ h w μ (h++List.replicate n .dead) w:=by
 have hin:∀i o,h[i]? = some o→(h++List.replicate n .dead)[i]? = some o:=λi o hi=>by
  rw[List.getElem?_append_left (List.getElem?_eq_some_iff.1 hi).1];exact hi
 have hout:∀i o,(h++List.replicate n .dead)[i]? = some o→h[i]? = some o∨o=AObj.dead:=λi o hi=>by
  rcases Nat.lt_or_ge i h.length with hl | hl
  ·rw[List.getElem?_append_left hl] at hi;exact .inl hi
  ·rw[List.getElem?_append_right hl,List.getElem?_replicate] at hi
   split at hi<;>simp_all
 have hE:Evo μ h μ (h++List.replicate n .dead):=by
  refine ⟨ImmLe.refl _, ?_⟩;intro i o hi;cases o with
  | dead=>trivial
  | loop m ps asg body ts st pend=>exact ⟨st,pend,hin _ _ hi,rfl⟩
  | iter m n seen=>exact ⟨seen,hin _ _ hi,rfl⟩
  | map kvs=>exact ⟨kvs,hin _ _ hi,rfl⟩
  | arr sz es own nil=>exact ⟨es,nil,hin _ _ hi,Nat.le_refl _,λ_=>rfl⟩
 have hO:∀b,Own μ (h++List.replicate n .dead) b→Own μ h b:=by
  rintro b ⟨i,o,x,c,h1,h2,h3⟩
  rcases hout i o h1 with h4 | rfl
  ·exact ⟨i,o,x,c,h4,h2,h3⟩
  ·simp[isOwn] at h2
 refine ⟨⟨?_, ?_, ?_,λk hk=>⟨(R.imm k hk).1,(R.imm k hk).2.1,λq=>(R.imm k hk).2.2 (hO k q)⟩⟩,hE,Frame.refl _ _,λb hb => .inl (hO b hb),λk hk => .inl hk⟩
 ·intro i o hi
  rcases hout i o hi with h4 | rfl
  ·exact ORel.mono hE rfl (λ_ _ _ _=>rfl) (Nat.le_refl _) (R.obj i o h4)
  ·trivial
 ·intro i j o p b x c y d hi hj hoi hpj hmi hmj
  rcases hout i o hi with h4 | rfl
  ·rcases hout j p hj with h5 | rfl
   ·exact R.sep i j o p b x c y d h4 h5 hoi hpj hmi hmj
   ·simp[isOwn] at hpj
  ·simp[isOwn] at hoi
 ·intro i sz es nil b x c hi hmi hOb
  rcases hout i _ hi with h4 | h4
  ·exact R.apart i sz es nil b x c h4 hmi (hO b hOb)
  ·cases h4
theorem Frame.alloc(S:Nat→Prop)(w:World)(o:Obj):Frame S w (w.alloc o):=⟨rfl,rfl,rfl,DrLe.refl w,by simp,λk hk _=>Below.heap_alloc w o k hk⟩
theorem Frame.drew(S:Nat→Prop)(w:World):Frame S w w.drew:=⟨rfl,rfl,rfl,by unfold DrLe;first | exact Nat.le_succ _ | trivial,Nat.le_refl _,λ_ _ _=>rfl⟩
theorem Step.drew(R:Rel μ h w):Step μ h w μ h w.drew:=
 ⟨⟨λi o hi=>ORel.mono (Evo.refl _ _) rfl (λ_ _ _ _=>rfl) (Nat.le_refl _) (R.obj i o hi),R.sep,R.apart,R.imm⟩,Evo.refl _ _,Frame.drew _ _,λb hb => .inl hb,λk hk => .inl hk⟩
theorem Own.nil{b:Nat}(ho:Own μ [] b):False:=by obtain ⟨id,o,x,c,h1,_⟩:=ho;simp at h1
theorem Rel.nil(hi:∀k,μ.imm k→k<w.heap.size∧w.heap[k]? = μ.base.heap[k]?):Rel μ [] w:=
 ⟨λid o h=>by simp at h,λi j o p b x c y d h=>by simp at h,λi sz es nil b x c h=>by simp at h,λk hk=>⟨(hi k hk).1,(hi k hk).2,Own.nil⟩⟩
theorem Rel.own_lt(R:Rel μ h w){b:Nat}(ho:Own μ h b):b<w.heap.size:=by
 obtain ⟨id,o,x,c,h1,h2,h3⟩:=ho;exact ORel.blk_lt (R.obj id o h1) h3 (.inl h2)
theorem Rel.over(R:Rel μ h w){ν:Mu}{g:Hp}(S:Frame (Own ν []) w w'){ξ:Mu}(hl:ξ.loc=μ.loc)(hi:ImmLe μ ξ)(hx:∀k,ξ.imm k→k<w'.heap.size∧w'.heap[k]? = ξ.base.heap[k]? ∧ ¬Own μ h k):Rel ξ h w'∧Evo μ h ξ h∧Frame (Own μ h) w w':=by
 have hb:∀k,k<w.heap.size→w'.heap[k]? = w.heap[k]? := λk hk=>S.block k hk Own.nil
 have hE:Evo μ h ξ h:=by
  refine ⟨hi,λid o ho => ?_⟩
  cases o with
  | dead=>trivial
  | loop m ps asg body ts st pend=>exact ⟨st,pend,ho,by rw[hl]⟩
  | iter m n seen=>exact ⟨seen,ho,by rw[hl]⟩
  | map kvs=>exact ⟨kvs,ho,by rw[hl]⟩
  | arr sz es own nil=>exact ⟨es,nil,ho,Nat.le_refl _,λ_=>by rw[hl]⟩
 have hOw:∀b,Own ξ h b→Own μ h b:=by
  rintro b ⟨id,o,x,c,h1,h2,h3⟩
  exact ⟨id,o,x,c,h1,h2,by rw[← hl];exact h3⟩
 refine ⟨⟨λid o ho => ?_, ?_, ?_,λk hk=>⟨(hx k hk).1,(hx k hk).2.1,λq=>(hx k hk).2.2 (hOw k q)⟩⟩,hE,⟨S.os,S.tape,S.output,S.drawn,S.size,λk hk _=>hb k hk⟩⟩
 ·cases o with
  | dead=>trivial
  | iter m n seen=>exact ORel.mono hE (by rw[hl]) (λb x c hm=>hb b (ORel.blk_lt (R.obj id _ ho) hm (.inl rfl))) S.size (R.obj id _ ho)
  | loop m ps asg body ts st pend=>exact ORel.mono hE (by rw[hl]) (λb x c hm=>hb b (ORel.blk_lt (R.obj id _ ho) hm (.inl rfl))) S.size (R.obj id _ ho)
  | map kvs=>exact ORel.mono hE (by rw[hl]) (λb x c hm=>hb b (ORel.blk_lt (R.obj id _ ho) hm (.inl rfl))) S.size (R.obj id _ ho)
  | arr sz es own nil=>exact ORel.mono hE (by rw[hl]) (λb x c hm=>hb b (ORel.blk_lt (R.obj id _ ho) hm (.inr ⟨_,_,_,_,rfl⟩))) S.size (R.obj id _ ho)
 ·intro i j o p b x c y d hi hj hoi hpj hmi hmj
  rw[hl] at hmi hmj;exact R.sep i j o p b x c y d hi hj hoi hpj hmi hmj
 ·intro i sz es nil b x c hi hmi hO
  rw[hl] at hmi;exact R.apart i sz es nil b x c hi hmi (hOw b hO)
end Go.AM


namespace Go.AM
open Go.RowKit
variable {P:Program} {μ μ':Mu} {h h':Hp} {w w':World}
def Sized(n:Nat)(es:List (List AV)):Prop:=∀e ∈ es,e.length=n∧∀c ∈ e,okC c=true
theorem Z0X{n:Nat}:∀{es:List (List AV)},Sized n es→es.flatten.length=es.length * n
 | [],_=>by simp
 | e::es,hs=>by
  have h1:=Z0X (es:=es) (λx hx=>hs x (by simp[hx]))
  have h2:=(hs e (by simp)).1
  simp only[List.flatten_cons,List.length_append,h1,h2,List.length_cons,Nat.add_mul,Nat.one_mul]
  omega
theorem Z6J{n:Nat}:∀{es:List (List AV)}(_:Sized n es)(i j:Nat)(e:List AV)(c:AV),es[i]? = some e→e[j]? = some c→es.flatten[i * n+j]? = some c
 | [],_,i,j,e,c,h1,_=>by simp at h1
 | x::es,hs,0,j,e,c,h1,h2=>by
  simp at h1;subst h1
  have:=(List.getElem?_eq_some_iff.1 h2).1
  simp only[Nat.zero_mul,Nat.zero_add,List.flatten_cons];rw[List.getElem?_append_left this];exact h2
 | x::es,hs,i+1,j,e,c,h1,h2=>by
  have hx:=(hs x (by simp)).1
  have ih:=Z6J (es:=es) (λy hy=>hs y (by simp[hy])) i j e c (by simpa using h1) h2
  simp only[List.flatten_cons];rw[List.getElem?_append_right (by rw[hx,Nat.add_mul];omega),hx, ← ih]
  congr 1
  rw[Nat.add_mul]
  omega
theorem Z6K{n:Nat}:∀{es:List (List AV)}(_:Sized n es)(i:Nat)(e:List AV),i<es.length→(es.set i e).flatten=es.flatten.take (i * n)++e++es.flatten.drop (i * n+n)
 | [],_,i,e,h1=>by simp at h1
 | x::es,hs,0,e,_=>by
  have hx:=(hs x (by simp)).1
  simp only[List.set_cons_zero,List.flatten_cons,Nat.zero_mul,Nat.zero_add,List.take_zero,List.nil_append];rw[← hx,List.drop_left]
 | x::es,hs,i+1,e,h1=>by
  have hx:=(hs x (by simp)).1
  have ih:=Z6K (es:=es) (λy hy=>hs y (by simp[hy])) i e (by simpa using h1)
  simp only[List.set_cons_succ,List.flatten_cons,ih];have e1:(i+1) * n=x.length+i * n:=by rw[hx,Nat.add_mul];omega
  rw[e1,List.take_length_add_append,Nat.add_assoc,List.drop_length_add_append];simp[List.append_assoc]
theorem ORel.own_arr{id sz cap blk:Nat}{es:List (List AV)}{cur:Array Value}{T:TypeId}(hm:μ id = .real blk 0 cap)(hs:Sized sz es)(hle:es.length≤cap)(hcap:cap≤maxLen)
  (hb:w.heap[blk]? = some (.cells cur T (0,0))) (hc:cur.size=cap * sz) (h1:∀v ∈ cur.toList.take (es.length * sz),v.oneCell'=true)
  (hr:VRs μ h es.flatten (cur.toList.take (es.length * sz))):ORel μ h w id (.arr sz es true false):=by
 refine ⟨hs, ?_⟩;rw[hm];refine ⟨rfl,hle,hcap,(Array.getElem?_eq_some_iff.1 hb).1,λi e j c p q => ?_,λ_=>⟨rfl,cur,T,hb,hc⟩⟩
 obtain ⟨v,r1,r2⟩:=VRs.get hr _ _ (Z6J hs i j e c p q);refine ⟨v, ?_,h1 v (List.mem_of_getElem? r1),r2⟩;rw[Nat.zero_add,cell_of_row w blk _ cur T (0,0) hb];rw[List.getElem?_take] at r1;split at r1
 ·simpa using r1
 ·simp at r1
theorem ORel.own_flat{id sz : Nat}{es : List (List AV)}{nil : Bool}{blk o cap : Nat}(H : ORel μ h w id (.arr sz es true nil))(hm : μ id = .real blk o cap) :
    ∃ cur T, w.heap[blk]? = some (.cells cur T (0, 0)) ∧ cur.size = cap * sz ∧ o = 0 ∧ es.length ≤ cap ∧ cap ≤ maxLen ∧ (∀ v ∈ cur.toList.take (es.length * sz), v.oneCell' = true) ∧ VRs μ h es.flatten (cur.toList.take (es.length * sz)) := by
  obtain ⟨hs, H2⟩ := H;rw[hm] at H2;obtain ⟨hn, hle, hcap, hlt, hcell, hown⟩ := H2;obtain ⟨rfl, cur, T, hb, hc⟩ := hown rfl;have hfl := Z0X (n := sz) hs
  have hlen : (cur.toList.take (es.length * sz)).length = es.length * sz := by
    rw[List.length_take];have : es.length * sz ≤ cap * sz := Nat.mul_le_mul_right _ hle
    simp; omega
  have key : ∀(k : Nat)(c : AV)(v : Value), es.flatten[k]? = some c → (cur.toList.take (es.length * sz))[k]? = some v → v.oneCell' = true ∧ VR μ h c v := by
    intro k c v h1 h2;have hk := (List.getElem?_eq_some_iff.1 h1).1
    rw[hfl] at hk
    have hsz : 0 < sz := by rcases Nat.eq_zero_or_pos sz with h0 | h0; · subst h0; simp at hk
                            · exact h0
    have hi : k / sz < es.length := (Nat.div_lt_iff_lt_mul hsz).2 hk;have hj : k % sz < sz := Nat.mod_lt _ hsz;have hse := hs es[k / sz] (List.getElem_mem hi);have hj' : k % sz < es[k / sz].length := by rw[hse.1]; exact hj
    have e1 := Z6J hs (k / sz) (k % sz) _ _ (List.getElem?_eq_getElem hi) (List.getElem?_eq_getElem hj');have ek : k / sz * sz + k % sz = k := by rw[Nat.mul_comm]; exact Nat.div_add_mod k sz
    rw[ek] at e1;rw[h1] at e1;injection e1 with e1
    subst e1;obtain ⟨v', r1, r2, r3⟩ := hcell _ _ _ _ (List.getElem?_eq_getElem hi) (List.getElem?_eq_getElem hj')
    rw[Nat.zero_add, ek, cell_of_row w blk _ cur T (0, 0) hb] at r1;rw[List.getElem?_take] at h2;split at h2
    · have : cur[k]? = some v := by simpa using h2
      rw[this] at r1;injection r1 with r1
      subst r1;exact ⟨r2, r3⟩
    · rename_i hnk; exact absurd hk hnk
  refine ⟨cur, T, hb, hc, rfl, hle, hcap, ?_, VRs.of_get (by rw[hfl, hlen]) (λi a v p q => (key i a v p q).2)⟩
  intro v hv;obtain ⟨k, hk, e⟩ := List.getElem_of_mem hv
  have hk' : k < es.flatten.length := by rw[hfl]; rw[hlen] at hk; exact hk
  exact (key k _ v (List.getElem?_eq_getElem hk') (by rw[List.getElem?_eq_getElem hk, e])).1

def Out(P:Program)(s:Sem Next)(μ:Mu)(h:Hp)(w:World)(a:AV)(h':Hp):Prop:=
 ∃μ' w',Step μ h w μ' h' w'∧((∃v,s.run P w = .ok (.value v) w'∧VR μ' h' a v)∨(s.run P w = .ok .skip w'∧a = .u))
def apAt(h:Hp)(base:Nat)(e:Eff):Hp:=(e.news.zipIdx base).foldl (λh p=>h.set p.2 p.1) (e.puts.foldl (λh p=>h.set p.1 p.2) h)

theorem ZeK(R:Rel μ h w){base n:Nat}(hd:h[base]? = some .dead){es:List (List AV)}{cells:Array Value}{T:TypeId}(hs:Sized n es)(hc:cells.size=es.length * n)(hcap:es.length≤maxLen)
  (h1:∀v ∈ cells.toList,v.oneCell'=true) (hr:VRs μ h es.flatten cells.toList) (w1:World) (hw1:Step μ h w μ h w1):
  Step μ h w (μ.set base (.real w1.heap.size 0 es.length)) (h.set base (.arr n es true false)) (w1.alloc (.cells cells T)):=by
 have hlt:base<h.length:=(List.getElem?_eq_some_iff.1 hd).1;refine hw1.trans (Step.upd hw1.rel (loc := .real w1.heap.size 0 es.length) hd trivial (Frame.alloc _ _ _) ?_ rfl ?_)
 ·intro b x c e;injection e with e1 e2 e3;subst e1;exact .inl (Nat.le_refl _)
 ·intro hE
  have hlen:cells.toList.take (es.length * n)=cells.toList:=List.take_of_length_le (by simp[hc])
  refine ORel.own_arr (cap:=es.length) (blk:=w1.heap.size) (cur:=cells) (T:=T) (by simp) hs (Nat.le_refl _) hcap (heap_alloc_new w1 _) hc ?_ ?_
  ·rw[hlen];exact h1
  ·rw[hlen];exact VRs.evo hE _ _ hr
theorem VRs.one{asl:List AV}{vs:List Value}(hv:VRs μ h asl vs)(ok:asl.all okC=true):∀v ∈ vs,v.oneCell'=true:=by
 intro v hm;obtain ⟨k,hk,e⟩:=List.getElem_of_mem hm
 have hk':k<asl.length:=by rw[hv.length];exact hk
 obtain ⟨v',h1,h2⟩:=VRs.get hv k _ (List.getElem?_eq_getElem hk');rw[List.getElem?_eq_getElem hk] at h1;injection h1 with h1;rw[e] at h1;subst h1;exact VR.one h2 (List.all_eq_true.1 ok _ (List.getElem_mem hk'))
theorem ZeL(R:Rel μ h w){base n:Nat}{x a:AV}{e:Eff}{v:Value}{elem:TypeId}(hx:VR μ h x v)(hk:boxE n x base=some (a,e))(hd:h[base]? = some .dead):
  ∃w' u μ',(Instr.box elem v).run P w = .ok u w'∧Step μ h w μ' (apAt h base e) w'∧VR μ' (apAt h base e) a u:=by
 unfold boxE at hk;split at hk<;>try (simp at hk;done)
 rename_i hc;simp only[Option.some.injEq,Prod.mk.injEq] at hk
 obtain ⟨rfl,rfl⟩:=hk;have hcs:=VR.cells hx hc.2;have hlt:base<h.length:=(List.getElem?_eq_some_iff.1 hd).1;have hl:=hcs.length
 have hst:=ZeK (T:=elem) R hd (es:=[cellsOf x]) (cells:=v.cells) (n:=n) (by intro y hy;simp at hy;subst hy;exact ⟨hc.1,λc hcc=>List.all_eq_true.1 hc.2 c hcc⟩) (by simp[← hc.1,hl]) (by simp[maxLen])
  (VRs.one hcs hc.2) (by simpa using hcs) w (Step.refl R)
 refine ⟨_,.pointer (some ⟨w.heap.size,0,none⟩),_, ?_,hst, ?_⟩
 ·simp[Instr.box,newVar,newRow,newObj,Sem.run_bind,Sem.run]
 ·simp only[VR,apAt,EN]
  refine ⟨_,rfl,n,[cellsOf x],true,false,by simp[hlt],by simp,λ_=>⟨w.heap.size,0,1,by simp,by simp⟩⟩
theorem ZmT(R:Rel μ h w){base n:Nat}{z a:AV}{e:Eff}{elem:TypeId}(hz:zeroAV P elem=some z)(hk:boxE n z base=some (a,e))(hd:h[base]? = some .dead):
  ∃w' u μ',(Instr.alloc elem true (.tuple #[])).run P w = .ok u w'∧Step μ h w μ' (apAt h base e) w'∧VR μ' (apAt h base e) a u:=by
 obtain ⟨v,h1,h2⟩:=Z3c (μ:=μ) (h:=h) (w:=w) hz;obtain ⟨w',u,μ',h3,h4,h5⟩:=ZeL (P:=P) (elem:=elem) R h2 hk hd;refine ⟨w',u,μ', ?_,h4,h5⟩;simp only[Instr.alloc,Sem.run_bind,h1,Result.andThen_ok];simpa [Instr.box,Sem.run_bind] using h3
theorem ZmU(R:Rel μ h w){base:Nat}{ty:TypeId}(hd:h[base]? = some .dead):
  ∃w' u μ',(Instr.makeMap ty none).run P w = .ok u w'∧Step μ h w μ' (apAt h base (EN (.map []))) w'∧VR μ' (apAt h base (EN (.map []))) (.mp base) u:=by
 have hlt:base<h.length:=(List.getElem?_eq_some_iff.1 hd).1
 have hst:Step μ h w (μ.set base (.real w.heap.size 0 0)) (h.set base (.map [])) (w.alloc (.map #[] 0)):=by
  refine Step.upd R (loc := .real w.heap.size 0 0) hd trivial (Frame.alloc _ _ _) ?_ rfl ?_
  ·intro b x c e;injection e with e1 e2 e3;subst e1;exact .inl (Nat.le_refl _)
  ·intro hE
   exact ⟨w.heap.size,by simp,#[],0,heap_alloc_new w _,rfl,rfl,λi e h1=>by simp at h1,λi k a e h1=>by simp at h1⟩
 refine ⟨_,.map (some w.heap.size),_, ?_,hst, ?_⟩
 ·simp[Instr.makeMap,newObj,Sem.run_bind,Sem.run]
 ·simp only[VR,apAt,EN]
  exact ⟨[],w.heap.size,by simp[hlt],by simp,rfl⟩
theorem ZmV{e cs:List AV}{sub:Nat}(hl:sub+cs.length≤e.length):(putAt e sub cs).length=e.length:=by
 simp[putAt];omega
theorem ZmW(R:Rel μ h w){n:Nat}{ty:TypeId}{p x a:AV}{e:Eff}{v v':Value}(hs:szOf P ty=some n)(hp:VR μ h p v)(hx:VR μ h x v')(hk:stE n p x h=some (a,e))(base:Nat):
  ∃w' μ',(Instr.storeAt ty v v').run P w = .ok () w'∧Step μ h w μ' (apAt h base e) w'∧a = .u:=by
 unfold stE at hk;split at hk<;>try (simp at hk;done)
 rename_i id idx sub fr;split at hk<;>try (simp at hk;done)
 rename_i sz es own nil ho;split at hk<;>try (simp at hk;done)
 rename_i hc;obtain ⟨hfr,rfl,hn,hok⟩:=hc
 split at hk<;>try (simp at hk;done)
 rename_i el hel;split at hk<;>try (simp at hk;done)
 rename_i hfit;simp only[Option.some.injEq,Prod.mk.injEq] at hk
 obtain ⟨rfl,rfl⟩:=hk;simp only[VR] at hp;obtain ⟨ad,rfl,sz',es',own',nil',ho',_,hq⟩:=hp;rw[ho] at ho';injection ho' with ho';injection ho' with e1 e2 e3 e4;subst e1 e2 e3 e4;obtain ⟨blk,o,cap,hm,rfl⟩:=hq hfr.symm;have hO:=R.obj id _ ho;obtain ⟨cur,T,hb,hcur,rfl,hle,hcap,h1,hr⟩:=ORel.own_flat hO hm;have hsz:Sized sz es:=hO.1;have hlt:idx<es.length:=(List.getElem?_eq_some_iff.1 hel).1;have hell:=hsz el (List.mem_of_getElem? hel);have hcs:=VR.cells hx hok;have hcl:=hcs.length;have hvn:v'.cells.toList.length=n:=by rw[← hcl,hn]
 have hin:idx * sz+sub+n≤cur.size:=by
  have h2:(idx+1) * sz≤cap * sz:=Nat.mul_le_mul_right _ (by omega)
  rw[Nat.add_mul] at h2;rw[hcur];have:=hell.1
  omega
 have hone:=VRs.one hcs hok;have hstore:=run_storeCells_at P blk (idx * sz+sub) T v'.cells.toList 0 cur w hb (by rw[hvn];simpa using hin) hone
 simp only[Nat.add_zero] at hstore;obtain ⟨row,hrow⟩:∃row:Array Value,row=(cur.toList.take (idx * sz+sub)++v'.cells.toList++cur.toList.drop (idx * sz+sub+v'.cells.toList.length)).toArray:=⟨_,rfl⟩
 rw[← hrow] at hstore
 have hrowsz:row.size=cur.size:=by
  have hvs:v'.cells.size=n:=by simpa using hvn
  rw[hrow];simp[hvs];omega
 have hset:(w.setRow blk row).heap[blk]? = some (.cells row T (0,0)):=setRow_heap w blk cur row T (0,0) hb;refine ⟨w.setRow blk row,_, ?_,Step.upd R (o' := .arr sz (es.set idx (putAt el sub (cellsOf x))) true nil) (loc:=μ id) ho ⟨_,nil,rfl,by simp,λ_=>rfl⟩ ?_ ?_ rfl ?_,rfl⟩
 ·have:v'.cells.size=n:=by simpa using hvn
  simp[Instr.storeAt,Instr.sureAddr,storeVar,Sem.run_bind,Z0h hs,this];simpa using hstore
 ·exact ⟨rfl,rfl,rfl,(by unfold DrLe;first | exact Nat.le_refl _ | trivial),by simp,λk _ hk=>setRow_other w blk k _ (λe=>hk ⟨rfl,0,cap,by rw[e];exact hm⟩)⟩
 ·intro b x c e
  exact .inr ⟨rfl,x,c,e⟩
 ·intro hE
  have hnil:nil=false:=by have:=hO.2;rw[hm] at this;exact this.1
  subst hnil;have hlen':sub+(cellsOf x).length≤el.length:=by rw[hn];exact hfit
  have hsz':Sized sz (es.set idx (putAt el sub (cellsOf x))):=by
   intro y hy;rcases List.mem_or_eq_of_mem_set hy with hy | rfl
   ·exact hsz y hy
   ·refine ⟨by rw[ZmV hlen'];exact hell.1,λc hc => ?_⟩
    simp only[putAt,List.mem_append] at hc;rcases hc with (hc | hc) | hc
    ·exact hell.2 c (List.mem_of_mem_take hc)
    ·exact List.all_eq_true.1 hok c hc
    ·exact hell.2 c (List.mem_of_mem_drop hc)
  have hfl:=Z0X hsz
  have hflat:(es.set idx (putAt el sub (cellsOf x))).flatten=es.flatten.take (idx * sz+sub)++cellsOf x++es.flatten.drop (idx * sz+sub+n):=by
   have he:es.set idx el=es:=by rw[List.getElem?_eq_getElem hlt] at hel;injection hel with hel;rw[← hel];simp
   have e0:es.flatten=es.flatten.take (idx * sz)++el++es.flatten.drop (idx * sz+sz):=by
    rw[← Z6K hsz idx el hlt,he]
   have hpre:(es.flatten.take (idx * sz)).length=idx * sz:=by
    rw[List.length_take,hfl];have:(idx+1) * sz≤es.length * sz:=Nat.mul_le_mul_right _ hlt
    rw[Nat.add_mul] at this;omega
   rw[Z6K hsz idx _ hlt];unfold putAt
   have t1:es.flatten.take (idx * sz+sub)=es.flatten.take (idx * sz)++el.take sub:=by
    conv=>lhs;rw[e0]
    rw[List.append_assoc,List.take_append,hpre,List.take_of_length_le (by rw[hpre];omega)]
    congr 1
    rw[show idx * sz+sub-idx * sz=sub by omega,List.take_append_of_le_length (by rw[hell.1];have:=hell.1;omega)]
   have t2:es.flatten.drop (idx * sz+sub+n)=el.drop (sub+n)++es.flatten.drop (idx * sz+sz):=by
    conv=>lhs;rw[e0]
    rw[List.append_assoc,List.drop_append,hpre,List.drop_eq_nil_of_le (by rw[hpre];omega),List.nil_append]
    rw[show idx * sz+sub+n-idx * sz=sub+n by omega,List.drop_append_of_le_length (by have:=hell.1;omega)]
   rw[t1,t2,hn];simp[List.append_assoc]
  have hmul:es.length * sz≤cap * sz:=Nat.mul_le_mul_right _ hle;have hmul2:(idx+1) * sz≤es.length * sz:=Nat.mul_le_mul_right _ hlt;rw[Nat.add_mul] at hmul2
  have hrt:row.toList.take (es.length * sz)=cur.toList.take (idx * sz+sub)++v'.cells.toList++(cur.toList.take (es.length * sz)).drop (idx * sz+sub+n):=by
   have hq1:(cur.toList.take (idx * sz+sub)).length=idx * sz+sub:=by rw[List.length_take,Array.length_toList];omega
   rw[hrow];simp only[hvn];rw[List.append_assoc,List.take_append,hq1,List.take_of_length_le (by rw[hq1];have:=hell.1;omega),List.append_assoc]
   congr 1
   rw[List.take_append,hvn,List.take_of_length_le (by rw[hvn];have:=hell.1;omega)]
   congr 1
   rw[List.drop_take];congr 1
   omega
  have hvr:VRs (μ.set id (μ id)) (h.set id (.arr sz (es.set idx (putAt el sub (cellsOf x))) true false)) (es.set idx (putAt el sub (cellsOf x))).flatten (row.toList.take (es.length * sz)):=by
   rw[hflat,hrt];have r1:=VRs.take (idx * sz+sub) hr
   rw[List.take_take,Nat.min_eq_left (by have:=hell.1;omega)] at r1
   exact VRs.evo hE _ _ (VRs.append (VRs.append r1 hcs) (VRs.drop _ hr))
  refine ORel.own_arr (cur:=row) (T:=T) (cap:=cap) (blk:=blk) (by simp[hm]) hsz' (by simpa using hle) hcap hset (by rw[hrowsz];exact hcur) ?_ (by simpa using hvr)
  simp only[List.length_set];intro u hu
  rw[hrt] at hu;rcases List.mem_append.1 hu with hu | hu
  ·rcases List.mem_append.1 hu with hu | hu
   ·refine h1 u ?_
    have:cur.toList.take (idx * sz+sub)=(cur.toList.take (es.length * sz)).take (idx * sz+sub):=by rw[List.take_take,Nat.min_eq_left (by have:=hell.1;omega)]
    rw[this] at hu;exact List.mem_of_mem_take hu
   ·exact hone u hu
  ·exact h1 u (List.mem_of_mem_drop hu)
end Go.AM


namespace Go.AM
open Go.RowKit
variable {P:Program} {μ μ':Mu} {h h':Hp} {w w':World}
theorem ZmX{n:Nat}{place:Nat→Option (Nat × Nat)}(hp:∀i,place i=some (i * n,n)):
  ∀(parts:List (Nat × AV))(vparts:List (Nat × Value))(es:List (List AV))(cells:Array Value)(c:List (List AV)),
   parts.length=vparts.length→(∀(i:Nat)(p:Nat × AV)(q:Nat × Value),parts[i]? = some p→vparts[i]? = some q→p.1=q.1∧VR μ h p.2 q.2)→Sized n es→VRs μ h es.flatten cells.toList→
   (∀v ∈ cells.toList,v.oneCell'=true)→fillS n es parts=some c→
   ∃cells',Instr.fill place cells vparts=some cells'∧VRs μ h c.flatten cells'.toList∧Sized n c∧c.length=es.length∧∀v ∈ cells'.toList,v.oneCell'=true:=by
 intro parts;induction parts with
 | nil=>
  intro vparts es cells c hl _ hs hz h1 hk;simp[fillS] at hk
  subst hk;cases vparts with
  | nil=>exact ⟨cells,rfl,hz,hs,rfl,h1⟩
  | cons=>simp at hl
 | cons p parts ih=>
  intro vparts es cells c hl hr hs hz h1 hk;cases vparts with
  | nil=>simp at hl
  | cons q vparts=>
   obtain ⟨e1,hv⟩:=hr 0 p q rfl rfl;obtain ⟨i,x⟩:=p;simp only[fillS] at hk;split at hk<;>try (simp at hk;done)
   rename_i hc;obtain ⟨hc1,hc2,hc3⟩:=hc
   have hcs:=VR.cells hv hc2;have hlen:=hcs.length;have hzl:=hz.length;have hfl:=Z0X hs;simp only at hlen hc1 hc2 hcs;have e3:q.2.cells.toList.length=n:=by rw[← hlen,hc1]
   have hfit:i * n+n≤cells.size:=by
    have h2:(i+1) * n≤es.length * n:=Nat.mul_le_mul_right _ hc3;rw[Nat.add_mul] at h2;have:cells.size=es.length * n:=by rw[← Array.length_toList, ← hzl,hfl]
    omega
   have hfs:=foldSet (i * n) q.2.cells.toList 0 cells (by rw[e3];omega)
   have hs':Sized n (es.set i (cellsOf x)):=by
    intro y hy;rcases List.mem_or_eq_of_mem_set hy with hy | rfl
    ·exact hs y hy
    ·exact ⟨hc1,λc hcc=>List.all_eq_true.1 hc2 c hcc⟩
   have hone:=VRs.one hcs hc2
   obtain ⟨cells',g1,g2,g3,g4,g5⟩:=ih vparts (es.set i (cellsOf x)) (q.2.cells.zipIdx.foldl (λcs (c,j)=>cs.setIfInBounds (i * n+j) c) cells) c (by simpa using hl)
    (λi p' q' h1 h2=>hr (i+1) p' q' (by simpa using h1) (by simpa using h2)) hs' (by
     rw[← Array.foldl_toList,Array.toList_zipIdx,hfs,Z6K hs i _ hc3];simp only[Nat.add_zero,e3];exact VRs.append (VRs.append (VRs.take _ hz) hcs) (VRs.drop _ hz)) (by
     rw[← Array.foldl_toList,Array.toList_zipIdx,hfs];intro v hv
     rcases List.mem_append.1 hv with hv | hv
     ·rcases List.mem_append.1 hv with hv | hv
      ·exact h1 v (List.mem_of_mem_take hv)
      ·exact hone v hv
     ·exact h1 v (List.mem_of_mem_drop hv)) hk
   refine ⟨cells', ?_,g2,g3,by simpa using g4,g5⟩
   simp only[Instr.fill];simp only at e1
   rw[← e1,hp];have e4:q.2.cells.size=n:=by simpa using e3
   have:¬((q.2.cells.size≠n||i * n+q.2.cells.size > cells.size)=true):=by
    simp[e4];omega
   simp only[this];exact g1
theorem ZaH{n:Nat}{z:List AV}{zv:Array Value}(hz:VRs μ h z zv.toList)(hn:z.length=n)(hp:0<n)(len:Nat):
  VRs μ h (List.replicate len z).flatten ((Array.range (len * n)).map (zv[· % zv.size]!)).toList:=by
 have hzs:zv.size=n:=by rw[← Array.length_toList, ← hz.length,hn]
 have hfl:(List.replicate len z).flatten.length=len * n:=by simp[hn]
 refine VRs.of_get (by rw[hfl];simp) λi a v h1 h2 => ?_
 have hi:i<len * n:=by rw[← hfl];exact (List.getElem?_eq_some_iff.1 h1).1
 have h3:(List.replicate len z).flatten[i]? = z[i % n]? := by
  have hj:i % n<z.length:=by rw[hn];exact Nat.mod_lt _ hp
  have hd:i / n<len:=(Nat.div_lt_iff_lt_mul hp).2 hi;have ek:i / n * n+i % n=i:=by rw[Nat.mul_comm];exact Nat.div_add_mod i n
  -- without Z6J,since z may hold what memory may not
  have aux:∀(len q:Nat),q<len→(List.replicate len z).flatten[q * n+i % n]? = z[i % n]? := by
   intro len;induction len with
   | zero=>intro q hq;omega
   | succ len ih=>
    intro q hq;rw[List.replicate_succ,List.flatten_cons]
    cases q with
    | zero=>simp only[Nat.zero_mul,Nat.zero_add];exact List.getElem?_append_left hj
    | succ q=>
     rw[List.getElem?_append_right (by rw[hn,Nat.add_mul];omega), ← ih q (by omega)]
     congr 1
     rw[hn,Nat.add_mul]
     omega
  have:=aux len (i / n) hd
  rwa [ek] at this
 rw[h3] at h1;obtain ⟨u,g1,g2⟩:=VRs.get hz _ _ h1
 have h4:((Array.range (len * n)).map (zv[· % zv.size]!)).toList[i]? = some u:=by
  have g3:zv[i % n]? = some u:=by simpa using g1
  have hj:i % n<zv.size:=(Array.getElem?_eq_some_iff.1 g3).1;have g4:zv[i % n]! = u:=by rw[getElem!_pos zv _ hj];rw[Array.getElem?_eq_getElem hj] at g3;injection g3
  simp[hi,hzs];exact g4
 rw[h4] at h2;injection h2 with h2
 subst h2;exact g2
theorem ZmY(R:Rel μ h w){base n len:Nat}{z a:AV}{e:Eff}{ty elem:TypeId}{parts:List (Nat × AV)}{vparts:List (Nat × Value)}(he:elemOf P ty=some elem)(hs:szOf P elem=some n)
  (hz:zeroAV P elem=some z) (hzo:(cellsOf z).all okC=true∧(cellsOf z).length=n) (hbig:len * n≤16777216) (hpos:0<n) (hl:parts.length=vparts.length)
  (hr:∀(i:Nat)(p:Nat × AV)(q:Nat × Value),parts[i]? = some p→vparts[i]? = some q→p.1=q.1∧VR μ h p.2 q.2)
  (hk:bsE n (cellsOf z) len parts base=some (a,e)) (hd:h[base]? = some .dead):
  ∃w' u μ',(Instr.buildSlice ty len vparts.toArray).run P w = .ok u w'∧Step μ h w μ' (apAt h base e) w'∧VR μ' (apAt h base e) a u:=by
 unfold bsE at hk;split at hk<;>try (simp at hk;done)
 rename_i es hes;simp only[Option.some.injEq,Prod.mk.injEq] at hk
 obtain ⟨rfl,rfl⟩:=hk;have hlt:base<h.length:=(List.getElem?_eq_some_iff.1 hd).1;obtain ⟨zv,hzv,hzr⟩:=Z3c (μ:=μ) (h:=h) (w:=w) hz;have hzc:=VR.cells hzr hzo.1;have hrep:=ZaH hzc hzo.2 hpos len
 have hone0:∀v ∈ ((Array.range (len * n)).map (zv.cells[· % zv.cells.size]!)).toList,v.oneCell'=true:=by
  refine VRs.one hrep ?_;rw[List.all_eq_true];intro c hc;obtain ⟨l,hl1,hl2⟩:=List.mem_flatten.1 hc;rw[List.eq_of_mem_replicate hl1] at hl2;exact List.all_eq_true.1 hzo.1 c hl2
 obtain ⟨cells',g1,g2,g3,g4,g5⟩:=ZmX (μ:=μ) (h:=h) (n:=n) (place:=λi=>some (i * n,n)) (λ_=>rfl) parts vparts (List.replicate len (cellsOf z)) _ es hl hr
  (by intro y hy;rw[List.eq_of_mem_replicate hy];exact ⟨hzo.2,λc hc=>List.all_eq_true.1 hzo.1 c hc⟩) hrep hone0 hes
 have hlen:es.length=len:=by simpa using g4
 have hcs:cells'.size=es.length * n:=by rw[← Array.length_toList, ← g2.length,Z0X g3]
 have hcap:es.length≤maxLen:=by
  rw[hlen];unfold maxLen
  have:len * 1≤len * n:=Nat.mul_le_mul_left _ hpos
  omega
 have hst:=ZeK (T:=elem) R hd g3 hcs hcap g5 g2 w (Step.refl R);refine ⟨_,.slice (some ⟨w.heap.size,0,none⟩) len len,_, ?_,hst, ?_⟩
 ·have hb:¬(len * n > 2 ^ 24):=by omega
  have hu:=Z19 he;unfold Instr.buildSlice;by_cases h0:len * n=0
  ·have hl0:len=0:=by rcases Nat.mul_eq_zero.1 h0 with h1 | h1<;>omega
   subst hl0;have e1:((Array.range (0 * n)).map (zv.cells[· % zv.cells.size]!)) = #[]:=by simp
   rw[e1] at g1;have hb0:¬((0:Nat) > 2 ^ 24):=by omega
   have e2:∀z':Array Value,(Array.range 0).map (z'[· % z'.size]!) = #[]:=by simp
   simp only[Sem.run_bind,run_underlying hu,Result.andThen_ok,Z0h hs,hb0,if_false,Sem.run_pure,h0,if_true,e2];rw[g1];simp[newRow,newObj,Sem.run_bind,Sem.run]
  ·simp only[Sem.run_bind,run_underlying hu,Result.andThen_ok,Z0h hs,hb,if_false,Sem.run_pure,h0,hzv]
   rw[g1];simp[newRow,newObj,Sem.run_bind,Sem.run]
 ·simp only[VR,apAt,EN]
  refine ⟨_,_,rfl,Nat.le_refl _,λ_=>rfl,.full,es,true,false,by simp[hlt],by simp[hlen],λ_ => ?_⟩
  simp only[Mu.set_loc,if_true,SlOk];exact ⟨_,rfl,by simp[hlen],λ_=>by simp⟩
theorem ZeM{eq:Value→Value→Option Bool}{k:Value}{v:AV}:∀{kvs kvs':List (Value × AV)}(i:Nat),updateKV kvs eq k v=some kvs'→
  (∃j a,Found k eq kvs i (some (i+j,a))∧j<kvs.length∧kvs'=kvs.set j (k,v)∧∃k',kvs[j]? = some (k',a)∧eq k k'=some true)∨(Found k eq kvs i none∧kvs'=kvs++[(k,v)])
 | [],kvs',i,hk=>by simp[updateKV] at hk;subst hk;exact .inr ⟨.nil i,rfl⟩
 | (k',a)::kvs,kvs',i,hk=>by
  simp only[updateKV] at hk;split at hk
  ·rename_i he;simp at hk;subst hk;exact .inl ⟨0,a,.here he,by simp,rfl,k',rfl,he⟩
  ·rename_i he
   simp only[Option.map_eq_some_iff] at hk;obtain ⟨r,hr,rfl⟩:=hk
   rcases ZeM (i+1) hr with ⟨j,b,h1,h2,rfl,k'',h3,h4⟩ | ⟨h1,rfl⟩
   ·refine .inl ⟨j+1,b,.there he (by rw[show i+(j+1)=i+1+j by omega];exact h1),by simpa using h2,by simp,k'',by simpa using h3,h4⟩
   ·exact .inr ⟨.there he h1,rfl⟩
  ·simp at hk
theorem ZeN(R:Rel μ h w){ty kt et:TypeId}{d:TypeDesc}{m kk x a:AV}{e:Eff}{v v' u:Value}(hu:P.underlying ty=some (.map kt et))(hkt:P.underlying kt=some d)
  (hm:VR μ h m v) (hkk:VR μ h kk v') (hx:VR μ h x u) (hk:mupE P kt m kk x h=some (a,e)) (base:Nat):
  ∃w' μ',(Instr.mapUpdate ty v v' u).run P w = .ok () w'∧Step μ h w μ' (apAt h base e) w'∧a = .u:=by
 unfold mupE at hk;split at hk<;>try (simp at hk;done)
 rename_i id kv hkv;obtain rfl:=VR.toV hkk hkv
 split at hk<;>try (simp at hk;done)
 rename_i kvs ho;split at hk<;>try (simp at hk;done)
 rename_i hok;split at hk<;>try (simp at hk;done)
 rename_i kvs' hupd
 simp only[Option.some.injEq,Prod.mk.injEq] at hk;obtain ⟨rfl,rfl⟩:=hk
 simp only[VR] at hm;obtain ⟨kvs0,blk,ho',hmu,rfl⟩:=hm
 obtain ⟨blk',hmu',es,clock,hh,hl,hcl,hbn,hes⟩:=R.obj _ _ ho;rw[hmu] at hmu';injection hmu' with e1;subst e1;have hE:EntsOk μ h kvs es.toList:=⟨by simpa using hl,λi k a e h1 h2=>hes i k a e h1 (by simpa using h2)⟩
 have hck:=ZaF (w:=w) hok false;have hg:(getObj blk).run P w = .ok (.map es clock) w:=by simp[getObj,Sem.run,hh]
 have hlt:blk<w.heap.size:=(Array.getElem?_eq_some_iff.1 hh).1
 -- the store
 have put:∀(es':Array MapEntry)(c':Nat),(setObj blk (.map es' c')).run P w = .ok () { w with heap:=w.heap.setIfInBounds blk (.map es' c') }:=by
  intro es' c';simp[setObj,Sem.run,hh]
 have step:∀(es':Array MapEntry)(c':Nat),kvs'.length=es'.size→c'=es'.size→(∀(i:Nat)(e:MapEntry),es'[i]? = some e→e.born=i)→(∀(μ1:Mu)(h1:Hp),Evo μ h μ1 h1→∀(i:Nat)(k:Value)(a:AV)(e:MapEntry),kvs'[i]? = some (k,a)→es'[i]? = some e→e.key=k∧VR μ1 h1 a e.val)→
   Step μ h w (μ.set id (μ id)) (h.set id (.map kvs')) { w with heap:=w.heap.setIfInBounds blk (.map es' c') }:=by
  intro es' c' hl' hc' hb' hr'
  refine Step.upd R (loc:=μ id) ho ⟨kvs',rfl,rfl⟩ ?_ (λb x c e => .inr ⟨rfl,x,c,e⟩) rfl ?_
  ·refine ⟨rfl,rfl,rfl,(by unfold DrLe;first | exact Nat.le_refl _ | trivial),by simp,λk hk hn => ?_⟩
   simp only[Array.getElem?_setIfInBounds];rw[if_neg];intro e
   exact hn ⟨rfl,0,0,by rw[← e];exact hmu⟩
  ·intro hE'
   exact ⟨blk,by simp[hmu],es',c',by simp[hlt],hl',hc',hb',hr' _ _ hE'⟩
 rcases ZeM 0 hupd with ⟨j,b,hf,hj,rfl,k',hk',hq⟩ | ⟨hf,rfl⟩
 ·rw[Nat.zero_add] at hf
  obtain ⟨r',h1,-,h3⟩:=Z3e (w:=w) hkt hE hf;obtain ⟨ov,rfl,-⟩:=h3 j b rfl;have hje:j<es.size:=by rw[← hl];exact hj
  have hkey:(es[j]).key=k':=(hes j k' b es[j] hk' (Array.getElem?_eq_getElem hje)).1;have hsb:=(Z3d hq).2 rfl
  have hst:=step (es.modify j λe=>{ e with key:=v',val:=u }) clock (by simp[hl]) (by simpa using hcl) (by
   intro i e g2;rw[Array.getElem?_modify] at g2
   split at g2
   ·rename_i hij
    subst hij;rw[Array.getElem?_eq_getElem hje] at g2
    simp only[Option.map_some,Option.some.injEq] at g2;subst g2
    have:=hbn j es[j] (Array.getElem?_eq_getElem hje)
    exact this
   ·exact hbn _ _ g2) (by
   intro μ1 h1 hE1 i k a e g1 g2;by_cases hij:i=j
   ·subst hij
    rw[List.getElem?_set_self hj] at g1;injection g1 with g1
    injection g1 with g3 g4;subst g3 g4
    rw[Array.getElem?_modify,if_pos rfl,Array.getElem?_eq_getElem hje] at g2;simp only[Option.map_some,Option.some.injEq] at g2;subst g2
    exact ⟨rfl,VR.evo hE1 _ _ hx⟩
   ·rw[List.getElem?_set_ne (Ne.symm hij)] at g1
    simp only[Array.getElem?_modify,Ne.symm hij,if_false] at g2;obtain ⟨p,q⟩:=hes i k a e g1 g2
    exact ⟨p,VR.evo hE1 _ _ q⟩)
  refine ⟨_,_, ?_,hst,rfl⟩
  have hkts:(Instr.keyThatStays (((es[j]?).map (·.key)).getD v') v').run P w = .ok v' w:=by
   simp[Instr.keyThatStays,Array.getElem?_eq_getElem hje,hkey,hsb]
  simp[Instr.mapUpdate,Sem.run_bind,run_underlying hu,hg,hck,h1,hkts,put]
 ·obtain ⟨r',h1,h2,-⟩:=Z3e (w:=w) hkt hE hf
  obtain rfl:=h2 rfl
  have hst:=step (es.push { key:=v',val:=u,born:=clock }) (clock+1) (by simp[hl]) (by simp[hcl]) (by
   intro i e g2;rw[Array.getElem?_push] at g2
   split at g2
   ·rename_i hi
    simp only[Option.some.injEq] at g2;subst g2
    simp[hcl,hi]
   ·exact hbn _ _ g2) (by
   intro μ1 h1 hE1 i k a e g1 g2;rcases Nat.lt_or_ge i kvs.length with hi | hi
   ·rw[List.getElem?_append_left hi] at g1
    rw[Array.getElem?_push,if_neg (by omega)] at g2
    obtain ⟨p,q⟩:=hes i k a e g1 g2;exact ⟨p,VR.evo hE1 _ _ q⟩
   ·rw[List.getElem?_append_right hi] at g1
    have hi0:i-kvs.length=0:=by
     rcases Nat.eq_zero_or_pos (i-kvs.length) with h0 | h0
     ·exact h0
     ·rw[List.getElem?_eq_none (by simp;omega)] at g1;simp at g1
    rw[hi0] at g1;simp at g1
    obtain ⟨rfl,rfl⟩:=g1;have:i=es.size:=by omega
    subst this;simp at g2
    subst g2;exact ⟨rfl,VR.evo hE1 _ _ hx⟩)
  refine ⟨_,_, ?_,hst,rfl⟩;simp[Instr.mapUpdate,Sem.run_bind,run_underlying hu,hg,hck,h1,put]
theorem ZeO{eq:Value→Value→Option Bool}{k:Value}:∀{kvs:List (Value × AV)}{j:Nat}{b:AV}(i:Nat),findKV kvs eq k=some (some (j,b))→
  Found k eq kvs i (some (i+j,b))∧j<kvs.length∧∃k',kvs[j]? = some (k',b)∧eq k k'=some true
 | [],j,b,i,hk=>by simp[findKV] at hk
 | (k',a)::kvs,j,b,i,hk=>by
  simp only[findKV] at hk;split at hk
  ·rename_i he;simp at hk;obtain ⟨rfl,rfl⟩:=hk;exact ⟨.here he,by simp,k',rfl,he⟩
  ·rename_i he
   simp only[Option.map_eq_some_iff] at hk;obtain ⟨r,hr,hk⟩:=hk
   cases r with
   | none=>simp at hk
   | some p=>
    obtain ⟨j',b'⟩:=p;simp at hk;obtain ⟨rfl,rfl⟩:=hk;obtain ⟨h1,h2,k'',h3,h4⟩:=ZeO (i+1) hr;exact ⟨.there he (by rw[show i+(j'+1)=i+1+j' by omega];exact h1),by simpa using h2,k'',by simpa using h3,h4⟩
  ·simp at hk
theorem ZeP{eq:Value→Value→Option Bool}{k:Value}:∀{kvs:List (Value × AV)}(i:Nat),findKV kvs eq k=some none→Found k eq kvs i none
 | [],i,hk => .nil i
 | (k',a)::kvs,i,hk=>by
  simp only[findKV] at hk;split at hk
  ·simp at hk
  ·rename_i he
   simp only[Option.map_eq_some_iff] at hk;obtain ⟨r,hr,hk⟩:=hk
   cases r with
   | none=>exact .there he (ZeP (i+1) hr)
   | some p=>simp at hk
  ·simp at hk
theorem ZaI(R:Rel μ h w){id blk:Nat}{kvs kvs':List (Value × AV)}{es es':Array MapEntry}{clock c':Nat}(ho:h[id]? = some (.map kvs))(hmu:μ id = .real blk 0 0)(hh:w.heap[blk]? = some (.map es clock))
  (hl':kvs'.length=es'.size) (hc':c'=es'.size) (hb':∀(i:Nat)(e:MapEntry),es'[i]? = some e→e.born=i) (hr':∀(μ1:Mu)(h1:Hp),Evo μ h μ1 h1→∀(i:Nat)(k:Value)(a:AV)(e:MapEntry),kvs'[i]? = some (k,a)→es'[i]? = some e→e.key=k∧VR μ1 h1 a e.val):
  (setObj blk (.map es' c')).run P w = .ok () { w with heap:=w.heap.setIfInBounds blk (.map es' c') }∧Step μ h w (μ.set id (μ id)) (h.set id (.map kvs')) { w with heap:=w.heap.setIfInBounds blk (.map es' c') }:=by
 have hlt:blk<w.heap.size:=(Array.getElem?_eq_some_iff.1 hh).1;refine ⟨by simp[setObj,Sem.run,hh], ?_⟩
 refine Step.upd R (loc:=μ id) ho ⟨kvs',rfl,rfl⟩ ?_ (λb x c e => .inr ⟨rfl,x,c,e⟩) rfl ?_
 ·refine ⟨rfl,rfl,rfl,(by unfold DrLe;first | exact Nat.le_refl _ | trivial),by simp,λk hk hn => ?_⟩
  simp only[Array.getElem?_setIfInBounds];rw[if_neg];intro e
  exact hn ⟨rfl,0,0,by rw[← e];exact hmu⟩
 ·intro hE'
  exact ⟨blk,by simp[hmu],es',c',by simp[hlt],hl',hc',hb',hr' _ _ hE'⟩
theorem ZmZ(R:Rel μ h w){ty kt et:TypeId}{d:TypeDesc}{z m kk a:AV}{e:Eff}{v v':Value}(hu:P.underlying ty=some (.map kt et))(hkt:P.underlying kt=some d)(hz:zeroAV P et=some z)
  (hm:VR μ h m v) (hkk:VR μ h kk v') (hk:mentE P kt z m kk h=some (a,e)) (base:Nat):
  ∃w' u μ',(Instr.mapEntry ty v v').run P w = .ok u w'∧Step μ h w μ' (apAt h base e) w'∧VR μ' (apAt h base e) a u:=by
 unfold mentE at hk;split at hk<;>try (simp at hk;done)
 rename_i id kv hkv;obtain rfl:=VR.toV hkk hkv
 split at hk<;>try (simp at hk;done)
 rename_i kvs ho;split at hk<;>try (simp at hk;done)
 rename_i hok;simp only[VR] at hm
 obtain ⟨kvs0,blk,ho',hmu,rfl⟩:=hm;obtain ⟨blk',hmu',es,clock,hh,hl,hcl,hbn,hes⟩:=R.obj _ _ ho;rw[hmu] at hmu';injection hmu' with e1;subst e1;have hE:EntsOk μ h kvs es.toList:=⟨by simpa using hl,λi k a e h1 h2=>hes i k a e h1 (by simpa using h2)⟩
 have hck:=ZaF (w:=w) hok false;have hg:(getObj blk).run P w = .ok (.map es clock) w:=by simp[getObj,Sem.run,hh]
 split at hk<;>try (simp at hk;done)
 ·rename_i j b hfd
  split at hk<;>try (simp at hk;done)
  simp only[Option.some.injEq,Prod.mk.injEq] at hk;obtain ⟨rfl,rfl⟩:=hk
  obtain ⟨hf,hj,k',hk',hq⟩:=ZeO 0 hfd;rw[Nat.zero_add] at hf;obtain ⟨r',h1,-,h3⟩:=Z3e (w:=w) hkt hE hf;obtain ⟨ov,rfl,hov⟩:=h3 j b rfl;have hje:j<es.size:=by rw[← hl];exact hj
  have hkey:(es[j]).key=k':=(hes j k' b es[j] hk' (Array.getElem?_eq_getElem hje)).1;have hsb:=(Z3d hq).2 rfl;have hbj:es[j].born=j:=hbn j es[j] (Array.getElem?_eq_getElem hje)
  obtain ⟨put,hst⟩:=ZaI (P:=P) (kvs':=kvs.set j (v',b)) (es':=es.modify j λe=>{ e with key:=v' }) (c':=clock) R ho hmu hh (by simp[hl]) (by simpa using hcl) (by
   intro i e g2;rw[Array.getElem?_modify] at g2
   split at g2
   ·rename_i hij
    subst hij;rw[Array.getElem?_eq_getElem hje] at g2
    simp only[Option.map_some,Option.some.injEq] at g2;subst g2
    exact hbj
   ·exact hbn _ _ g2) (by
   intro μ1 h1 hE1 i k a e g1 g2;by_cases hij:i=j
   ·subst hij
    rw[List.getElem?_set_self hj] at g1;injection g1 with g1
    injection g1 with g3 g4;subst g3 g4
    rw[Array.getElem?_modify,if_pos rfl,Array.getElem?_eq_getElem hje] at g2;simp only[Option.map_some,Option.some.injEq] at g2;subst g2
    exact ⟨rfl,VR.evo hE1 _ _ (hes i k' b es[i] hk' (Array.getElem?_eq_getElem hje)).2⟩
   ·rw[List.getElem?_set_ne (Ne.symm hij)] at g1
    simp only[Array.getElem?_modify,Ne.symm hij,if_false] at g2;obtain ⟨p,q⟩:=hes i k a e g1 g2
    exact ⟨p,VR.evo hE1 _ _ q⟩)
  have hkts:(Instr.keyThatStays es[j].key v').run P w = .ok v' w:=by
   simp[Instr.keyThatStays,hkey,hsb]
  refine ⟨_,.tuple #[ov,goInt j],_, ?_,hst, ?_⟩
  ·simp[Instr.mapEntry,Sem.run_bind,run_underlying hu,hg,hck,h1,hkts,put,Array.getElem?_eq_getElem hje,hbj]
  ·have:=VR.evo hst.evo _ _ hov
   simp only[VR,VRs,apAt];exact ⟨#[ov,goInt j],rfl,ov,[goInt j],rfl,this,goInt j,[],rfl,⟨rfl,rfl⟩,rfl⟩
 ·rename_i hfd
  split at hk<;>try (simp at hk;done)
  simp only[Option.some.injEq,Prod.mk.injEq] at hk;obtain ⟨rfl,rfl⟩:=hk
  have hf:=ZeP 0 hfd;obtain ⟨r',h1,h2,-⟩:=Z3e (w:=w) hkt hE hf;obtain rfl:=h2 rfl;obtain ⟨zv,hzv,hzr⟩:=Z3c (μ:=μ) (h:=h) (w:=w) hz
  obtain ⟨put,hst⟩:=ZaI (P:=P) (kvs':=kvs++[(v',z)]) (es':=es.push { key:=v',val:=zv,born:=clock }) (c':=clock+1) R ho hmu hh (by simp[hl]) (by simp[hcl]) (by
   intro i e g2;rw[Array.getElem?_push] at g2
   split at g2
   ·rename_i hi
    simp only[Option.some.injEq] at g2;subst g2
    simp[hcl,hi]
   ·exact hbn _ _ g2) (by
   intro μ1 h1 hE1 i k a e g1 g2;rcases Nat.lt_or_ge i kvs.length with hi | hi
   ·rw[List.getElem?_append_left hi] at g1
    rw[Array.getElem?_push,if_neg (by omega)] at g2
    obtain ⟨p,q⟩:=hes i k a e g1 g2;exact ⟨p,VR.evo hE1 _ _ q⟩
   ·rw[List.getElem?_append_right hi] at g1
    have hi0:i-kvs.length=0:=by
     rcases Nat.eq_zero_or_pos (i-kvs.length) with h0 | h0
     ·exact h0
     ·rw[List.getElem?_eq_none (by simp;omega)] at g1;simp at g1
    rw[hi0] at g1;simp at g1
    obtain ⟨rfl,rfl⟩:=g1;have:i=es.size:=by omega
    subst this;simp at g2
    subst g2;exact ⟨rfl,VR.evo hE1 _ _ hzr⟩)
  refine ⟨_,.tuple #[zv,goInt clock],_, ?_,hst, ?_⟩
  ·simp[Instr.mapEntry,Sem.run_bind,run_underlying hu,hg,hck,h1,hzv,put]
  ·have:=VR.evo hst.evo _ _ hzr
   simp only[VR,VRs,apAt];exact ⟨#[zv,goInt clock],rfl,zv,[goInt clock],rfl,this,goInt clock,[],rfl,⟨rfl,by rw[hcl, ← hl];rfl⟩,rfl⟩
theorem Zn0(R:Rel μ h w){ty:TypeId}{m st x a:AV}{e:Eff}{v v' u:Value}(hm:VR μ h m v)(hs:VR μ h st v')(hx:VR μ h x u)(hk:estE m st x h=some (a,e))(base:Nat):
  ∃w' μ',(Instr.entryStore ty v v' u).run P w = .ok () w'∧Step μ h w μ' (apAt h base e) w'∧a = .u:=by
 unfold estE at hk;split at hk<;>try (simp at hk;done)
 rename_i id kd n;split at hk<;>try (simp at hk;done)
 rename_i kvs ho;split at hk<;>try (simp at hk;done)
 rename_i hn;split at hk<;>try (simp at hk;done)
 rename_i k b hkb;simp only[Option.some.injEq,Prod.mk.injEq] at hk
 obtain ⟨rfl,rfl⟩:=hk;simp only[VR] at hm hs;obtain ⟨-,rfl⟩:=hs;obtain ⟨kvs0,blk,ho',hmu,rfl⟩:=hm;obtain ⟨blk',hmu',es,clock,hh,hl,hcl,hbn,hes⟩:=R.obj _ _ ho;rw[hmu] at hmu';injection hmu' with e1;subst e1;have hg:(getObj blk).run P w = .ok (.map es clock) w:=by simp[getObj,Sem.run,hh]
 have hj:n.toNat<kvs.length:=(List.getElem?_eq_some_iff.1 hkb).1;have hje:n.toNat<es.size:=by rw[← hl];exact hj
 have hfi:es.findIdx? (λe=>(e.born:Int)==n)=some n.toNat:=by
  rw[Array.findIdx?_eq_some_iff_getElem];refine ⟨hje, ?_,λi hi => ?_⟩
  ·rw[hbn _ _ (Array.getElem?_eq_getElem hje)];simp;omega
  ·rw[hbn i es[i] (Array.getElem?_eq_getElem (by omega))];simp;omega
 obtain ⟨put,hst⟩:=ZaI (P:=P) (kvs':=kvs.set n.toNat (k,x)) (es':=es.modify n.toNat λe=>{ e with val:=u }) (c':=clock) R ho hmu hh (by simp[hl]) (by simpa using hcl) (by
  intro i e g2;rw[Array.getElem?_modify] at g2
  split at g2
  ·rename_i hij
   subst hij;rw[Array.getElem?_eq_getElem hje] at g2
   simp only[Option.map_some,Option.some.injEq] at g2;subst g2
   exact hbn _ es[n.toNat] (Array.getElem?_eq_getElem hje)
  ·exact hbn _ _ g2) (by
  intro μ1 h1 hE1 i k2 a e g1 g2;by_cases hij:i=n.toNat
  ·subst hij
   rw[List.getElem?_set_self hj] at g1;injection g1 with g1
   injection g1 with g3 g4;subst g3 g4
   rw[Array.getElem?_modify,if_pos rfl,Array.getElem?_eq_getElem hje] at g2;simp only[Option.map_some,Option.some.injEq] at g2;subst g2
   exact ⟨(hes _ k b es[n.toNat] hkb (Array.getElem?_eq_getElem hje)).1,VR.evo hE1 _ _ hx⟩
  ·rw[List.getElem?_set_ne (Ne.symm hij)] at g1
   simp only[Array.getElem?_modify,Ne.symm hij,if_false] at g2;obtain ⟨p,q⟩:=hes i k2 a e g1 g2
   exact ⟨p,VR.evo hE1 _ _ q⟩)
 refine ⟨_,_, ?_,hst,rfl⟩;have hai:(Go.asInt (.int kd n)).run P w = .ok n w:=rfl;simp[Instr.entryStore,Sem.run_bind,hg,hai,hfi,put]
theorem Zn1(R:Rel μ h w){ty kt et:TypeId}{m a:AV}{e:Eff}{v:Value}{base:Nat}(hu:P.underlying ty=some (.map kt et))(hm:VR μ h m v)(hk:rngE m h base=some (a,e))(hd:h[base]? = some .dead):
  ∃w' u μ',(Instr.range ty v).run P w = .ok u w'∧Step μ h w μ' (apAt h base e) w'∧VR μ' (apAt h base e) a u:=by
 unfold rngE at hk;split at hk<;>try (simp at hk;done)
 rename_i id;split at hk<;>try (simp at hk;done)
 rename_i kvs ho;simp only[Option.some.injEq,Prod.mk.injEq] at hk
 obtain ⟨rfl,rfl⟩:=hk;simp only[VR] at hm;obtain ⟨kvs0,blk,ho',hmu,rfl⟩:=hm;obtain ⟨blk',hmu',es,clock,hh,hl,hcl,hbn,hes⟩:=R.obj _ _ ho;rw[hmu] at hmu';injection hmu' with e1;subst e1;have hlt:base<h.length:=(List.getElem?_eq_some_iff.1 hd).1;have hne:id≠base:=λe=>by rw[e,hd] at ho;cases ho
 have hg:(getObj blk).run P w = .ok (.map es clock) w:=by simp[getObj,Sem.run,hh]
 have hst:Step μ h w (μ.set base (.real w.heap.size 0 0)) (h.set base (.iter id kvs.length [])) (w.alloc (.mapIter (some blk) kvs.length #[] kvs.length)):=by
  refine Step.upd R (loc := .real w.heap.size 0 0) hd trivial (Frame.alloc _ _ _) ?_ rfl ?_
  ·intro b x c e;injection e with e1 e2 e3;subst e1;exact .inl (Nat.le_refl _)
  ·intro hE
   exact ⟨w.heap.size,blk,by simp,by simp[hne,hmu],⟨kvs,by rw[List.getElem?_set_ne (Ne.symm hne)];exact ho⟩,heap_alloc_new w _⟩
 refine ⟨_,.pointer (some ⟨w.heap.size,0,none⟩),_, ?_,hst, ?_⟩
 ·simp[Instr.range,Sem.run_bind,run_underlying hu,hg,newObj,Sem.run,hcl, ← hl]
 ·simp only[VR]
  refine ⟨w.heap.size,id,kvs.length,[], ?_,by simp,rfl⟩
  show (h.set base (.iter id kvs.length []))[base]? = _;simp[hlt]
end Go.AM


namespace Go.AM
open Go.RowKit
variable {P:Program} {μ μ':Mu} {h h':Hp} {w w':World}
structure Reads(P:Program)(μ:Mu)(h:Hp)(w:World)(v:Value)(sz:Nat)(news:List (List AV)):Prop where
 val:∃A c,v = .slice A news.length c∧(news≠[]→∃a vs,A=some a∧VRs μ h news.flatten vs∧vs.length=news.length * sz∧(∀u ∈ vs,u.oneCell'=true)∧∀j u,vs[j]? = some u→w.cell? (a.add j)=some u)
 sized:Sized sz news
theorem Z6L(R:Rel μ h w){id sz:Nat}{es:List (List AV)}{own nil:Bool}{blk o cap:Nat}(ho:h[id]? = some (.arr sz es own nil))(hm:μ id = .real blk o cap)(off:Nat):
  ∀len,off+len≤es.length→∃vs,VRs μ h ((es.drop off).take len).flatten vs∧vs.length=len * sz∧(∀u ∈ vs,u.oneCell'=true)∧∀j u,vs[j]? = some u→w.cell? ⟨blk,o+off * sz+j,none⟩=some u:=by
 intro len;induction len with
 | zero=>intro _;exact ⟨[],by simp[VRs],by simp,by simp,by simp⟩
 | succ len ih=>
  intro hle;obtain ⟨vs,h1,h2,h3,h4⟩:=ih (by omega)
  have hlt:off+len<es.length:=by omega
  have hel:=List.getElem?_eq_getElem hlt;have hsz:=(Zey R ho hel).1;obtain ⟨us,g1,g2,g3,g4⟩:=Zez R ho hel hm 0 sz (by omega)
  simp only[List.drop_zero] at g2;rw[List.take_of_length_le (by omega)] at g2
  refine ⟨vs++us, ?_, ?_, ?_, ?_⟩
  ·have:(es.drop off).take (len+1)=(es.drop off).take len++[es[off+len]]:=by
    rw[List.take_add_one,List.getElem?_drop,hel];rfl
   rw[this,List.flatten_append];exact VRs.append h1 (by simpa using g2)
  ·rw[List.length_append,h2,g1,Nat.add_mul];omega
  ·intro u hu
   rcases List.mem_append.1 hu with hu | hu
   ·exact h3 u hu
   ·exact g3 u hu
  ·intro j u hu
   rcases Nat.lt_or_ge j vs.length with hj | hj
   ·rw[List.getElem?_append_left hj] at hu;exact h4 j u hu
   ·rw[List.getElem?_append_right hj] at hu
    have:=g4 _ u hu
    rw[← this];congr 2
    rw[h2] at hj ⊢
    rw[Nat.add_mul]
    omega
theorem ZaJ(R:Rel μ h w){x:AV}{v:Value}{news:List (List AV)}{n:Nat}(hx:VR μ h x v)(hk:readSl h x=some news)(hn:news.all (λe=>e.length==n)=true):Reads P μ h w v n news:=by
 unfold readSl at hk;split at hk<;>try (simp at hk;done)
 ·simp only[Option.some.injEq] at hk
  subst hk;simp only[VR] at hx
  obtain ⟨-,rfl⟩:=hx;exact ⟨⟨none,0,rfl,λh=>absurd rfl h⟩,λe he=>by simp at he⟩
 ·rename_i sz nl es
  simp only[Option.some.injEq] at hk;subst hk
  simp only[VR] at hx;obtain ⟨A,c,rfl,hlc,-,-,-,hsz,hq⟩:=hx
  have hS:Sized n es:=λe he=>⟨by simpa using List.all_eq_true.1 hn e he,(hsz e he).2⟩
  refine ⟨⟨A,c,rfl,λhne => ?_⟩,hS⟩
  obtain ⟨blk,o,vs,rfl,him,hf,hcell⟩:=hq (List.length_pos_iff.2 hne);have hfl:=hf.flat.lift h;have hl:vs.length=es.length * n:=by rw[← hfl.length];exact Z0X hS
  exact ⟨_,vs,rfl,hfl,hl,λu hu=>by
   obtain ⟨j,hj⟩:=List.getElem?_of_mem hu;exact (hcell j u hj).2,λj u hu=>by rw[Addr.add_mid];exact (Z2u (R.imm _ him).2.1 _).trans (hcell j u hu).1⟩
 ·rename_i sz id off len fr full
  split at hk<;>try (simp at hk;done)
  rename_i sz' es own nil ho
  split at hk<;>try (simp at hk;done)
  rename_i hc;obtain ⟨hfr,rfl,hle⟩:=hc
  simp only[Option.some.injEq] at hk;subst hk
  simp only[VR] at hx;obtain ⟨A,c,rfl,hlc,hA,-,es',own',nil',ho',-,hq⟩:=hx
  rw[ho] at ho';injection ho' with ho'
  injection ho' with e1 e2 e3 e4
  subst e2 e3 e4;have hlen:((es.drop off).take len).length=len:=by simp;omega
  have hS:Sized n ((es.drop off).take len):=by
   intro e he;refine ⟨by simpa using List.all_eq_true.1 hn e he,λc hc => ?_⟩
   exact ((R.obj _ _ ho).1 e (List.mem_of_mem_drop (List.mem_of_mem_take he))).2 c hc
  refine ⟨⟨A,c,by rw[hlen],λhne => ?_⟩,hS⟩
  have hpos:0<len:=by
   rcases Nat.eq_zero_or_pos len with h0 | h0
   ·subst h0;simp at hne
   ·exact h0
  have hsl:=hq hfr.symm;have hO:=(R.obj _ _ ho).2;unfold SlOk at hsl;split at hsl
  ·rename_i blk o cap hmu
   obtain ⟨a,rfl,hcap,hne'⟩:=hsl;have:=hne' (by omega)
   subst this;obtain ⟨vs,g1,g2,g3,g4⟩:=Z6L R ho hmu off len hle
   -- the elements' size is the object's
   have hszn:sz'=n:=by
    have hmem:es[off]'(by omega) ∈ (es.drop off).take len:=by
     have:((es.drop off).take len)[0]? = some (es[off]'(by omega)):=by
      rw[List.getElem?_take,if_pos hpos,List.getElem?_drop,Nat.add_zero];exact List.getElem?_eq_getElem _
     exact List.mem_of_getElem? this
    have h1:=(hS _ hmem).1;have h2:=(Zey R ho (List.getElem?_eq_getElem (show off<es.length by omega))).1
    omega
   subst hszn;exact ⟨_,vs,rfl,g1,by rw[hlen];exact g2,g3,λj u hu=>by rw[Addr.add_mid];exact g4 j u hu⟩
  ·rename_i A' hmu
   rw[hmu] at hO;obtain ⟨rfl,_⟩:=hO
   simp at hle
   omega
theorem Z6M{t ty e:TypeId}{n:Nat}(ht:P.underlying t=some (.slice e))(hs:szOf P e=some n)(b:Option Addr)(sLen sCap:Nat)(A:Option Addr)(c:Nat)(hle:sLen≤sCap)(w:World):
  (Builtin.append_ #[t,t] ty #[.slice b sLen sCap,.slice A 0 c]).run P w = .ok (.slice b sLen sCap) w:=by
 have hf:∀w,(Builtin.firstCells n 0 (.slice A 0 c)).run P w = .ok #[] w:=by
  intro w;cases A with
  | none=>rfl
  | some a=>simp[Builtin.firstCells,loadCells,loadCellsFrom,Sem.run]
 cases b with
 | none=>simp[Builtin.append_,run_underlying ht,Z0h hs,Sem.run_bind,Builtin.lenOf,hle,hf]
 | some b=>simp[Builtin.append_,run_underlying ht,Z0h hs,Sem.run_bind,Builtin.lenOf,hle,hf,storeCells]
theorem ZeQ{sz:Nat}{es:List (List AV)}(hs:Sized sz es):es.flatten.all okC=true:=by
 rw[List.all_eq_true];intro c hc
 obtain ⟨l,h1,h2⟩:=List.mem_flatten.1 hc;exact (hs l h1).2 c h2
theorem Sized.append{n:Nat}{a b:List (List AV)}(h1:Sized n a)(h2:Sized n b):Sized n (a++b):=λe he=>(List.mem_append.1 he).elim (h1 e) (h2 e)
theorem Z49{α:Type}{l:List α}{i:Nat}{x:α}(hx:l[i]? = some x):l.set i x=l:=by
 obtain ⟨hi,e⟩:=List.getElem?_eq_some_iff.1 hx;subst e;exact List.set_getElem_self hi
theorem ORel.grown{id sz need old:Nat}{all:List (List AV)}{vs:List Value}{z:Array Value}{T:TypeId}{wb:World}(hs:Sized sz all)(hl:all.length=need)(hv:VRs μ h all.flatten vs)(hz:z.size=sz)
  (hone:∀v ∈ vs,v.oneCell'=true) (hm63:need≤maxLen) (hm:μ id = .real wb.heap.size 0 (grownCap w need old T)):
  ORel μ h (wb.alloc (.cells (vs.toArray++Builtin.zeroCells z (grownCap w need old T-need)) T)) id (.arr sz all true false):=by
 have hge:=grownCap_ge w need old T;have hfl:=Z0X hs;have hvl:vs.length=need * sz:=by rw[← hv.length,hfl,hl]
 have htk:(vs.toArray++Builtin.zeroCells z (grownCap w need old T-need)).toList.take (all.length * sz)=vs:=by
  rw[hl, ← hvl];simp
 refine ORel.own_arr (cur:=_) (T:=T) hm hs (by omega) (grownCap_le_maxLen w need old T hm63) (heap_alloc_new wb _) ?_ ?_ ?_
 ·simp only[Array.size_append,List.size_toArray,size_zeroCells,hz,hvl, ← Nat.add_mul]
  congr 1
  omega
 ·rw[htk];exact hone
 ·rw[htk];exact hv
theorem ZeR{e n b:Nat}(hs:szOf P e=some n)(hb:bytesOf P e=some b){z:AV}(hz:zeroAV P e=some z):∃i zv,P.info? e=some i∧i.size=n∧i.bytes=b∧i.zero=some zv∧ofV1 zv=some z:=by
 obtain ⟨i,hi,h1⟩:=Zew hs;unfold bytesOf at hb;replace hz:=Zes hz;rw[hi] at hb hz;obtain ⟨zv,h2,h3⟩:=Option.bind_eq_some_iff.1 hz;exact ⟨i,zv,hi,h1,by simpa using hb,by simpa using h2,h3⟩
theorem ZeS(μ:Mu){zv:Value}{z:AV}(hz:ofV1 zv=some z)(ok:(cellsOf z).all okC=true):zv.cells.size=(cellsOf z).length:=by
 have h1:VR μ [] z zv:=VR.ofV1 hz;have:=(VR.cells h1 ok).length;simpa using this.symm
theorem Zn2(R:Rel μ h w){id n off len fr c0:Nat}{es news:List (List AV)}{nil full:Bool}{A0:Option Addr}{vs:List Value}{s:Option Addr→Sem Value}{ad:Addr}(ho:h[id]? = some (.arr (n+1) es true nil))(hO:ORel μ h w id (.arr (n+1) es true nil))(hsl:SlOk (μ id) (n+1) off len A0 c0)
  (hS:Sized (n+1) news) (hvs:VRs μ h news.flatten vs) (hvl:vs.length=news.length * (n+1)) (hone:∀v ∈ vs,v.oneCell'=true) (hat:∀j u,vs[j]? = some u→w.cell? (ad.add j)=some u) (hml:0<news.length) (hin:off+len+news.length≤es.length)
  (hlc:len≤c0) (hA0:0<c0→A0.isSome=true) (hfull:SlCap full off len fr c0) (hroom:len+news.length≤c0) (hf:full=false) (hfr:es.length=fr)
  (hrun:∀(blk:Nat)(cur:Array Value)(T:TypeId)(row:Array Value),w.heap[blk]? = some (.cells cur T (0,0))→(storeCells ⟨blk,(off+len) * (n+1),none⟩ vs).run P w = .ok () (w.setRow blk row)→∀a':Addr,a'.add (len * (n+1))=⟨blk,(off+len) * (n+1),none⟩→(s (some a')).run P w = .ok (.slice (some a') (len+news.length) c0) (w.setRow blk row)):
  ∃w' u μ',(s A0).run P w = .ok u w'∧Step μ h w μ' (h.set id (.arr (n+1) (es.take (off+len)++news++es.drop (off+len+news.length)) true nil)) w' ∧
   VR μ' (h.set id (.arr (n+1) (es.take (off+len)++news++es.drop (off+len+news.length)) true nil)) (.sl (n+1) id off (len+news.length) fr false) u:=by
 have hlt:id<h.length:=(List.getElem?_eq_some_iff.1 ho).1;unfold SlOk at hsl;split at hsl
 ·rename_i blk o cap hmu
  obtain ⟨a',rfl,hcap,hne⟩:=hsl;obtain ⟨cur,T,hbk,hcur,rfl,hlec,hcapm,h1,hr⟩:=ORel.own_flat hO hmu;have ha':a'=⟨blk,off * (n+1),none⟩:=by have:=hne (by omega);simpa using this
  subst ha'
  have hnil:nil=false:=by have:=hO.2;rw[hmu] at this;exact this.1
  subst hnil;have m1:(off+len) * (n+1)+news.length * (n+1)≤es.length * (n+1):=by rw[← Nat.add_mul];exact Nat.mul_le_mul_right _ hin
  have m2:es.length * (n+1)≤cap * (n+1):=Nat.mul_le_mul_right _ hlec;have hfit:(off+len) * (n+1)+vs.length≤cur.size:=by rw[hvl,hcur];omega
  have hsto:=run_storeCells_at P blk ((off+len) * (n+1)) T vs 0 cur w hbk (by simpa using hfit) hone
  simp only[Nat.add_zero] at hsto;obtain ⟨row,hrow⟩:∃row:Array Value,row=(cur.toList.take ((off+len) * (n+1))++vs++cur.toList.drop ((off+len) * (n+1)+vs.length)).toArray:=⟨_,rfl⟩
  rw[← hrow] at hsto;have hrowsz:row.size=cur.size:=by rw[hrow];simp;omega
  have hset:(w.setRow blk row).heap[blk]? = some (.cells row T (0,0)):=setRow_heap w blk cur row T (0,0) hbk;have hnl:(es.take (off+len)++news++es.drop (off+len+news.length)).length=es.length:=by simp;omega
  have hSall:Sized (n+1) (es.take (off+len)++news++es.drop (off+len+news.length)):=by
   intro e he;rcases List.mem_append.1 he with he | he
   ·rcases List.mem_append.1 he with he | he
    ·exact hO.1 e (List.mem_of_mem_take he)
    ·exact hS e he
   ·exact hO.1 e (List.mem_of_mem_drop he)
  refine ⟨w.setRow blk row,.slice (some ⟨blk,off * (n+1),none⟩) (len+news.length) c0,(μ.set id (μ id)), ?_, ?_, ?_⟩
  ·refine hrun blk cur T row hbk hsto _ ?_
   rw[Addr.add_mid];congr 1
   rw[Nat.add_mul]
  ·refine Step.upd R (loc:=μ id) ho ⟨_,false,rfl,by rw[hnl];exact Nat.le_refl _,λ_=>rfl⟩ ?_ ?_ rfl ?_
   ·exact ⟨rfl,rfl,rfl,(by unfold DrLe;first | exact Nat.le_refl _ | trivial),by simp,λk _ hk=>setRow_other w blk k _ (λe=>hk ⟨rfl,0,cap,by rw[e];exact hmu⟩)⟩
   ·intro b x c e
    exact .inr ⟨rfl,x,c,e⟩
   ·intro hE
    have hfl:=Z0X hO.1
    have tk:∀k,k≤es.length→(es.take k).flatten=es.flatten.take (k * (n+1)):=by
     intro k hk;have q1:Sized (n+1) (es.take k):=λe he=>hO.1 e (List.mem_of_mem_take he)
     have q2:=Z0X q1;have q3:(es.take k).length=k:=by simp;omega
     rw[q3] at q2;have q4:es.flatten=(es.take k).flatten++(es.drop k).flatten:=by rw[← List.flatten_append,List.take_append_drop]
     rw[q4, ← q2,List.take_left]
    have dr:∀k,k≤es.length→(es.drop k).flatten=es.flatten.drop (k * (n+1)):=by
     intro k hk;have q1:Sized (n+1) (es.take k):=λe he=>hO.1 e (List.mem_of_mem_take he)
     have q2:=Z0X q1;have q3:(es.take k).length=k:=by simp;omega
     rw[q3] at q2;have q4:es.flatten=(es.take k).flatten++(es.drop k).flatten:=by rw[← List.flatten_append,List.take_append_drop]
     rw[q4, ← q2,List.drop_left]
    have hflat:(es.take (off+len)++news++es.drop (off+len+news.length)).flatten=es.flatten.take ((off+len) * (n+1))++news.flatten++es.flatten.drop ((off+len) * (n+1)+news.length * (n+1)):=by
     rw[List.flatten_append,List.flatten_append,tk _ (by omega),dr _ (by omega), ← Nat.add_mul]
    have hrt:row.toList.take (es.length * (n+1))=cur.toList.take ((off+len) * (n+1))++vs++(cur.toList.take (es.length * (n+1))).drop ((off+len) * (n+1)+news.length * (n+1)):=by
     have hq1:(cur.toList.take ((off+len) * (n+1))).length=(off+len) * (n+1):=by rw[List.length_take,Array.length_toList];omega
     rw[hrow];simp only[hvl];rw[List.append_assoc,List.take_append,hq1,List.take_of_length_le (by rw[hq1];omega),List.append_assoc]
     congr 1
     rw[List.take_append,hvl,List.take_of_length_le (by rw[hvl];omega)]
     congr 1
     rw[List.drop_take];congr 1
     omega
    refine ORel.own_arr (cur:=row) (T:=T) (cap:=cap) (blk:=blk) (by simp[hmu]) hSall (by rw[hnl];exact hlec) hcapm hset (by rw[hrowsz];exact hcur) ?_ ?_
    ·rw[hnl,hrt]
     intro u hu;rcases List.mem_append.1 hu with hu | hu
     ·rcases List.mem_append.1 hu with hu | hu
      ·refine h1 u ?_
       have:cur.toList.take ((off+len) * (n+1))=(cur.toList.take (es.length * (n+1))).take ((off+len) * (n+1)):=by rw[List.take_take,Nat.min_eq_left (by omega)]
       rw[this] at hu;exact List.mem_of_mem_take hu
      ·exact hone u hu
     ·exact h1 u (List.mem_of_mem_drop hu)
    ·rw[hnl,hrt,hflat]
     have r1:=VRs.take ((off+len) * (n+1)) hr;rw[List.take_take,Nat.min_eq_left (by omega)] at r1
     exact VRs.evo hE _ _ (VRs.append (VRs.append r1 hvs) (VRs.drop _ hr))
  ·simp only[VR]
   refine ⟨_,_,rfl,hroom,λ_=>rfl,.room (by have:=hfull.2 hf;omega),_,true,false,by simp[hlt];rfl,by have:=hnl;simp at this ⊢;omega,λ_ => ?_⟩
   simp only[Mu.set_loc,if_true,hmu,SlOk];exact ⟨_,rfl,hcap,λ_=>by rw[Nat.zero_add]⟩
 ·rename_i A' hmu
  obtain ⟨rfl,hc0,-⟩:=hsl
  omega
theorem Zn3(R:Rel μ h w){base n b:Nat}{s x a:AV}{e:Eff}{v v':Value}{t xt ty el:TypeId}{z:AV}(ht:P.underlying t=some (.slice el))(hxt:P.underlying xt=some (.int .i64))(hs:szOf P el=some (n+1))(hb:bytesOf P el=some b)
  (hz:zeroAV P el=some z) (hzn:(cellsOf z).length=n+1) (hzo:(cellsOf z).all okC=true) (hbp:0<b)
  (hv:VR μ h s v) (hx:VR μ h x v') (hk:mkE (n+1) b (cellsOf z) s x base=some (a,e)) (hd:h[base]? = some .dead):
  ∃w' u μ',(Builtin.append_ #[t,xt] ty #[v,v']).run P w = .ok u w'∧Step μ h w μ' (apAt h base e) w'∧VR μ' (apAt h base e) a u:=by
 obtain ⟨i,zv,hi,hsz,hby,hzv,hzof⟩:=ZeR hs hb hz;have hzs:zv.cells.size=n+1:=by rw[ZeS μ hzof hzo,hzn]
 unfold mkE at hk;split at hk<;>try (simp at hk;done)
 rename_i kk m;split at hk<;>try (simp at hk;done)
 rename_i hc;obtain ⟨hm0,hmb⟩:=hc
 simp only[Option.some.injEq,Prod.mk.injEq] at hk;obtain ⟨rfl,rfl⟩:=hk
 simp only[VR] at hv hx;obtain ⟨-,rfl⟩:=hv
 obtain ⟨-,rfl⟩:=hx;obtain ⟨m,rfl⟩:=Int.eq_ofNat_of_zero_le (Int.le_of_lt hm0);have hm1:0<m:=by omega
 have hmb':m * b≤140737488355328:=by rw[← Int.natCast_mul] at hmb;omega
 have hml:m≤maxLen:=by
  have:m * 1≤m * b:=Nat.mul_le_mul_left _ hbp
  unfold maxLen
  omega
 have hlt:base<h.length:=(List.getElem?_eq_some_iff.1 hd).1;have hr:=Lib.run_append_nil_zeros (P:=P) w t xt ty el i zv kk .i64 ht hxt hi hzv m hm1 (by omega) (by unfold maxLen at hml;omega) (by rw[hby];omega)
 simp only[Int.toNat_natCast];have hzc:=VR.cells (VR.ofV1 (μ:=μ) (h:=h) hzof) hzo
 have hzc':VRs μ h (cellsOf z) zv.cells.toList:=hzc;have hrep:=ZaH hzc' hzn (Nat.succ_pos n) m;have hS:Sized (n+1) (List.replicate m (cellsOf z)):=by intro y hy;rw[List.eq_of_mem_replicate hy];exact ⟨hzn,λc hc=>List.all_eq_true.1 hzo c hc⟩
 have hzz:Builtin.zeroCells zv.cells m=((Array.range (m * (n+1))).map (zv.cells[· % zv.cells.size]!)):=by unfold Builtin.zeroCells;rw[hzs]
 have hst:Step μ h w (μ.set base (.real w.heap.size 0 (grownCap w m 0 el))) (h.set base (.arr (n+1) (List.replicate m (cellsOf z)) true false)) (w.drew.alloc (.cells (Builtin.zeroCells zv.cells m++Builtin.zeroCells zv.cells (grownCap w m 0 el-m)) el)):=by
  refine (Step.drew R).trans (Step.upd (Step.drew R).rel (loc := .real w.heap.size 0 (grownCap w m 0 el)) hd trivial (Frame.alloc _ _ _) ?_ rfl ?_)
  ·intro b x c e;injection e with e1 e2 e3;subst e1;exact .inl (Nat.le_refl _)
  ·intro hE
   have:=ORel.grown (μ:=μ.set base (.real w.heap.size 0 (grownCap w m 0 el))) (h:=h.set base (.arr (n+1) (List.replicate m (cellsOf z)) true false)) (w:=w) (id:=base) (need:=m) (old:=0) (T:=el) (z:=zv.cells) (wb:=w.drew) (vs:=(Builtin.zeroCells zv.cells m).toList) hS (by simp) (by rw[hzz];exact VRs.evo hE _ _ hrep) hzs
    (by rw[hzz];exact VRs.one hrep (ZeQ hS)) hml (by simp)
   simpa using this
 refine ⟨_,_,_,hr,hst, ?_⟩;simp only[VR,apAt,EN];refine ⟨_,_,rfl,grownCap_ge _ _ _ _,λ_=>rfl,.room (by have:=grownCap_ge w m 0 el;omega),_,true,false,by simp[hlt];rfl,by simp,λ_ => ?_⟩
 simp only[Mu.set_loc,if_true,SlOk];exact ⟨_,rfl,by omega,λ_=>by simp⟩
theorem Zn4(R : Rel μ h w){base n b : Nat}{s x a : AV}{e : Eff}{v v' : Value}{t ty el : TypeId}{z : AV}(ht : P.underlying t = some (.slice el))(hs : szOf P el = some (n + 1))(hb : bytesOf P el = some b)
    (hz : zeroAV P el = some z) (hzn : (cellsOf z).length = n + 1) (hzo : (cellsOf z).all okC = true) (hbig : ∀ m, m * b ≤ 140737488355328 → m ≤ maxLen)
    (hv : VR μ h s v) (hx : VR μ h x v') (hk : appE (n + 1) b s x h base = some (a, e)) (hd : e.news ≠ [] → h[base]? = some .dead) :
    ∃ w' u μ', (Builtin.append_ #[t, t] ty #[v, v']).run P w = .ok u w' ∧ Step μ h w μ' (apAt h base e) w' ∧ VR μ' (apAt h base e) a u := by
  obtain ⟨i, zv, hi, hsz, hby, hzv, hzof⟩ := ZeR hs hb hz;have hzs : zv.cells.size = n + 1 := by rw[ZeS μ hzof hzo, hzn]
  unfold appE at hk;split at hk <;> try (simp at hk; done)
  rename_i news hnews;split at hk <;> try (simp at hk; done)
  · -- appended to nil
    simp only[VR] at hv;obtain ⟨-, rfl⟩ := hv
    split at hk
    · rename_i h0
      simp only[Option.some.injEq, Prod.mk.injEq] at hk;obtain ⟨rfl, rfl⟩ := hk
      have hn0 : news = [] := List.eq_nil_of_length_eq_zero h0;subst hn0;obtain ⟨⟨A, c, rfl,-⟩,-⟩ := ZaJ (P := P) (n := 0) R hx hnews (by simp)
      exact ⟨w, _, μ, Z6M ht hs none 0 0 A c (Nat.le_refl _) w, Step.refl R, by simp[VR, gv]⟩
    · rename_i h0
      split at hk <;> try (simp at hk; done)
      rename_i hc;simp only[Option.some.injEq, Prod.mk.injEq] at hk
      obtain ⟨rfl, rfl⟩ := hk;obtain ⟨⟨A, c, rfl, hcell⟩, hS⟩ := ZaJ (P := P) R hx hnews hc.2;obtain ⟨ad, vs, rfl, hvs, hvl, hone, hat⟩ := hcell (by rintro rfl; simp at h0)
      have hd' := hd (by simp)
      have hlt : base < h.length := (List.getElem?_eq_some_iff.1 hd').1;have h63 := hbig _ hc.1;have hr := run_append_nil (P := P) w t ty el i zv ht hi hzv ad news.length c vs (by rw[hvl, hsz]) hat (by omega) (by unfold maxLen at h63; omega) (by rw[hby]; omega)
      have hst : Step μ h w (μ.set base (.real w.heap.size 0 (grownCap w news.length 0 el))) (h.set base (.arr (n + 1) news true false)) (w.drew.alloc (.cells (vs.toArray ++ Builtin.zeroCells zv.cells (grownCap w news.length 0 el - news.length)) el)) := by
        refine (Step.drew R).trans (Step.upd (Step.drew R).rel (loc := .real w.heap.size 0 (grownCap w news.length 0 el)) hd' trivial (Frame.alloc _ _ _) ?_ rfl ?_)
        · intro b x c e; injection e with e1 e2 e3; subst e1; exact .inl (Nat.le_refl _)
        · intro hE
          exact ORel.grown (w := w) (wb := w.drew) hS rfl (VRs.evo hE _ _ hvs) hzs hone h63 (by simp)
      refine ⟨_, _, _, hr, hst, ?_⟩;simp only[VR, apAt];refine ⟨_, _, rfl, grownCap_ge _ _ _ _, λ_ => rfl,.room (by have := grownCap_ge w news.length 0 el; omega), news, true, false, by simp[hlt], Nat.le_refl _, λ_ => ?_⟩
      simp only[Mu.set_loc, if_true, SlOk];exact ⟨_, rfl, by omega, λ_ => by simp⟩
  · rename_i szx id off len fr full
    split at hk <;> try (simp at hk; done)
    rename_i sz es own nil ho;split at hk <;> try (simp at hk; done)
    rename_i hc;obtain ⟨hfr, rfl, hbytes, hall⟩ := hc
    obtain ⟨⟨A, c, rfl, hcell⟩, hS⟩ := ZaJ (P := P) R hx hnews hall;have h63 := hbig _ hbytes;simp only[VR] at hv;obtain ⟨A0, c0, rfl, hlc, hA0, hfull, es', own', nil', ho',-, hq⟩ := hv;rw[ho] at ho';injection ho' with ho';injection ho' with e1 e2 e3 e4;subst e1 e2 e3 e4;have hsl := hq hfr.symm;have hO := R.obj _ _ ho;split at hk
    · -- full: a new array
      rename_i hcf;obtain ⟨hf, hin, hor⟩ := hcf
      simp only[Option.some.injEq, Prod.mk.injEq] at hk;obtain ⟨rfl, rfl⟩ := hk
      have hc0 : len = c0 := (hfull.1 hf).symm;subst hc0;have hd' := hd (by simp)
      have hlt : base < h.length := (List.getElem?_eq_some_iff.1 hd').1;have hSo : Sized (n + 1) ((es.drop off).take len) := λe he => hO.1 e (List.mem_of_mem_drop (List.mem_of_mem_take he))
      have hSall := hSo.append hS;have hol : ((es.drop off).take len).length = len := by simp; omega
      by_cases hm0 : news = []
      · -- nothing appended to an empty slice
        subst hm0
        have hl0 : len = 0 := by rcases hor with h1 | h1; · exact h1
                                 · simp at h1
        subst hl0;refine ⟨w, _, (μ.set base (.virt A0)), Z6M ht hs A0 0 0 A c (Nat.le_refl _) w, ?_, ?_⟩
        · refine Step.upd R (loc := .virt A0) hd' trivial (Frame.refl _ _) (λb x c e => by cases e) rfl ?_
          intro hE;refine ⟨by simp, ?_⟩
          simp only[Mu.set_loc, if_true];refine ⟨by simp, ?_, trivial⟩
          have h2 := hO.2;unfold SlOk at hsl;split at hsl
          · rename_i blk o cap hmu; rw[hmu] at h2; obtain ⟨a', rfl, _⟩ := hsl; simp[h2.1]
          · rename_i A' hmu; rw[hmu] at h2; obtain ⟨rfl, _⟩ := hsl; simp[h2.2.1]
        · simp only[VR, apAt]
          refine ⟨_, _, rfl, Nat.le_refl _, λh => by simp at h,.room (by simp), [], true, (nil && 0 + ([] : List (List AV)).length == 0), ?_, by simp, λ_ => ?_⟩
          · simp[hlt]
          · simp[SlOk]
      · obtain ⟨ad, vs, rfl, hvs, hvl, hone, hat⟩ := hcell hm0
        have hml : 0 < news.length := List.length_pos_iff.2 hm0
        -- the elder elements
        have hold : ∃ olds, VRs μ h ((es.drop off).take len).flatten olds ∧ olds.length = len * (n + 1) ∧ (∀ u ∈ olds, u.oneCell' = true) ∧ (∀ b0, A0 = some b0 → ∀ j u, olds[j]? = some u → w.cell? (b0.add j) = some u) ∧ (A0 = none → len = 0) := by
          by_cases hl0 : len = 0
          · subst hl0; exact ⟨[], by simp[VRs], by simp, by simp, by simp, λ_ => rfl⟩
          · unfold SlOk at hsl
            split at hsl
            · rename_i blk o cap hmu
              obtain ⟨a', rfl, hcap, hne⟩ := hsl;obtain ⟨olds, g1, g2, g3, g4⟩ := Z6L R ho hmu off len (by omega)
              refine ⟨olds, g1, g2, g3, ?_, λh => by simp at h⟩
              intro b0 hb0 j u hu;injection hb0 with hb0
              subst hb0;rw[hne hl0, Addr.add_mid]
              exact g4 j u hu
            · exact absurd hsl.2.1 hl0
        obtain ⟨olds, ho1, ho2, ho3, ho4, ho5⟩ := hold;have hvall := VRs.append ho1 hvs;rw[← List.flatten_append] at hvall;have honeall : ∀ u ∈ olds ++ vs, u.oneCell' = true := λu hu => (List.mem_append.1 hu).elim (ho3 u) (hone u)
        have hrun : (Builtin.append_ #[t, t] ty #[.slice A0 len len,.slice (some ad) news.length c]).run P w =
            .ok (.slice (some ⟨w.heap.size, 0, none⟩) (len + news.length) (grownCap w (len + news.length) len el)) (w.drew.alloc (.cells ((olds ++ vs).toArray ++ Builtin.zeroCells zv.cells (grownCap w (len + news.length) len el - (len + news.length))) el)) := by
          cases A0 with
          | none =>
            have hl0 := ho5 rfl;subst hl0;have : olds = [] := List.eq_nil_of_length_eq_zero (by simpa using ho2)
            subst this;have hr := run_append_nil (P := P) w t ty el i zv ht hi hzv ad news.length c vs (by rw[hvl, hsz]) hat hml (by unfold maxLen at h63; omega) (by rw[hby]; rw[Nat.zero_add] at hbytes; omega)
            simpa using hr
          | some b0 =>
            have hr := run_append_grow (P := P) w t ty el i zv ht hi hzv b0 len len olds (by rw[ho2, hsz]) (ho4 b0 rfl) ad news.length c vs (by rw[hvl, hsz]) hat (by omega) (by unfold maxLen at h63; omega)
              (by rw[hby]; exact growslice_fits (by omega) hbytes)
            rw[hr]
            simp
        have hst : Step μ h w (μ.set base (.real w.heap.size 0 (grownCap w (len + news.length) len el))) (h.set base (.arr (n + 1) ((es.drop off).take len ++ news) true false)) (w.drew.alloc (.cells ((olds ++ vs).toArray ++ Builtin.zeroCells zv.cells (grownCap w (len + news.length) len el - (len + news.length))) el)) := by
          refine (Step.drew R).trans (Step.upd (Step.drew R).rel (loc := .real w.heap.size 0 (grownCap w (len + news.length) len el)) hd' trivial (Frame.alloc _ _ _) ?_ rfl ?_)
          · intro b x c e; injection e with e1 e2 e3; subst e1; exact .inl (Nat.le_refl _)
          · intro hE
            exact ORel.grown (w := w) (wb := w.drew) hSall (by simp[hol]) (VRs.evo hE _ _ hvall) hzs honeall h63 (by simp)
        have hnil : (nil && len + news.length == 0) = false := by
          have : (len + news.length == 0) = false := by simp[hm0]
          rw[this, Bool.and_false]
        rw[hnil];refine ⟨_, _, _, hrun, hst, ?_⟩
        simp only[VR, apAt];refine ⟨_, _, rfl, grownCap_ge _ _ _ _, λ_ => rfl,.room (by have := grownCap_ge w (len + news.length) len el; omega), _, true, false, by simp[hlt]; rfl, by simp[hol], λ_ => ?_⟩
        simp only[Mu.set_loc, if_true, SlOk];exact ⟨_, rfl, by omega, λ_ => by simp⟩
    · -- in place, or moved
      split at hk
      case isFalse =>
        split at hk <;> try (simp at hk; done)
        rename_i hco;obtain ⟨rfl, hf, hin⟩ := hco
        simp only[Option.some.injEq, Prod.mk.injEq] at hk;obtain ⟨rfl, rfl⟩ := hk
        by_cases hm0 : news = []
        · subst hm0
          have hee : h.set id (.arr (n + 1) (es.take (off + len) ++ [] ++ es.drop (off + len + ([] : List (List AV)).length)) true nil) = h := by
            simp
            exact Z49 ho
          refine ⟨w, _, μ, Z6M ht hs A0 len c0 A c hlc w, ?_, ?_⟩
          · simp only[apAt, List.zipIdx_nil, List.foldl_nil, List.foldl_cons]
            rw[hee]; exact Step.refl R
          · simp only[apAt, List.zipIdx_nil, List.foldl_nil, List.foldl_cons]
            rw[hee];simp only[VR, List.length_nil, Nat.add_zero];exact ⟨A0, c0, rfl, hlc, hA0, by rw[hf] at hfull; exact hfull, es, true, nil, ho, by omega, λ_ => hsl⟩
        obtain ⟨ad, vs, rfl, hvs, hvl, hone, hat⟩ := hcell hm0;have hml : 0 < news.length := List.length_pos_iff.2 hm0;have hroom : len + news.length ≤ c0 := by have := hfull.2 hf; omega
        have hlt : id < h.length := (List.getElem?_eq_some_iff.1 ho).1;simp only[apAt, List.zipIdx_nil, List.foldl_nil, List.foldl_cons]
        exact Zn2 (s := λA => Builtin.append_ #[t, t] ty #[.slice A len c0,.slice (some ad) news.length c]) R ho hO hsl hS hvs hvl hone hat hml (by omega) hlc hA0 hfull hroom hf hfr (by
          intro blk cur T row hbk hsto;have hfr' := run_firstCells_some (P := P) w (n + 1) news.length ad news.length c vs hvl hat
          intro a' ha'
          simp[Builtin.append_, run_underlying ht, Z0h hs, Sem.run_bind, Builtin.lenOf, hroom, hfr', ha', hsto])
      rename_i hco;obtain ⟨rfl, rfl, hlf⟩ := hco
      simp only[Option.some.injEq, Prod.mk.injEq] at hk;obtain ⟨rfl, rfl⟩ := hk
      have hlt : id < h.length := (List.getElem?_eq_some_iff.1 ho).1;have hle : len = es.length := by omega
      have hSall := hO.1;have hSall' : Sized (n + 1) (es ++ news) := Sized.append hO.1 hS;by_cases hm0 : news = []
      · subst hm0
        have hee : h.set id (.arr (n + 1) (es ++ []) true (nil && ([] : List (List AV)).length == 0)) = h := by
          simp
          exact Z49 ho
        refine ⟨w, _, μ, Z6M ht hs A0 len c0 A c hlc w, ?_, ?_⟩
        · simp only[apAt, List.zipIdx_nil, List.foldl_nil, List.foldl_cons]
          rw[hee]; exact Step.refl R
        · simp only[apAt, List.zipIdx_nil, List.foldl_nil, List.foldl_cons]
          rw[hee];simp only[VR, List.length_nil, Nat.add_zero];exact ⟨A0, c0, rfl, hlc, hA0,.room (by omega), es, true, nil, ho, by omega, λ_ => hsl⟩
      · obtain ⟨ad, vs, rfl, hvs, hvl, hone, hat⟩ := hcell hm0
        have hml : 0 < news.length := List.length_pos_iff.2 hm0
        have hnil : (nil && news.length == 0) = false := by
          have : (news.length == 0) = false := by simp[hm0]
          rw[this, Bool.and_false]
        rw[hnil]
        -- grown into a new block
        have grow : c0 < len + news.length → ∀ olds : List Value, VRs μ h es.flatten olds → (∀ u ∈ olds, u.oneCell' = true) → olds.length = len * (n + 1) → (∀ b0, A0 = some b0 → ∀ j u, olds[j]? = some u → w.cell? (b0.add j) = some u) → (A0 = none → len = 0 ∧ c0 = 0) →
            ∃ w' u μ', (Builtin.append_ #[t, t] ty #[.slice A0 len c0,.slice (some ad) news.length c]).run P w = .ok u w' ∧ Step μ h w μ' (h.set id (.arr (n + 1) (es ++ news) true false)) w' ∧
              VR μ' (h.set id (.arr (n + 1) (es ++ news) true false)) (.sl (n + 1) id 0 (len + news.length) (fr + news.length) false) u := by
          intro hgt olds ho1 ho3 ho2 ho4 ho5;have hvall := VRs.append ho1 hvs
          rw[← List.flatten_append] at hvall;have honeall : ∀ u ∈ olds ++ vs, u.oneCell' = true := λu hu => (List.mem_append.1 hu).elim (ho3 u) (hone u)
          have hrun : (Builtin.append_ #[t, t] ty #[.slice A0 len c0,.slice (some ad) news.length c]).run P w =
              .ok (.slice (some ⟨w.heap.size, 0, none⟩) (len + news.length) (grownCap w (len + news.length) c0 el)) (w.drew.alloc (.cells ((olds ++ vs).toArray ++ Builtin.zeroCells zv.cells (grownCap w (len + news.length) c0 el - (len + news.length))) el)) := by
            cases A0 with
            | none =>
              obtain ⟨hl0, hc0⟩ := ho5 rfl;have ho0 : olds = [] := List.eq_nil_of_length_eq_zero (by rw[ho2, hl0]; simp)
              subst ho0;rw[hl0, hc0]
              have hr := run_append_nil (P := P) w t ty el i zv ht hi hzv ad news.length c vs (by rw[hvl, hsz]) hat hml (by unfold maxLen at h63; omega) (by rw[hby]; rw[hl0] at hbytes; simp at hbytes; omega)
              simpa using hr
            | some b0 =>
              have hr := run_append_grow (P := P) w t ty el i zv ht hi hzv b0 len c0 olds (by rw[ho2, hsz]) (ho4 b0 rfl) ad news.length c vs (by rw[hvl, hsz]) hat hgt (by unfold maxLen at h63; omega)
                (by rw[hby]; exact growslice_fits hgt hbytes)
              rw[hr]
              simp
          have hst : Step μ h w (μ.set id (.real w.heap.size 0 (grownCap w (len + news.length) c0 el))) (h.set id (.arr (n + 1) (es ++ news) true false)) (w.drew.alloc (.cells ((olds ++ vs).toArray ++ Builtin.zeroCells zv.cells (grownCap w (len + news.length) c0 el - (len + news.length))) el)) := by
            refine (Step.drew R).trans (Step.upd (Step.drew R).rel (loc := .real w.heap.size 0 (grownCap w (len + news.length) c0 el)) ho ⟨es ++ news, false, rfl, by simp, λh => ?_⟩ (Frame.alloc _ _ _) ?_ rfl ?_)
            · simp at h; exact absurd h hm0
            · intro b x c e; injection e with e1 e2 e3; subst e1; exact .inl (Nat.le_refl _)
            · intro hE
              exact ORel.grown (w := w) (wb := w.drew) hSall' (by simp; omega) (VRs.evo hE _ _ hvall) hzs honeall h63 (by simp)
          refine ⟨_, _, _, hrun, hst, ?_⟩;simp only[VR];refine ⟨_, _, rfl, grownCap_ge _ _ _ _, λ_ => rfl,.room (by have := grownCap_ge w (len + news.length) c0 el; omega), _, true, false, by simp[hlt]; rfl, by simp; omega, λ_ => ?_⟩
          simp only[Mu.set_loc, if_true, SlOk];exact ⟨_, rfl, by omega, λ_ => by simp⟩
        simp only[apAt, List.zipIdx_nil, List.foldl_nil, List.foldl_cons];unfold SlOk at hsl
        split at hsl
        · rename_i blk o cap hmu
          obtain ⟨a', rfl, hcap, hne⟩ := hsl;obtain ⟨cur, T, hbk, hcur, rfl, hlec, hcapm, h1, hr⟩ := ORel.own_flat hO hmu;have haddr : 0 < c0 → a' = ⟨blk, 0, none⟩ := λh => by have := hne (by omega); simpa using this
          by_cases hroom : len + news.length ≤ c0
          · -- in place
            have := haddr (by omega)
            subst this;have hlcap : (len + news.length) * (n + 1) ≤ cap * (n + 1) := Nat.mul_le_mul_right _ (by omega)
            have hfit : len * (n + 1) + vs.length ≤ cur.size := by rw[hvl, hcur, ← Nat.add_mul]; exact hlcap
            have hfr' := run_firstCells_some (P := P) w (n + 1) news.length ad news.length c vs hvl hat;have hsto := run_storeCells_at P blk (len * (n + 1)) T vs 0 cur w hbk (by simpa using hfit) hone
            simp only[Nat.add_zero] at hsto;obtain ⟨row, hrow⟩ : ∃ row : Array Value, row = (cur.toList.take (len * (n + 1)) ++ vs ++ cur.toList.drop (len * (n + 1) + vs.length)).toArray := ⟨_, rfl⟩
            rw[← hrow] at hsto;have hrowsz : row.size = cur.size := by rw[hrow]; simp; omega
            have hset : (w.setRow blk row).heap[blk]? = some (.cells row T (0, 0)) := setRow_heap w blk cur row T (0, 0) hbk;refine ⟨w.setRow blk row,.slice (some ⟨blk, 0, none⟩) (len + news.length) c0, (μ.set id (μ id)), ?_, ?_, ?_⟩
            · simp[Builtin.append_, run_underlying ht, Z0h hs, Sem.run_bind, Builtin.lenOf, hroom, hfr', Addr.add_lit, hsto]
            · refine Step.upd R (loc := μ id) ho ⟨es ++ news, false, rfl, by simp, λ_ => rfl⟩ ?_ ?_ rfl ?_
              · exact ⟨rfl, rfl, rfl, (by unfold DrLe; first | exact Nat.le_refl _ | trivial), by simp, λk _ hk => setRow_other w blk k _ (λe => hk ⟨rfl, 0, cap, by rw[e]; exact hmu⟩)⟩
              · intro b x c e
                exact .inr ⟨rfl, x, c, e⟩
              · intro hE
                have htk : row.toList.take ((es ++ news).length * (n + 1)) = cur.toList.take (es.length * (n + 1)) ++ vs := by
                  have hq1 : (cur.toList.take (len * (n + 1))).length = len * (n + 1) := by rw[List.length_take, Array.length_toList]; omega
                  rw[hrow];simp only[List.length_append, Nat.add_mul];have e5 : es.length * (n + 1) + news.length * (n + 1) = (cur.toList.take (len * (n + 1)) ++ vs).length := by rw[List.length_append, hq1, hvl, hle]
                  rw[e5, List.take_left, hle]
                refine ORel.own_arr (cur := row) (T := T) (cap := cap) (blk := blk) (by simp[hmu]) hSall' (by simp; omega) hcapm hset (by rw[hrowsz]; exact hcur) ?_ ?_
                · rw[htk]
                  intro u hu;rcases List.mem_append.1 hu with hu | hu
                  · exact h1 u hu
                  · exact hone u hu
                · rw[htk, List.flatten_append]
                  exact VRs.evo hE _ _ (VRs.append hr hvs)
            · simp only[VR]
              refine ⟨_, _, rfl, hroom, λ_ => rfl,.room (by omega), _, true, false, by simp[hlt]; rfl, by simp; omega, λ_ => ?_⟩
              simp only[Mu.set_loc, if_true, hmu, SlOk];exact ⟨_, rfl, by omega, λ_ => by simp⟩
          · refine grow (by omega) (cur.toList.take (es.length * (n + 1))) hr h1 ?_ ?_ (λh => by simp at h)
            · rw[← hr.length, Z0X hO.1, hle]
            · intro b0 hb0 j u hu
              injection hb0 with hb0;subst hb0
              by_cases hl0 : len = 0
              · have : es.length = 0 := by omega
                rw[this] at hu;simp at hu
              · have := haddr (by omega)
                subst this;rw[Addr.add_mid, Nat.zero_add, cell_of_row w blk _ cur T (0, 0) hbk]
                rw[List.getElem?_take] at hu;split at hu
                · simpa using hu
                · simp at hu
        · rename_i A' hmu
          obtain ⟨rfl, hc0,-⟩ := hsl;have h2 := hO.2;rw[hmu] at h2;obtain ⟨rfl, hnl,-⟩ := h2;have hl0 : len = 0 := by simpa using hle
          exact grow (by omega) [] (by simp[VRs]) (by simp) (by simp[hl0]) (by simp) (λ_ => ⟨hl0, hc0⟩)
end Go.AM


namespace Go.AM
open Go.RowKit
variable {P:Program} {μ μ':Mu} {h h':Hp} {w w':World}
theorem Zn5{n k:Nat}{es:List (List AV)}(hs:Sized n es)(hk:k≤es.length):(es.take k).flatten=es.flatten.take (k * n):=by
 have q1:Sized n (es.take k):=λe he=>hs e (List.mem_of_mem_take he)
 have q2:=Z0X q1;have q3:(es.take k).length=k:=by simp;omega
 rw[q3] at q2;have q4:es.flatten=(es.take k).flatten++(es.drop k).flatten:=by rw[← List.flatten_append,List.take_append_drop]
 rw[q4, ← q2,List.take_left]
theorem Zn6{n k:Nat}{es:List (List AV)}(hs:Sized n es)(hk:k≤es.length):(es.drop k).flatten=es.flatten.drop (k * n):=by
 have q1:Sized n (es.take k):=λe he=>hs e (List.mem_of_mem_take he)
 have q2:=Z0X q1;have q3:(es.take k).length=k:=by simp;omega
 rw[q3] at q2;have q4:es.flatten=(es.take k).flatten++(es.drop k).flatten:=by rw[← List.flatten_append,List.take_append_drop]
 rw[q4, ← q2,List.drop_left]
theorem Zn7(R:Rel μ h w){id sz off:Nat}{es news:List (List AV)}{nil:Bool}{blk o cap:Nat}{vs:List Value}(ho:h[id]? = some (.arr sz es true nil))(hmu:μ id = .real blk o cap)
  (hS:Sized sz news) (hvs:VRs μ h news.flatten vs) (hone:∀v ∈ vs,v.oneCell'=true) (hin:off+news.length≤es.length):
  ∃(cur:Array Value)(T:TypeId)(row:Array Value),w.heap[blk]? = some (.cells cur T (0,0))∧row=(cur.toList.take (off * sz)++vs++cur.toList.drop (off * sz+vs.length)).toArray∧(storeCells ⟨blk,off * sz,none⟩ vs).run P w = .ok () (w.setRow blk row) ∧
   Step μ h w (μ.set id (μ id)) (h.set id (.arr sz (es.take off++news++es.drop (off+news.length)) true nil)) (w.setRow blk row):=by
 have hO:=R.obj _ _ ho;obtain ⟨cur,T,hbk,hcur,rfl,hlec,hcapm,h1,hr⟩:=ORel.own_flat hO hmu;have hnil:nil=false:=by have:=hO.2;rw[hmu] at this;exact this.1
 subst hnil;have hvl:vs.length=news.length * sz:=by rw[← hvs.length,Z0X hS]
 have m1:off * sz+news.length * sz≤es.length * sz:=by rw[← Nat.add_mul];exact Nat.mul_le_mul_right _ hin
 have m2:es.length * sz≤cap * sz:=Nat.mul_le_mul_right _ hlec;have hfit:off * sz+vs.length≤cur.size:=by rw[hvl,hcur];omega
 have hsto:=run_storeCells_at P blk (off * sz) T vs 0 cur w hbk (by simpa using hfit) hone
 simp only[Nat.add_zero] at hsto;obtain ⟨row,hrow⟩:∃row:Array Value,row=(cur.toList.take (off * sz)++vs++cur.toList.drop (off * sz+vs.length)).toArray:=⟨_,rfl⟩
 rw[← hrow] at hsto;have hrowsz:row.size=cur.size:=by rw[hrow];simp;omega
 have hset:(w.setRow blk row).heap[blk]? = some (.cells row T (0,0)):=setRow_heap w blk cur row T (0,0) hbk;have hnl:(es.take off++news++es.drop (off+news.length)).length=es.length:=by simp;omega
 have hSall:Sized sz (es.take off++news++es.drop (off+news.length)):=by
  intro e he;rcases List.mem_append.1 he with he | he
  ·rcases List.mem_append.1 he with he | he
   ·exact hO.1 e (List.mem_of_mem_take he)
   ·exact hS e he
  ·exact hO.1 e (List.mem_of_mem_drop he)
 refine ⟨cur,T,row,hbk,hrow,hsto, ?_⟩;refine Step.upd R (loc:=μ id) ho ⟨_,false,rfl,by rw[hnl];exact Nat.le_refl _,λ_=>rfl⟩ ?_ ?_ rfl ?_
 ·exact ⟨rfl,rfl,rfl,(by unfold DrLe;first | exact Nat.le_refl _ | trivial),by simp,λk _ hk=>setRow_other w blk k _ (λe=>hk ⟨rfl,0,cap,by rw[e];exact hmu⟩)⟩
 ·intro b x c e
  exact .inr ⟨rfl,x,c,e⟩
 ·intro hE
  have hfl:=Z0X hO.1
  have hflat:(es.take off++news++es.drop (off+news.length)).flatten=es.flatten.take (off * sz)++news.flatten++es.flatten.drop (off * sz+news.length * sz):=by
   rw[List.flatten_append,List.flatten_append,Zn5 hO.1 (by omega),Zn6 hO.1 (by omega), ← Nat.add_mul]
  have hrt:row.toList.take (es.length * sz)=cur.toList.take (off * sz)++vs++(cur.toList.take (es.length * sz)).drop (off * sz+news.length * sz):=by
   have hq1:(cur.toList.take (off * sz)).length=off * sz:=by rw[List.length_take,Array.length_toList];omega
   rw[hrow];simp only[hvl];rw[List.append_assoc,List.take_append,hq1,List.take_of_length_le (by rw[hq1];omega),List.append_assoc]
   congr 1
   rw[List.take_append,hvl,List.take_of_length_le (by rw[hvl];omega)]
   congr 1
   rw[List.drop_take];congr 1
   omega
  refine ORel.own_arr (cur:=row) (T:=T) (cap:=cap) (blk:=blk) (by simp[hmu]) hSall (by rw[hnl];exact hlec) hcapm hset (by rw[hrowsz];exact hcur) ?_ ?_
  ·rw[hnl,hrt]
   intro u hu;rcases List.mem_append.1 hu with hu | hu
   ·rcases List.mem_append.1 hu with hu | hu
    ·refine h1 u ?_
     have:cur.toList.take (off * sz)=(cur.toList.take (es.length * sz)).take (off * sz):=by rw[List.take_take,Nat.min_eq_left (by omega)]
     rw[this] at hu;exact List.mem_of_mem_take hu
    ·exact hone u hu
   ·exact h1 u (List.mem_of_mem_drop hu)
  ·rw[hnl,hrt,hflat]
   have r1:=VRs.take (off * sz) hr;rw[List.take_take,Nat.min_eq_left (by omega)] at r1
   exact VRs.evo hE _ _ (VRs.append (VRs.append r1 hvs) (VRs.drop _ hr))
theorem Zn8(R:Rel μ h w){n:Nat}{x a:AV}{e:Eff}{v:Value}{t ty el:TypeId}{z:AV}(ht:P.underlying t=some (.slice el))(hz:zeroAV P el=some z)(hzl:(cellsOf z).length=n)(hzo:(cellsOf z).all okC=true)(hn:0<n)
  (hx:VR μ h x v) (hk:clrE n (cellsOf z) x h=some (a,e)) (base:Nat):
  ∃w' u μ',(Builtin.clear_ #[t] ty #[v]).run P w = .ok u w'∧Step μ h w μ' (apAt h base e) w'∧VR μ' (apAt h base e) a u:=by
 unfold clrE at hk;split at hk<;>try (simp at hk;done)
 ·simp only[Option.some.injEq,Prod.mk.injEq] at hk
  obtain ⟨rfl,rfl⟩:=hk;simp only[VR] at hx;obtain ⟨-,rfl⟩:=hx;refine ⟨w,.tuple #[],μ, ?_,Step.refl R,by simp[VR,VRs]⟩
  simp[Builtin.clear_,run_underlying ht]
 ·rename_i sz id off len fr full
  split at hk<;>try (simp at hk;done)
  rename_i sz' es own nil ho
  split at hk<;>try (simp at hk;done)
  rename_i hc;obtain ⟨hfr,rfl,rfl,rfl,hle⟩:=hc
  simp only[Option.some.injEq,Prod.mk.injEq] at hk;obtain ⟨rfl,rfl⟩:=hk
  simp only[VR] at hx;obtain ⟨A,c,rfl,hlc,hA,-,es2,own',nil',ho',-,hq⟩:=hx
  rw[ho] at ho';injection ho' with ho'
  injection ho' with e1 e2 e3 e4
  subst e2 e3 e4;have hsl:=hq hfr.symm
  by_cases h0:len=0
  ·subst h0
   have e0:apAt h base ⟨[(id,.arr sz' (es.take off++List.replicate 0 (cellsOf z)++es.drop (off+0)) true nil)],[],[id]⟩=h:=by
    simp only[apAt,List.replicate_zero,List.append_nil,Nat.add_zero,List.take_append_drop,List.foldl,List.zipIdx_nil];exact Z49 ho
   rw[e0];refine ⟨w,.tuple #[],μ, ?_,Step.refl R,by simp[VR,VRs]⟩
   cases A<;>simp[Builtin.clear_,run_underlying ht]
  ·unfold SlOk at hsl
   split at hsl
   ·rename_i blk o cap hmu
    obtain ⟨a',rfl,hcap,hne⟩:=hsl;have ha':=hne (by omega)
    have hO:=R.obj _ _ ho;obtain ⟨cur,T,hbk,hcur,rfl,hlec,hcapm,h1,hr⟩:=ORel.own_flat hO hmu;obtain ⟨zv,hzv,hzr⟩:=Z3c (μ:=μ) (h:=h) (w:=w) hz;have hzc:=VR.cells hzr hzo;have hrep:=ZaH hzc hzl hn len
    have hS:Sized sz' (List.replicate len (cellsOf z)):=by
     intro y hy;rw[List.eq_of_mem_replicate hy];exact ⟨hzl,λc hc=>List.all_eq_true.1 hzo c hc⟩
    have hone:∀v ∈ ((Array.range (len * sz')).map (zv.cells[· % zv.cells.size]!)).toList,v.oneCell'=true:=VRs.one hrep (ZeQ hS)
    obtain ⟨cur',T',row,q1,q2,q3,q4⟩:=Zn7 (P:=P) (off:=off) R ho hmu hS hrep hone (by simpa using hle)
    rw[List.length_replicate] at q4;refine ⟨_,.tuple #[],_, ?_,q4,by simp[VR,VRs]⟩
    have hzs:zv.cells.size=sz':=by rw[← Array.length_toList, ← hzc.length,hzl]
    obtain ⟨m,rfl⟩:∃m,len=m+1:=⟨len-1,by omega⟩
    rw[Nat.zero_add] at ha';subst ha'
    unfold Builtin.clear_
    simp[run_underlying ht,hzv,Builtin.zeroCells,hzs,Sem.run_bind,Result.andThen];simp only[hzs] at q3;simp at q3
    rw[q3]
   ·rename_i A' hmu
    obtain ⟨rfl,rfl,-⟩:=hsl
    omega
end Go.AM


namespace Go.AM
open Go.RowKit
variable {P:Program} {μ μ':Mu} {h h':Hp} {w w':World}
theorem Out.val{s:Sem Value}{n:Sem Next}{a:AV}{h':Hp}(hn:n=(do pure (Next.value (← s))))(hs:∃w' u μ',s.run P w = .ok u w'∧Step μ h w μ' h' w'∧VR μ' h' a u):Out P n μ h w a h':=by
 obtain ⟨w',u,μ',h1,h2,h3⟩:=hs;exact ⟨μ',w',h2,.inl ⟨u,by rw[hn];simp[Sem.run_bind,h1],h3⟩⟩
theorem Out.unit{s:Sem Unit}{n:Sem Next}{a:AV}{h':Hp}(hn:n=(do s;pure Next.skip))(hs:∃w' μ',s.run P w = .ok () w'∧Step μ h w μ' h' w'∧a = .u):Out P n μ h w a h':=by
 obtain ⟨w',μ',h1,h2,h3⟩:=hs;exact ⟨μ',w',h2,.inr ⟨by rw[hn];simp[Sem.run_bind,h1],h3⟩⟩
theorem ZeT{n:Nat}{x a:AV}{base:Nat}{e:Eff}(hk:boxE n x base=some (a,e)):e.news.length=1:=by
 unfold boxE at hk;split at hk<;>try (simp at hk;done)
 simp only[Option.some.injEq,Prod.mk.injEq] at hk;obtain ⟨rfl,rfl⟩:=hk
 rfl
theorem Zn9{n len:Nat}{z:List AV}{parts:List (Nat × AV)}{a:AV}{base:Nat}{e:Eff}(hk:bsE n z len parts base=some (a,e)):e.news.length=1:=by
 unfold bsE at hk;split at hk<;>try (simp at hk;done)
 simp only[Option.some.injEq,Prod.mk.injEq] at hk;obtain ⟨rfl,rfl⟩:=hk
 rfl
theorem ZeU(R:Rel μ h w){D:DTab}{r:Operand→AV}{ρ:Operand→Value}(hr:∀x,VR μ h (r x) (ρ x)){o:Oper}{a:AV}{base:Nat}{e:Eff}(hc:calls o.op=false)
  (hk:actE P D r h base o.op=some (a,e)) (hd:∀j,j<e.news.length→h[base+j]? = some .dead):Out P (execOp ρ o) μ h w a (apAt h base e):=by
 unfold actE at hk;cases ho:o.op<;>rw[ho] at hk<;>try (simp at hk;done)
 case alloc el=>
  dsimp only at hk;split at hk<;>try (simp at hk;done)
  rename_i z n hz hn;have hd0:=hd 0 (by rw[ZeT hk];exact Nat.one_pos)
  exact .val (by simp[execOp,ho]) (ZmT R hz hk hd0)
 case box el x=>
  dsimp only at hk;split at hk<;>try (simp at hk;done)
  have hd0:=hd 0 (by rw[ZeT hk];exact Nat.one_pos)
  exact .val (s:=Instr.box el (ρ x)) (by simp[execOp,ho]) (ZeL R (hr x) hk hd0)
 case buildSlice ty len parts=>
  dsimp only at hk;split at hk<;>try (simp at hk;done)
  rename_i el hel;split at hk<;>try (simp at hk;done)
  rename_i n z hs hz;split at hk<;>try (simp at hk;done)
  rename_i hcond;obtain ⟨h1,h2,h3,h4⟩:=hcond
  have hd0:=hd 0 (by rw[Zn9 hk];exact Nat.one_pos)
  refine .val ?_ (ZmY (parts:=parts.toList.map λp=>(p.1,r p.2)) (vparts:=parts.toList.map λp=>(p.1,ρ p.2)) R hel hs hz ⟨h3,h4⟩ h1 h2 (by simp) ?_ hk hd0)
  ·simp only[execOp,ho]
   congr 2
   have:(parts.map λx=>(x.1,ρ x.2))=(parts.toList.map λp=>(p.1,ρ p.2)).toArray:=by apply Array.ext';simp
   rw[← this]
  ·intro i p q h1 h2
   simp only[List.getElem?_map,Option.map_eq_some_iff] at h1 h2;obtain ⟨x,hx,rfl⟩:=h1
   obtain ⟨y,hy,rfl⟩:=h2;rw[hx] at hy;injection hy with e;subst e;exact ⟨rfl,hr _⟩
 case store ty x y=>
  dsimp only at hk;split at hk<;>try (simp at hk;done)
  rename_i n hs;exact .unit (by simp[execOp,ho]) (ZmW R hs (hr x) (hr y) hk base)
 case makeMap ty x=>
  cases x with
  | some x=>simp at hk
  | none=>
   simp only[Option.some.injEq,Prod.mk.injEq] at hk;obtain ⟨rfl,rfl⟩:=hk
   have hd0:=hd 0 (by simp)
   exact .val (s:=Instr.makeMap ty none) (by simp[execOp,ho]) (ZmU R hd0)
 case mapUpdate ty m kk x=>
  dsimp only at hk;split at hk<;>try (simp at hk;done)
  rename_i kt et hu;split at hk<;>try (simp at hk;done)
  rename_i d hkt;exact .unit (by simp[execOp,ho]) (ZeN R hu hkt (hr m) (hr kk) (hr x) hk base)
 case insert ty m kk x=>
  dsimp only at hk;split at hk<;>try (simp at hk;done)
  rename_i kt et hu;split at hk<;>try (simp at hk;done)
  rename_i d hkt;exact .unit (by simp[execOp,ho]) (ZeN R hu hkt (hr m) (hr kk) (hr x) hk base)
 case mapEntry ty m kk=>
  dsimp only at hk;split at hk<;>try (simp at hk;done)
  rename_i kt et hu;split at hk<;>try (simp at hk;done)
  rename_i z d hz hkt;exact .val (s:=Instr.mapEntry ty (ρ m) (ρ kk)) (by simp[execOp,ho]) (ZmZ R hu hkt hz (hr m) (hr kk) hk base)
 case range ty x=>
  dsimp only at hk;split at hk<;>try (simp at hk;done)
  rename_i kt et hu
  have hn:e.news.length=1:=by
   have hk2:=hk;unfold rngE at hk2;split at hk2<;>try (simp at hk2;done)
   split at hk2<;>try (simp at hk2;done)
   simp only[Option.some.injEq,Prod.mk.injEq] at hk2;rw[← hk2.2];rfl
  have hd0:=hd 0 (by rw[hn];exact Nat.one_pos)
  exact .val (s:=Instr.range ty (ρ x)) (by simp[execOp,ho]) (Zn1 R hu (hr x) hk hd0)
 case entryStore ty m st x=>
  dsimp only at hk;exact .unit (by simp[execOp,ho]) (Zn0 (ty:=ty) R (hr m) (hr st) (hr x) hk base)
 case call c=>
  dsimp only at hk;split at hk<;>try (simp at hk;done)
  ·rename_i hcal
   split at hk<;>try (simp at hk;done)
   rename_i s x ty ty' hargs htys
   split at hk
   case isFalse=>
    split at hk<;>try (simp at hk;done)
    rename_i el hel hxt;split at hk<;>try (simp at hk;done)
    rename_i n b z hs hb hz;split at hk<;>try (simp at hk;done)
    rename_i hm;obtain ⟨hzl,hzo,hbp⟩:=hm
    have e1:c.args = #[s,x]:=by apply Array.ext';simpa using hargs
    have e2:c.argTypes = #[ty,ty']:=by apply Array.ext';simpa using htys
    have hne:e.news.length=1:=by
     unfold mkE at hk;split at hk<;>try (simp at hk;done)
     split at hk<;>try (simp at hk;done)
     simp only[Option.some.injEq,Prod.mk.injEq] at hk;obtain ⟨rfl,rfl⟩:=hk
     rfl
    refine .val (s:=Builtin.append_ #[ty,ty'] o.type #[ρ s,ρ x]) (by simp[execOp,ho,resolve,hcal,invoke,builtin,e1,e2])
     (Zn3 R (Z19 hel) hxt hs hb hz hzl hzo hbp (hr s) (hr x) hk (by have:=hd 0 (by rw[hne];exact Nat.one_pos);simpa using this))
   rename_i hty;subst hty
   split at hk<;>try (simp at hk;done)
   rename_i el hel;split at hk<;>try (simp at hk;done)
   rename_i n b m hs hb hz;split at hk<;>try (simp at hk;done)
   rename_i hm;obtain ⟨rfl,hbp⟩:=hm
   simp only[Option.map_eq_some_iff,Prod.mk.injEq] at hz;obtain ⟨z,hz,hzl,hzo⟩:=hz
   have e1:c.args = #[s,x]:=by apply Array.ext';simpa using hargs
   have e2:c.argTypes = #[ty,ty]:=by apply Array.ext';simpa using htys
   refine .val (s:=Builtin.append_ #[ty,ty] o.type #[ρ s,ρ x]) (by simp[execOp,ho,resolve,hcal,invoke,builtin,e1,e2])
    (Zn4 R (Z19 hel) hs hb hz hzl hzo ?_ (hr s) (hr x) hk ?_)
   ·intro m hm
    have:m * 1≤m * b:=Nat.mul_le_mul_left _ hbp
    unfold maxLen
    omega
   ·intro hne
    have:=hd 0 (List.length_pos_iff.2 hne)
    simpa using this
  ·rename_i hcal
   split at hk<;>try (simp at hk;done)
   rename_i x ty hargs htys;split at hk<;>try (simp at hk;done)
   rename_i el hel;split at hk<;>try (simp at hk;done)
   rename_i n z hs hz;split at hk<;>try (simp at hk;done)
   rename_i hm;obtain ⟨hzl,hzo,hn⟩:=hm
   have e1:c.args = #[x]:=by apply Array.ext';simpa using hargs
   have e2:c.argTypes = #[ty]:=by apply Array.ext';simpa using htys
   refine .val (s:=Builtin.clear_ #[ty] o.type #[ρ x]) (by simp[execOp,ho,resolve,hcal,invoke,builtin,e1,e2]) (Zn8 R (Z19 hel) hz hzl hzo hn (hr x) hk base)
  ·rename_i f hcal;simp[calls,ho,hcal] at hc
  ·rename_i f hnf hcal;simp[calls,ho,hcal] at hc
end Go.AM
end
