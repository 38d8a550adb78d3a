import Derived.WalkKit
import Derived.OrdersIn
namespace Go.AM
/-! The abstract machine: values, objects, operations in continuation form, code. -/

inductive AV where
  | u
  | s (v : Value)
  | ptr (id idx sub fr : Nat)
  | sl (sz id off len fr : Nat) (full : Bool)
  | mp (id : Nat)
  | fn (f : Nat) (caps : List AV)
  | yl (l : Nat)
  | lst (sz : Nat) (nil : Bool) (es : List (List AV))
  | ep (e : List AV) (sub : Nat)
  | agg (cs : List AV)
  | tup (cs : List AV)
  deriving Inhabited

inductive AObj where
  | arr (sz : Nat) (es : List (List AV)) (own nil : Bool)
  | map (kvs : List (Value × AV))
  | dead
  deriving Inhabited

abbrev Tm := Nat → AV
def upd (t : Tm) (i : Nat) (v : AV) : Tm := fun j => if j = i then v else t j
abbrev Hp := List AObj

/-- What an operation does to the heap: objects that it puts, objects that it makes, objects that it looks at. -/
structure Eff where
  puts : List (Nat × AObj)
  news : List AObj
  foot : List Nat
abbrev E0 : Eff := ⟨[], [], []⟩
abbrev EF (ids : List Nat) : Eff := ⟨[], [], ids⟩
abbrev EN (o : AObj) : Eff := ⟨[], [o], []⟩

/-- No address in it, one cell. -/
def gv : Value → Bool
  | .bool _ | .int _ _ | .string _ | .pointer none | .slice none _ _ | .map none | .nilFunc => true
  | _ => false
def cellV : AV → Option Value
  | .s v => if gv v then some v else none
  | _ => none
def toV : AV → Option Value
  | .s v => if gv v then some v else none
  | .agg cs => (cs.mapM cellV).map (fun vs => .agg vs.toArray)
  | _ => none
def ofC (v : Value) : Option AV := if gv v then some (.s v) else none
def ofV1 : Value → Option AV
  | .agg cs => (cs.toList.mapM ofC).map .agg
  | v => ofC v

/-- The answer of a piece of the model's code that touches no memory. -/
def pureVal {α : Type} (P : Program) : Sem α → Option α
  | .pure a => some a
  | .program k => pureVal P (k P)
  | _ => none

def szOf (P : Program) (t : TypeId) : Option Nat := match P.underlying t with | some _ => (P.info? t).map (·.size) | none => none
def bytesOf (P : Program) (t : TypeId) : Option Nat := (P.info? t).map (·.bytes)
def aggT (P : Program) (t : TypeId) : Bool := match P.underlying t with | some (.struct _) | some (.array ..) => true | _ => false
def zeroAV (P : Program) (t : TypeId) : Option AV := ((P.info? t).bind (·.zero)).bind ofV1
def cellsOf : AV → List AV
  | .agg cs => cs
  | v => [v]
/-- The part of n cells that begins at cell 'sub'. -/
def pickC (n : Nat) (agg : Bool) (e : List AV) (sub : Nat) : Option AV :=
  if agg then (if sub + n ≤ e.length then some (.agg ((e.drop sub).take n)) else none) else e[sub]?
def putAt (e : List AV) (sub : Nat) (cs : List AV) : List AV := e.take sub ++ cs ++ e.drop (sub + cs.length)
def fieldOf (P : Program) (t : TypeId) (f : Nat) : Option (Nat × TypeId) :=
  match P.underlying t with
  | some (.struct fs) => fs[f]?.map fun x => (x.offset, x.type)
  | _ => none
def elemOf (P : Program) (t : TypeId) : Option TypeId :=
  match P.underlying t with
  | some (.slice e) => some e
  | _ => none

def asInt : AV → Option Int
  | .s (.int _ n) => some n
  | _ => none

/-- What a slice holds. -/
def readSl (h : Hp) : AV → Option (List (List AV))
  | .s (.slice none 0 0) => some []
  | .lst _ _ es => some es
  | .sl sz id off len fr _ =>
    match h[id]? with
    | some (.arr sz' es _ _) => if es.length = fr ∧ sz' = sz ∧ off + len ≤ es.length then some ((es.drop off).take len) else none
    | _ => none
  | _ => none
def idsOf : AV → List Nat
  | .sl _ id .. => [id]
  | .ptr id .. => [id]
  | .mp id => [id]
  | _ => []

/-- A function that is called: arguments and heap; its result, and the heap behind it. -/
abbrev Fun := List AV → Hp → Option (AV × Hp)
abbrev Tab := Nat → Option Fun
/-- A function that is called where the order is drawn: arguments, heap, the number that its first new object gets; its result, and what it does. -/
abbrev DFun := List AV → Hp → Nat → Option (AV × Eff)
abbrev DTab := Nat → Option DFun


/-- One cell that memory may hold. -/
def okC : AV → Bool
  | .s v => gv v
  | .ptr .. | .sl .. | .mp _ | .fn .. | .yl _ | .lst .. | .ep .. => true
  | _ => false

variable {β : Type}
abbrev K (β : Type) := AV → Option β

/-! Operations that make nothing. -/
def arithK (op : BinOp) (x y : AV) (k : K β) : Option β :=
  match x, y with
  | .s (.int a m), .s (.int b n) =>
    if a = b then
      match op with
      | .add => k (.s (.int a (a.wrap (m + n))))
      | .sub => k (.s (.int a (a.wrap (m - n))))
      | .mul => k (.s (.int a (a.wrap (m * n))))
      | .lss => k (.s (.bool (m < n)))
      | .leq => k (.s (.bool (m ≤ n)))
      | .gtr => k (.s (.bool (n < m)))
      | .geq => k (.s (.bool (n ≤ m)))
      | _ => none
    else none
  | _, _ => none
/-- Whatever else the model reckons of values alone. -/
def reckK (P : Program) (op : BinOp) (ty : TypeId) (x y : AV) (k : K β) : Option β :=
  match toV x, toV y with
  | some a, some b =>
    match pureVal P (do Go.eqGuard op ty (.tmp 0) (.tmp 0) a b; Go.binOp op ty a b) with
    | some v => match ofV1 v with | some v => k v | none => none
    | none => none
  | _, _ => none
def eqK (P : Program) (neq : Bool) (ty : TypeId) (x y : AV) (h : Hp) (k : K β) : Option β :=
  match x, y with
  | .s (.int a m), .s (.int b n) => if a = b then k (.s (.bool (xor neq (m == n)))) else none
  | .s (.bool m), .s (.bool n) => match P.underlying ty with | some .bool => k (.s (.bool (xor neq (m == n)))) | _ => none
  | .sl _ id _ _ fr _, .s (.slice none _ _) =>
    match elemOf P ty, h[id]? with
    | some _, some (.arr _ es _ nil) => if es.length = fr then k (.s (.bool (xor neq nil))) else none
    | _, _ => none
  | .lst _ nil _, .s (.slice none _ _) =>
    match elemOf P ty with
    | some _ => k (.s (.bool (xor neq nil)))
    | none => none
  | _, _ => reckK P (if neq then .neq else .eql) ty x y k
def binK (P : Program) (op : BinOp) (ty : TypeId) (x y : AV) (h : Hp) (k : K β) : Option β :=
  match op with
  | .add | .sub | .mul | .lss | .leq | .gtr | .geq => arithK op x y k
  | .eql => eqK P false ty x y h k
  | .neq => eqK P true ty x y h k
  | _ => reckK P op ty x y k
def notK (x : AV) (k : K β) : Option β := match x with | .s (.bool b) => k (.s (.bool !b)) | _ => none
def unK (P : Program) (op : UnOp) (x : AV) (k : K β) : Option β :=
  match op with
  | .not => notK x k
  | _ => match toV x with
    | some a => match pureVal P (Op.unary op a) with
      | some v => match ofV1 v with | some v => k v | none => none
      | none => none
    | none => none
def convK (P : Program) (a b : TypeId) (x : AV) (k : K β) : Option β :=
  match toV x with
  | some v => match pureVal P (Go.convert a b v) with
    | some v => match ofV1 v with | some v => k v | none => none
    | none => none
  | none => none
def pickK (c a b : AV) (k : K β) : Option β :=
  match c with
  | .s (.bool q) => k (if q then a else b)
  | _ => none
def fillA (cells : List AV) : List (Option (Nat × Nat) × AV) → Option (List AV)
  | [] => some cells
  | (none, _) :: _ => none
  | (some (off, size), v) :: rest => if (cellsOf v).length = size ∧ (cellsOf v).all okC ∧ off + size ≤ cells.length then fillA (putAt cells off (cellsOf v)) rest else none
def buildK (z : List AV) (parts : List (Option (Nat × Nat) × AV)) (k : K β) : Option β :=
  match fillA z parts with
  | some c => k (.agg c)
  | none => none
def arrOf (P : Program) (t : TypeId) : Option (Nat × TypeId) :=
  match P.underlying t with
  | some (.array n e) => some (n, e)
  | _ => none
def allSized (P : Program) (ty : TypeId) : Bool := match P.underlying ty with | some (.struct fs) => fs.toList.all fun f => (szOf P f.type).isSome | some (.array _ e) => (szOf P e).isSome | _ => false
/-- Where a struct's field lies, and how many cells it has. -/
def placeOf (P : Program) (ty : TypeId) (i : Nat) : Option (Nat × Nat) :=
  match arrOf P ty with
  | some (_, e) => (szOf P e).map fun n => (i * n, n)
  | none => (fieldOf P ty i).bind fun p => (szOf P p.2).map fun n => (p.1, n)
def ldK (n : Nat) (agg : Bool) (p : AV) (h : Hp) (k : K β) : Option β :=
  match p with
  | .ptr id idx sub fr =>
    match h[id]? with
    | some (.arr _ es _ _) =>
      if es.length = fr then
        match es[idx]? with
        | some e => match pickC n agg e sub with | some v => k v | none => none
        | none => none
      else none
    | _ => none
  | .ep e sub => match pickC n agg e sub with | some v => k v | none => none
  | _ => none
def nilK (x : AV) (k : K β) : Option β :=
  match x with
  | .ptr a b c d => k (.ptr a b c d)
  | .ep e sub => k (.ep e sub)
  | .fn f cs => k (.fn f cs)
  | .yl l => k (.yl l)
  | _ => none
def boundOr (x : Option AV) (d : Nat) : Option Nat :=
  match x with
  | none => some d
  | some (.s (.int _ m)) => if 0 ≤ m then some m.toNat else none
  | some _ => none
def sliceK (n : Nat) (x : AV) (lo hi mx : Option AV) (k : K β) : Option β :=
  match x with
  | .sl sz id off len fr full =>
    match boundOr mx len, boundOr hi len, boundOr lo 0 with
    | some m, some h, some l => if sz = n ∧ l ≤ h ∧ h ≤ m ∧ m ≤ len ∧ (mx.isSome = true → hi.isSome = true) then k (.sl sz id (off + l) (h - l) fr ((mx.isSome && m == h) || (mx.isNone && full && h == len))) else none
    | _, _, _ => none
  | .lst sz nil es =>
    match boundOr mx es.length, boundOr hi es.length, boundOr lo 0 with
    | some m, some h, some l => if sz = n ∧ l ≤ h ∧ h ≤ m ∧ m ≤ es.length ∧ (mx.isSome = true → hi.isSome = true) then k (.lst sz nil ((es.drop l).take (h - l))) else none
    | _, _, _ => none
  | _ => none
def faK (off : Nat) (p : AV) (k : K β) : Option β := match p with | .ptr id idx sub fr => k (.ptr id idx (sub + off) fr) | .ep e sub => k (.ep e (sub + off)) | _ => none
def fldK (n : Nat) (agg : Bool) (off : Nat) (x : AV) (k : K β) : Option β :=
  match x with
  | .agg cs => match pickC n agg cs off with | some v => k v | none => none
  | _ => none
def iaK (n : Nat) (x i : AV) (k : K β) : Option β :=
  match x, i with
  | .sl sz id off len fr _, .s (.int _ m) => if sz = n ∧ 0 ≤ m ∧ m < len then k (.ptr id (off + m.toNat) 0 fr) else none
  | .lst sz _ es, .s (.int _ m) => if sz = n ∧ 0 ≤ m then match es[m.toNat]? with | some e => k (.ep e 0) | none => none else none
  | _, _ => none
/-- The address of an array's element. -/
def iaA (n len : Nat) (x i : AV) (k : K β) : Option β :=
  match x, i with
  | .ptr id idx sub fr, .s (.int _ m) => if 0 ≤ m ∧ m < len then k (.ptr id idx (sub + m.toNat * n) fr) else none
  | .ep e sub, .s (.int _ m) => if 0 ≤ m ∧ m < len then k (.ep e (sub + m.toNat * n)) else none
  | _, _ => none
/-- A string's byte. -/
def chK (x i : AV) (k : K β) : Option β :=
  match x, i with
  | .s (.string s), .s (.int _ m) => if 0 ≤ m then (match s[m.toNat]? with | some b => k (.s (.int .u8 b.toNat)) | none => none) else none
  | _, _ => none
def lookupKV (kvs : List (Value × AV)) (eq : Value → Value → Option Bool) (k : Value) : Option (Option AV) :=
  match kvs with
  | [] => some none
  | (k', v) :: rest => match eq k k' with | some true => some (some v) | some false => lookupKV rest eq k | none => none
def updateKV (kvs : List (Value × AV)) (eq : Value → Value → Option Bool) (k : Value) (v : AV) : Option (List (Value × AV)) :=
  match kvs with
  | [] => some [(k, v)]
  | (k', v') :: rest => match eq k k' with | some true => some ((k, v) :: rest) | some false => (updateKV rest eq k v).map ((k', v') :: ·) | none => none
/-- Are two keys one? (And does the model ask so without a question to the tape.) -/
def keyEq (P : Program) (kt : TypeId) (a b : Value) : Option Bool :=
  match pureVal P (Op.equal kt a b) with
  | some true => if Instr.sameBits 10000 b a then some true else none
  | r => r
def keyOk (P : Program) (kt : TypeId) (a : Value) : Bool := (pureVal P (Instr.checkKey false 10000 kt a)).isSome && (pureVal P (Instr.checkKey true 10000 kt a)).isSome
def lookK (P : Program) (kt : TypeId) (z : AV) (ok : Bool) (m kk : AV) (h : Hp) (k : K β) : Option β :=
  match m, toV kk with
  | .mp id, some kv =>
    match h[id]? with
    | some (.map kvs) =>
      if keyOk P kt kv then
        match lookupKV kvs (keyEq P kt) kv with
        | some (some v) => k (if ok then .tup [v, .s (.bool true)] else v)
        | some none => k (if ok then .tup [z, .s (.bool false)] else z)
        | none => none
      else none
    | _ => none
  | _, _ => none
def exK (x : AV) (i : Nat) (k : K β) : Option β :=
  match x with
  | .tup vs => match vs[i]? with | some v => k v | none => none
  | _ => none
def lenK (x : AV) (k : K β) : Option β :=
  match x with
  | .sl _ _ _ len _ _ => k (.s (.int .i64 len))
  | .lst _ _ es => k (.s (.int .i64 es.length))
  | .s (.slice none n _) => k (.s (.int .i64 n))
  | _ => none
def lenM (x : AV) (h : Hp) (k : K β) : Option β :=
  match x with
  | .s (.map none) => k (.s (.int .i64 0))
  | .mp id => match h[id]? with | some (.map kvs) => k (.s (.int .i64 kvs.length)) | _ => none
  | _ => none
def minK (x y : AV) (k : K β) : Option β :=
  match x, y with
  | .s (.int a m), .s (.int b n) => if a = b then k (.s (.int a (if n < m then n else m))) else none
  | _, _ => none
def maxK (x y : AV) (k : K β) : Option β :=
  match x, y with
  | .s (.int a m), .s (.int b n) => if a = b then k (.s (.int a (if m < n then n else m))) else none
  | _, _ => none

/-! Operations that make or write: with their effects, the first new object's number being 'base'. -/
abbrev R := Option (AV × Eff)
def boxE (n : Nat) (v : AV) (base : Nat) : R :=
  if (cellsOf v).length = n ∧ (cellsOf v).all okC then some (.ptr base 0 0 1, EN (.arr n [cellsOf v] true false)) else none
def fillS (n : Nat) (es : List (List AV)) : List (Nat × AV) → Option (List (List AV))
  | [] => some es
  | (i, v) :: rest => if (cellsOf v).length = n ∧ (cellsOf v).all okC ∧ i < es.length then fillS n (es.set i (cellsOf v)) rest else none
def bsE (n : Nat) (z : List AV) (len : Nat) (parts : List (Nat × AV)) (base : Nat) : R :=
  match fillS n (List.replicate len z) parts with
  | some es => some (.sl n base 0 len len true, EN (.arr n es true false))
  | none => none
def stE (n : Nat) (p v : AV) (h : Hp) : R :=
  match p with
  | .ptr id idx sub fr =>
    match h[id]? with
    | some (.arr sz es own nil) =>
      if es.length = fr ∧ own = true ∧ (cellsOf v).length = n ∧ (cellsOf v).all okC then
        match es[idx]? with
        | some e => if sub + n ≤ e.length then some (.u, ⟨[(id, .arr sz (es.set idx (putAt e sub (cellsOf v))) own nil)], [], [id]⟩) else none
        | none => none
      else none
    | _ => none
  | _ => none
def mupE (P : Program) (kt : TypeId) (m kk v : AV) (h : Hp) : R :=
  match m, toV kk with
  | .mp id, some kv =>
    match h[id]? with
    | some (.map kvs) =>
      if keyOk P kt kv then
        match updateKV kvs (keyEq P kt) kv v with
        | some kvs' => some (.u, ⟨[(id, .map kvs')], [], [id]⟩)
        | none => none
      else none
    | _ => none
  | _, _ => none
/-- 'append(s, x...)': elements of n cells and 'by_' bytes. -/
def appE (n by_ : Nat) (s x : AV) (h : Hp) (base : Nat) : R :=
  match readSl h x with
  | some news =>
    match s with
    | .s (.slice none 0 0) =>
      if news.length = 0 then some (s, EF (idsOf x))
      else if news.length * by_ ≤ 140737488355328 ∧ news.all (fun e => e.length == n) then some (.sl n base 0 news.length news.length false, ⟨[], [.arr n news true false], idsOf x⟩)
      else none
    | .sl _ id off len fr full =>
      match h[id]? with
      | some (.arr sz es own nil) =>
        if es.length = fr ∧ sz = n ∧ (len + news.length) * by_ ≤ 140737488355328 ∧ news.all (fun e => e.length == n) then
          if full = true ∧ off + len ≤ fr ∧ (len = 0 ∨ news.length ≠ 0) then some (.sl n base 0 (len + news.length) (len + news.length) false, ⟨[], [.arr n ((es.drop off).take len ++ news) true (nil && len + news.length == 0)], id :: idsOf x⟩)
          else if own = true ∧ off = 0 ∧ len = fr then some (.sl n id 0 (len + news.length) (fr + news.length) false, ⟨[(id, .arr n (es ++ news) true (nil && news.length == 0))], [], id :: idsOf x⟩)
          else none
        else none
      | _ => none
    | _ => none
  | none => none
def callE (F : Option DFun) (args : List AV) (h : Hp) (base : Nat) : R :=
  match F with
  | some F => F args h base
  | none => none
def callVE (T : DTab) (f : AV) (args : List AV) (h : Hp) (base : Nat) : R :=
  match f with
  | .fn g caps => callE (T g) (args ++ caps) h base
  | _ => none
def ap (h : Hp) (e : Eff) : Hp := e.puts.foldl (fun h p => h.set p.1 p.2) h ++ e.news
def effK (r : R) (h : Hp) (k : AV → Hp → Option β) : Option β :=
  match r with
  | some (v, e) => k v (ap h e)
  | none => none

def callK (F : Option Fun) (args : List AV) (h : Hp) (k : AV → Hp → Option β) : Option β :=
  match F with
  | some F => match F args h with | some (v, h') => k v h' | none => none
  | none => none
def callVK (T : Tab) (f : AV) (args : List AV) (h : Hp) (k : AV → Hp → Option β) : Option β :=
  match f with
  | .fn g caps => callK (T g) (args ++ caps) h k
  | _ => none

/-- Operands: first what this region has reckoned, then the frame. -/
abbrev Env := List (Nat × AV)
def look (t : Tm) : Env → Nat → AV
  | [], i => t i
  | (j, v) :: e, i => if i = j then v else look t e i
def cv (v : Value) : AV := if gv v then .s v else .u
def ev (t : Tm) (e : Env) : Operand → AV
  | .tmp i => look t e i
  | .const v => cv v
  | .global _ => .u
  | .func f => .fn f []

/-- An operation that neither makes nor writes. -/
def pureK (P : Program) (r : Operand → AV) (h : Hp) (o : Op) (k : K β) : Option β :=
  match o with
  | .move x | .assign x => k (r x)
  | .pick c a b => pickK (r c) (r a) (r b) k
  | .build ty parts =>
    match zeroAV P ty, allSized P ty with
    | some (.agg z), true => buildK z (parts.toList.map fun p => (placeOf P ty p.1, r p.2)) k
    | _, _ => none
  | .load ty a => match szOf P ty with | some n => ldK n (aggT P ty) (r a) h k | none => none
  | .nilCheck x => nilK (r x) k
  | .binOp op ty x y _ => binK P op ty (r x) (r y) h k
  | .unOp op _ x => unK P op (r x) k
  | .convert a b x => convK P a b (r x) k
  | .makeFunc (.func f) first caps => if first.size = 0 then k (.fn f (caps.toList.map r)) else none
  | .slice ty x lo hi mx => match (elemOf P ty).bind (szOf P) with | some n => sliceK n (r x) (lo.map r) (hi.map r) (mx.map r) k | none => none
  | .fieldAddr ty x f => match fieldOf P ty f with
    | some (off, ft) => match szOf P ft with | some (_ + 1) => faK off (r x) k | _ => none
    | none => none
  | .field ty x f => match fieldOf P ty f with
    | some (off, ft) => match szOf P ft with | some n => fldK n (aggT P ft) off (r x) k | none => none
    | none => none
  | .indexAddr ty x i => match arrOf P ty with
    | some (len, e) => match szOf P e with | some n => iaA n len (r x) (r i) k | none => none
    | none => match (elemOf P ty).bind (szOf P) with | some n => iaK n (r x) (r i) k | none => none
  | .index ty x i => match P.underlying ty with | some .string => chK (r x) (r i) k | _ => none
  | .lookup ty m kk ok => match P.underlying ty with
    | some (.map kt et) => match zeroAV P et, P.underlying kt with | some z, some _ => lookK P kt z ok (r m) (r kk) h k | _, _ => none
    | _ => none
  | .extract x i => exK (r x) i k
  | .call c =>
    match c.callee with
    | .builtin .len => match c.args.toList, c.argTypes.toList with
      | [x], [ty] => match P.underlying ty with
        | some (.slice _) => lenK (r x) k
        | some (.map ..) => lenM (r x) h k
        | _ => none
      | _, _ => none
    | .builtin .min => match c.args.toList with | [x, y] => minK (r x) (r y) k | _ => none
    | .builtin .max => match c.args.toList with | [x, y] => maxK (r x) (r y) k | _ => none
    | _ => none
  | _ => none
/-- An operation that makes or writes. -/
def actE (P : Program) (T : DTab) (r : Operand → AV) (h : Hp) (base : Nat) (o : Op) : R :=
  match o with
  | .alloc e => match zeroAV P e, szOf P e with | some z, some n => boxE n z base | _, _ => none
  | .box e x => match szOf P e with | some n => boxE n (r x) base | none => none
  | .buildSlice ty len parts =>
    match elemOf P ty with
    | some e => match szOf P e, zeroAV P e with
      | some n, some z => if len * n ≤ 16777216 ∧ 0 < n ∧ (cellsOf z).all okC = true ∧ (cellsOf z).length = n then bsE n (cellsOf z) len (parts.toList.map fun p => (p.1, r p.2)) base else none
      | _, _ => none
    | none => none
  | .store ty a x => match szOf P ty with | some n => stE n (r a) (r x) h | none => none
  | .makeMap _ none => some (.mp base, EN (.map []))
  | .mapUpdate ty m kk x | .insert ty m kk x => match P.underlying ty with
    | some (.map kt _) => match P.underlying kt with | some _ => mupE P kt (r m) (r kk) (r x) h | none => none
    | _ => none
  | .call c =>
    match c.callee with
    | .builtin .append => match c.args.toList, c.argTypes.toList with
      | [s, x], [ty, ty'] => if ty = ty' then match elemOf P ty with
        | some e => match szOf P e, bytesOf P e, (zeroAV P e).map (fun z => ((cellsOf z).length, (cellsOf z).all okC)) with
          | some (n + 1), some b, some (m, true) => if m = n + 1 ∧ 0 < b then appE (n + 1) b (r s) (r x) h base else none
          | _, _, _ => none
        | none => none else none
      | _, _ => none
    | .value (.func f) => callE (T f) (c.args.toList.map r) h base
    | .value f => callVE T (r f) (c.args.toList.map r) h base
    | _ => none
  | _ => none
/-- Does it make or write? -/
def acts : Op → Bool
  | .alloc _ | .box .. | .buildSlice .. | .store .. | .makeMap .. | .mapUpdate .. | .insert .. => true
  | .call c => match c.callee with | .builtin .append | .value _ => true | _ => false
  | _ => false

def calls : Op → Bool
  | .call c => match c.callee with | .value _ => true | _ => false
  | _ => false
def callO (T : Tab) (r : Operand → AV) (h : Hp) (o : Op) (k : AV → Hp → Option β) : Option β :=
  match o with
  | .call c =>
    match c.callee with
    | .value (.func f) => callK (T f) (c.args.toList.map r) h k
    | .value f => callVK T (r f) (c.args.toList.map r) h k
    | _ => none
  | _ => none
def opK (P : Program) (T : Tab) (r : Operand → AV) (h : Hp) (o : Oper) (k : AV → Hp → Option β) : Option β :=
  match calls o.op with
  | true => callO T r h o.op k
  | false => match acts o.op with | true => effK (actE P (fun _ => none) r h h.length o.op) h k | false => pureK P r h o.op (fun v => k v h)

/-- Is the operation asked for? -/
def wB (x : AV) (want : Bool) : Option Bool := match x with | .s (.bool b) => some (b == want) | .tup [] => some false | _ => none
def wants (all : List Oper) (t : Tm) (e : Env) (o : Oper) : Option Bool :=
  match o.guard with
  | none => some true
  | some (j, want) => match (all[j]?).bind (·.dst) with
    | some d => wB (look t e d) want
    | none => none
/-- An operation under a guard. -/
def gopK (g : Option Bool) (h : Hp) (run : (AV → Hp → Option β) → Option β) (k : AV → Hp → Option β) : Option β :=
  match g with
  | some true => run k
  | some false => k (.tup []) h
  | none => none
def stepK (P : Program) (T : Tab) (all : List Oper) (t : Tm) (e : Env) (h : Hp) (o : Oper) (k : AV → Hp → Option β) : Option β :=
  match o.guard with
  | none => opK P T (ev t e) h o k
  | some _ => gopK (wants all t e o) h (opK P T (ev t e) h o) k

def putE (e : Env) (d : Option Nat) (v : AV) : Env := match d with | some d => (d, v) :: e | none => e
def putT (ks : List Nat) (t : Tm) (d : Option Nat) (v : AV) : Tm := match d with | some d => (match ks.contains d with | true => upd t d v | false => t) | none => t
abbrev St := Tm × Hp

/-- A region in the text's order. -/
def opsK (P : Program) (T : Tab) (ks : List Nat) (all : List Oper) : List Oper → Tm → Env → Hp → (St → Option β) → Option β
  | [], t, _, h, k => k (t, h)
  | o :: os, t, e, h, k => stepK P T all t e h o fun v h => opsK P T ks all os (putT ks t o.dst v) (putE e o.dst v) h k

/-! A region that draws its order: in the text's order too, with a list of what each operation looked at and wrote. -/
abbrev Ent := List Nat × List Nat
def isSl (P : Program) (t : TypeId) : Bool := match P.underlying t with | some (.slice _) => true | _ => false
def isMap (P : Program) (t : TypeId) : Bool := match P.underlying t with | some (.map ..) => true | _ => false
/-- Does it look at memory? -/
def looksH (P : Program) : Op → Bool
  | .load .. | .lookup .. => true
  | .binOp op ty _ _ _ => (match op with | .eql | .neq => true | _ => false) && isSl P ty
  | .call c => match c.callee, c.argTypes.toList with | .builtin .len, [ty] => isMap P ty | _, _ => false
  | _ => false
def footP (P : Program) (r : Operand → AV) (o : Op) : List Nat :=
  bif looksH P o then
    match o with
    | .load _ x => idsOf (r x)
    | .lookup _ m _ _ => idsOf (r m)
    | .binOp _ _ x _ _ => idsOf (r x)
    | .call c => match c.args.toList with | [x] => idsOf (r x) | _ => []
    | _ => []
  else []
def wrOf (base : Nat) (e : Eff) : List Nat := e.puts.map (·.1) ++ (List.range e.news.length).map (base + ·)
def effD (r : R) (h : Hp) (k : AV → Hp → Ent → Option β) : Option β :=
  match r with
  | some (v, e) => k v (ap h e) (e.foot, wrOf h.length e)
  | none => none
def opD (P : Program) (D : DTab) (r : Operand → AV) (h : Hp) (o : Oper) (k : AV → Hp → Ent → Option β) : Option β :=
  match acts o.op with | true => effD (actE P D r h h.length o.op) h k | false => pureK P r h o.op (fun v => k v h (footP P r o.op, []))
def gopD (g : Option Bool) (h : Hp) (run : (AV → Hp → Ent → Option β) → Option β) (k : AV → Hp → Ent → Option β) : Option β :=
  match g with
  | some true => run k
  | some false => k (.tup []) h ([], [])
  | none => none
def stepD (P : Program) (D : DTab) (all : List Oper) (t : Tm) (e : Env) (h : Hp) (o : Oper) (k : AV → Hp → Ent → Option β) : Option β :=
  match o.guard with
  | none => opD P D (ev t e) h o k
  | some _ => gopD (wants all t e o) h (opD P D (ev t e) h o) k
def disj2 (a b : Ent) : Bool := a.2.all (fun x => !b.1.contains x && !b.2.contains x) && b.2.all fun x => !a.1.contains x
def disjAll (prs : List (Nat × Nat)) (lg : List Ent) : Bool := prs.all fun p => disj2 (lg.getD p.1 ([], [])) (lg.getD p.2 ([], []))
def opsD (P : Program) (D : DTab) (ks : List Nat) (all : List Oper) (prs : List (Nat × Nat)) : List Oper → Tm → Env → Hp → List Ent → (St → Option β) → Option β
  | [], t, _, h, lg, k => bif disjAll prs lg.reverse then k (t, h) else none
  | o :: os, t, e, h, lg, k => stepD P D all t e h o fun v h en => opsD P D ks all prs os (putT ks t o.dst v) (putE e o.dst v) h (en :: lg) k
/-- What must lie before: masks. -/
def befM (bs : List Nat) (o : Oper) : Nat := o.after.toList.foldl (fun s e => bif Region.binds .any e then s ||| (1 <<< e.on) ||| bs.getD e.on 0 else s) 0
def befs (ops : List Oper) : List Nat := ops.foldl (fun bs o => bs ++ [befM bs o]) []
/-- The pairs that are left without an order. -/
def free2 (bs : List Nat) : List (Nat × Nat) := (List.range bs.length).flatMap fun j => (List.range j).filterMap fun i => bif (bs.getD j 0).testBit i then none else some (i, j)
def heavy (P : Program) (o : Oper) : Bool := acts o.op || looksH P o.op
def prsOf (P : Program) (ops : List Oper) : List (Nat × Nat) := (free2 (befs ops)).filter fun p =>
  match ops[p.1]?, ops[p.2]? with
  | some a, some b => (acts a.op && heavy P b) || (heavy P a && acts b.op)
  | _, _ => false
def okDraw (ops : Array Oper) : Bool :=
  Region.noSelect ops && (ops.toList.zipIdx.all fun x => x.1.after.toList.all fun e => !Region.binds .any e || e.on < x.2) &&
    (free2 (befs ops.toList)).all fun p => match ops[p.1]?, ops[p.2]? with
      | some a, some b => a.apart ops b
      | _, _ => false

/-! Operations under one guard, gathered: what '&&' and '||' are in a region. -/
inductive RT where
  | op (i : Nat)
  | grp (j : Nat) (want : Bool) (d y z : Nat) (body : List RT) (pk : Nat)
def sameG : Option (Nat × Bool) → Option (Nat × Bool) → Bool
  | none, none => true
  | some a, some b => Nat.beq a.1 b.1 && (a.2 == b.2)
  | _, _ => false
/-- A choice that closes a group: the condition's place, what was chosen, its own place. -/
def pickOf (all : List Oper) (j : Nat) (w : Bool) (pk : Oper) : Option (Nat × Nat × Nat) :=
  match (all[j]?).bind (·.dst), pk.dst, pk.op with
  | some d, some z, .pick (.tmp c) a b =>
    bif Nat.beq c d then
      match w, a, b with
      | false, .const (.bool true), .tmp y => some (d, y, z)
      | true, .tmp y, .const (.bool false) => some (d, y, z)
      | _, _, _ => none
    else none
  | _, _, _ => none
def parseT (all : List Oper) : Nat → Option (Nat × Bool) → Nat → Nat → List RT × Nat
  | 0, _, _, i => ([], i)
  | f + 1, ctx, st, i =>
    match all[i]? with
    | none => ([], i)
    | some o =>
      bif sameG o.guard ctx then (match parseT all f ctx st (i + 1) with | (r, n) => (.op i :: r, n))
      else
        match o.guard with
        | some (j, w) =>
          bif ctx.isNone || Nat.ble st j then
            match parseT all f (some (j, w)) i i with
            | (b, n) =>
              match (all[n]?).bind (pickOf all j w) with
              | some (d, y, z) => (match parseT all f ctx st (n + 1) with | (r, m) => (.grp j w d y z b n :: r, m))
              | none => ([], i)
          else ([], i)
        | none => ([], i)
mutual
def flat1 : RT → List Nat
  | .op i => [i]
  | .grp _ _ _ _ _ body pk => flats body ++ [pk]
def flats : List RT → List Nat
  | [] => []
  | r :: rs => flat1 r ++ flats rs
end
def noRef (S : List Nat) (o : Op) : Bool := o.operands.toList.all fun x => match x with | .tmp i => !S.contains i | _ => true
abbrev Cx := Option (Nat × Bool × Nat)
def Cx.g (c : Cx) : Option (Nat × Bool) := match c with | some (j, w, _) => some (j, w) | none => none
def Cx.off (c : Cx) (l : List Nat) : Bool := match c with | some (_, _, d) => !l.contains d | none => true
def free (ks l : List Nat) : Bool := l.all fun i => !ks.contains i
/- Is a tree in order? What is out of use behind it; what it has written. -/
mutual
def wf1 (all : List Oper) (ks : List Nat) : Cx → List Nat → List Nat → RT → Option (List Nat × List Nat)
  | ctx, S, I, .op i =>
    match all[i]? with
    | some o =>
      bif sameG o.guard ctx.g && noRef S o.op && ctx.off o.dst.toList && free S o.dst.toList && (ctx.isNone || free ks o.dst.toList) then some (S, o.dst.toList ++ I) else none
    | none => none
  | ctx, S, I, .grp j want d y z body pk =>
    match wfs all ks (some (j, want, d)) S [] body, all[pk]? with
    | some (S1, I1), some p =>
      bif (ctx.isNone || I.contains d) && !S.contains d && !S1.contains d && !I1.contains d && free ks I1 && I1.contains y && !S1.contains y && ctx.off (z :: (I1 ++ S1)) && !(I1 ++ S1).contains z && sameG p.guard ctx.g && (ctx.isNone || free ks [z]) &&
        (match pickOf all j want p with | some (d', y', z') => Nat.beq d' d && Nat.beq y' y && Nat.beq z' z | none => false) then some (I1 ++ S1, z :: I) else none
    | _, _ => none
def wfs (all : List Oper) (ks : List Nat) : Cx → List Nat → List Nat → List RT → Option (List Nat × List Nat)
  | _, S, I, [] => some (S, I)
  | ctx, S, I, r :: rs => match wf1 all ks ctx S I r with | some (S', I') => wfs all ks ctx S' I' rs | none => none
end
def grpK (want : Bool) (x : AV) (h : Hp) (run : (AV → Hp → Option β) → Option β) (k : AV → Hp → Option β) : Option β :=
  match x with
  | .s (.bool b) => bif b == want then run k else k (.s (.bool b)) h
  | _ => none
mutual
def opT (P : Program) (T : Tab) (ks : List Nat) (all : List Oper) : RT → Tm → Env → Hp → (Tm → Env → Hp → Option β) → Option β
  | .op i, t, e, h, k => match all[i]? with | some o => opK P T (ev t e) h o fun v h => k (putT ks t o.dst v) (putE e o.dst v) h | none => none
  | .grp _ want d y z body _, t, e, h, k => grpK want (look t e d) h (fun K => opsT P T ks all body t e h fun _ e' h' => K (look t e' y) h') fun v h' => k (putT ks t (some z) v) ((z, v) :: e) h'
def opsT (P : Program) (T : Tab) (ks : List Nat) (all : List Oper) : List RT → Tm → Env → Hp → (Tm → Env → Hp → Option β) → Option β
  | [], t, e, h, k => k t e h
  | r :: rs, t, e, h, k => opT P T ks all r t e h fun t e h => opsT P T ks all rs t e h k
end
def treeOf (ks : List Nat) (ops : List Oper) : Option (List RT) :=
  bif ops.all fun o => o.guard.isNone then none
  else
    match parseT ops (ops.length + ops.length) none 0 0 with
    | (tr, _) => bif (flats tr == List.range ops.length) && (wfs ops ks none [] [] tr).isSome then some tr else none
/-- A region in the text's order, its groups gathered. -/
def regK (P : Program) (T : Tab) (ks : List Nat) (ops : List Oper) (t : Tm) (h : Hp) (k : St → Option β) : Option β :=
  match treeOf ks ops with
  | some tr => opsT P T ks ops tr t [] h fun t _ h => k (t, h)
  | none => opsK P T ks ops ops t [] h k

inductive Ex where
  | normal | exit (id : Nat) | ret
  deriving DecidableEq
abbrev Ex.on {α : Type} (e : Ex) (n : α) (x : Nat → α) (r : α) : α := match e with | .normal => n | .exit i => x i | .ret => r

def iterK (f : St → (Ex → St → Option β) → Option β) : Nat → St → (Ex → St → Option β) → Option β
  | 0, _, _ => none
  | n + 1, s, k => f s fun e s' => e.on (iterK f n s' k) (fun i => k (.exit i) s') (k .ret s')

def condK (c : AV) (a b : Option β) : Option β := match c with | .s (.bool q) => bif q then a else b | _ => none

def execK (P : Program) (T : Tab) (D : DTab) (N : Nat) (ks : List Nat) : Code → St → (Ex → St → Option β) → Option β
  | .skip, s, k => k .normal s
  | .region _ ops false, s, k => regK P T ks ops.toList s.1 s.2 fun s => k .normal s
  | .region _ ops true, s, k => match okDraw ops with | true => (match (prsOf P ops.toList).isEmpty with | true => regK P T ks ops.toList s.1 s.2 fun s => k .normal s | false => opsD P D ks ops.toList (prsOf P ops.toList) ops.toList s.1 [] s.2 [] fun s => k .normal s) | false => none
  | .seq a b, s, k => execK P T D N ks a s fun e s' => e.on (execK P T D N ks b s' k) (fun i => k (.exit i) s') (k .ret s')
  | .cond c a b, s, k => condK (ev s.1 [] c) (execK P T D N ks a s k) (execK P T D N ks b s k)
  | .block id c, s, k => execK P T D N ks c s fun e s' => e.on (k .normal s') (fun i => match i == id with | true => k .normal s' | false => k (.exit i) s') (k .ret s')
  | .loop c, s, k => iterK (fun s k => execK P T D N ks c s k) N s k
  | .exit id, s, k => k (.exit id) s
  | .label _, s, k => k .normal s
  | .ret, s, k => k .ret s
  | _, _, _ => none

def outV (P : Program) (t : Tm) (h : Hp) : ResultVar → Option AV
  | .tmp i => some (t i)
  | .cell a ty => match szOf P ty with | some n => ldK n (aggT P ty) (t a) h some | none => none
def outsK (P : Program) (t : Tm) (h : Hp) : List ResultVar → (List AV → Option β) → Option β
  | [], k => k []
  | .tmp i :: rs, k => outsK P t h rs fun vs => k (t i :: vs)
  | .cell a ty :: rs, k => match szOf P ty with | some n => ldK n (aggT P ty) (t a) h fun v => outsK P t h rs fun vs => k (v :: vs) | none => none
def pack : List AV → AV
  | [v] => v
  | vs => .tup vs
def tm0 : List AV → Tm
  | [], _ => .u
  | a :: _, 0 => a
  | _ :: as, i + 1 => tm0 as i
def finish (P : Program) (rs : List ResultVar) (e : Ex) (s : St) : Option (AV × Hp) :=
  e.on (outsK P s.1 s.2 rs fun vs => some (pack vs, s.2)) (fun _ => none) (outsK P s.1 s.2 rs fun vs => some (pack vs, s.2))
/-- A call: the result and the heap behind it. -/
def run (P : Program) (T : Tab) (D : DTab) (N : Nat) (ks : List Nat) (fn : Func) (args : List AV) (h : Hp) : Option (AV × Hp) :=
  match fn.body with
  | none => none
  | some c => execK P T D N ks c (tm0 args, h) (finish P fn.results.toList)
end Go.AM
