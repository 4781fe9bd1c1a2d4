/- The abstract interpreter: operations, regions, code, calls. -/
import Derived.Test.YtojomdeckobfnaaAbsCore1
namespace Go.Proofs.YtojomdeckobfnaaAbs
open Go
variable {R : Type}

def optK {α : Type} (x : Option α) (K : α → Option R) : Option R :=
  match x with
  | some v => K v
  | none => none

def partsOf (T : List AV) (ps : Array (Nat × Operand)) : List (Nat × AV) := ps.toList.map fun p => (p.1, ev T p.2)

def builtinA (E : Env) (h : Heap) (b : Builtin) (ts : List TypeId) (args : List AV) (K : AV → Heap → Option R) : Option R :=
  match b, ts, args with
  | .len, [t], [x] => (match tyKind E.tab t with
    | some (.arr n _) => K (.int .i64 (n : Int)) h
    | some (.ptr e) => (match tyKind E.tab e with
      | some (.arr n _) => K (.int .i64 (n : Int)) h
      | _ => none)
    | some .str => (match x with
      | .str l => K (.int .i64 (l.length : Int)) h
      | _ => none)
    | some (.slice _) => (match x with
      | .str _ => none
      | x => optK (lenOf h x) fun n => K (.int .i64 (n : Int)) h)
    | _ => none)
  | .min, _, x :: xs => optK (minA x xs) fun v => K v h
  | .max, _, x :: xs => optK (maxA x xs) fun v => K v h
  | .append, [t, u], [s, x] => (match tyKind E.tab u with
    | some (.slice _) => appendA E h t s x K
    | some .str => appendA E h t s x K
    | _ => none)
  | .copy, [t, _], [d, x] => copyA E h t d x K
  | _, _, _ => none

def fieldPlace (E : Env) (fs : List (Nat × TypeId)) (i : Nat) : Option (Nat × Nat) :=
  match fs[i]? with
  | some (o, u) => match tyFind E.tab u with
    | some tu => some (o, tu.size)
    | none => none
  | none => none

/-- One operation. -/
def step (E : Env) (f : FuncId) (call : CallF R) (T : List AV) (h : Heap) (o : Oper) (K : AV → Heap → Option R) : Option R :=
  match o.op with
  | .move x => K (ev T x) h
  | .assign x => K (ev T x) h
  | .pick c a b => match ev T c with
    | .bool x => bif x then K (ev T a) h else K (ev T b) h
    | _ => none
  | .alloc t => optK (tyFind E.tab t) fun ti => K (.ptr h.length 0) (h ++ [some (.var ti.zero)])
  | .box _ x => optK (cells (ev T x)) fun cs => K (.ptr h.length 0) (h ++ [some (.var cs)])
  | .build t ps => match tyFind E.tab t with
    | none => none
    | some ti => match ti.kind with
      | .struct fs => bif fs.all (fun p => (tyFind E.tab p.2).isSome) then (optK (fillParts (fieldPlace E fs) ti.zero (partsOf T ps)) fun cs => K (.agg cs) h) else none
      | .arr _ e => match tyFind E.tab e with
        | some te => optK (fillParts (fun i => some (i * te.size, te.size)) ti.zero (partsOf T ps)) fun cs => K (.agg cs) h
        | none => none
      | _ => none
  | .buildSlice t len ps => buildSl E h t len (partsOf T ps) (match o.dst with
    | some d => E.own f d
    | none => false) K
  | .load t a => optK (tyFind E.tab t) fun ti => optK (loadAt h ti (ev T a)) fun v => K v h
  | .store t a x => optK (tyFind E.tab t) fun ti => optK (storeAt h ti (ev T a) (ev T x)) fun h' => K (.tup []) h'
  | .nilCheck x => match ev T x with
    | .ptr id off => (match hget h id with
      | some (.var _) => K (.ptr id off) h
      | _ => none)
    | .eptr id ix j => (match hget h id with
      | some (.arr _ _) => K (.eptr id ix j) h
      | _ => none)
    | .rptr cs => K (.rptr cs) h
    | _ => none
  | .binOp op t x y _ => binOpA E h op t (ev T x) (ev T y) fun v => K v h
  | .unOp op _ x => match op, ev T x with
    | .not, .bool b => K (.bool (!b)) h
    | .neg, .int k n => K (.int k (k.wrap (0 - n))) h
    | .xor, .int k n => K (.int k (bitsOp .xor k (if k.signed then -1 else k.max) n)) h
    | _, _ => none
  | .convert s d x => optK (convA E h s d (ev T x)) fun v => K v h
  | .makeInterface t _ => match tyKind E.tab t with
    | some .iface => none
    | some .other => none
    | some _ => K .any h
    | none => none
  | .makeFunc fn first cap => match fn, first.toList with
    | .func g, [] => K (.fn g (cap.toList.map (ev T))) h
    | _, _ => none
  | .makeSlice t l c => optK (asI (ev T l)) fun n => optK (asI (ev T c)) fun m => makeA E h t n m K
  | .slice t x lo hi mx => match mx with
    | none => optK (optI T lo) fun a => optK (optI T hi) fun b => match tyKind E.tab t with
      | some .str => (match ev T x with
        | .str l => sliceS l a b fun v => K v h
        | _ => none)
      | some (.slice _) => optK (elemSize E.tab t) fun sz => sliceA h sz (ev T x) a b fun v => K v h
      | _ => none
    | some _ => none
  | .fieldAddr s x i => optK (fldAddr E h s (ev T x) i) fun v => K v h
  | .field t x i => match tyKind E.tab t, ev T x with
    | some (.struct fs), .agg cs => optK fs[i]? fun p => optK (tyFind E.tab p.2) fun tu => optK (cut cs p.1 tu.size) fun c => optK (mkVal tu.isAgg c) fun v => K v h
    | _, _ => none
  | .indexAddr t x i => optK (asI (ev T i)) fun n => idxAddr E h t (ev T x) n fun v => K v h
  | .index t x i => match tyKind E.tab t, ev T x, ev T i with
    | some .str, .str l, .int _ n => bif decide (0 ≤ n) && decide (n < l.length) then K (.int .u8 (l.getD n.toNat 0)) h else none
    | some (.arr n e), .agg cs, .int _ i => optK (tyFind E.tab e) fun te => pickIx i (fun j => optK (cut cs (j * te.size) te.size) fun c => optK (mkVal te.isAgg c) fun v => K v h) n 0
    | _, _, _ => none
  | .extract x i => match ev T x with
    | .tup vs => optK vs[i]? fun v => K v h
    | _ => none
  | .call c => match c.callee with
    | .builtin b => builtinA E h b c.argTypes.toList (c.args.toList.map (ev T)) K
    | .value g => match ev T g with
      | .fn g cap => (match E.pure g with
        | some H => optK (H (c.args.toList.map (ev T) ++ cap) h) fun r => K r.1 (h ++ r.2.map some)
        | none => call g (c.args.toList.map (ev T) ++ cap) h K)
      | _ => none
    | .invoke _ _ => none
  | _ => none

/-! ### which operations of a drawn region meet -/
def mem (x : Nat) : List Nat → Bool
  | [] => false
  | y :: l => Nat.beq x y || mem x l
def meets (a b : List Nat) : Bool := a.any fun x => mem x b

/-- Operations that leave the blocks that are there as they are. -/
def keeps (E : Env) (T : List AV) : Op → Bool
  | .move _ | .assign _ | .pick .. | .alloc _ | .box .. | .build .. | .load .. | .nilCheck _ | .binOp .. | .unOp .. | .convert .. | .makeInterface .. | .makeFunc .. | .slice .. | .fieldAddr .. | .field .. | .indexAddr .. | .index .. | .extract .. => true
  | .call c => match c.callee with
    | .builtin .len => true
    | .builtin .min => true
    | .builtin .max => true
    | .value g => (match ev T g with
      | .fn g _ => (E.pure g).isSome
      | _ => false)
    | _ => false
  | _ => false

def blkRefs (h : Heap) (id : Nat) : List Nat := match hget h id with
  | some b => b.refs
  | none => []
def closure (h : Heap) : Nat → List Nat → List Nat
  | 0, l => l
  | n + 1, l => closure h n (l ++ (l.flatMap (blkRefs h)).filter fun x => !mem x l)
def heapRefs (h : Heap) : List Nat := h.flatMap fun b => match b with
  | some b => b.refs
  | none => []

def maskFrom (ids : List Nat) : Nat → Heap → Heap
  | _, [] => []
  | n, b :: h => (bif mem n ids then b else none) :: maskFrom ids (n + 1) h
def mask (ids : List Nat) (h : Heap) : Heap := maskFrom ids 0 h
/-- What the masked run left, back in the whole. -/
def mergeFrom (ids : List Nat) : Nat → Heap → Heap → Heap
  | _, [], new => new
  | n, b :: h, c :: new => (bif mem n ids then c else b) :: mergeFrom ids (n + 1) h new
  | _, b :: h, [] => b :: h
def merge (ids : List Nat) (h new : Heap) : Heap := mergeFrom ids 0 h new

structure Rec where
  j : Nat
  names : List Nat
  dst : Option Nat
  ids : List Nat
  ws : List Nat
  lo : Nat
  hi : Nat
  outs : List Nat := []

def tmpsOf (xs : List Operand) : List Nat := xs.filterMap fun x => match x with
  | .tmp t => some t
  | _ => none
def guardTmp (all : List Oper) (g : Option (Nat × Bool)) : List Nat :=
  match g with
  | none => []
  | some (j, _) => match all[j]? with
    | some o => o.dst.toList
    | none => []
def namesOf (all : List Oper) (o : Oper) : List Nat := tmpsOf o.op.operands.toList ++ guardTmp all o.guard

/-- For each operation those ahead of it, by the edges, as bits. -/
def ancOf (acc : List Nat) : List Edge → Nat
  | [] => 0
  | e :: es => (bif Region.binds .any e then (1 <<< e.on) ||| acc.getD e.on 0 else 0) ||| ancOf acc es
def ancs : List Oper → List Nat → List Nat
  | [], acc => acc
  | o :: os, acc => ancs os (acc ++ [ancOf acc o.after.toList])
/-- Every edge leads back. -/
def backB : List Oper → Nat → Bool
  | [], _ => true
  | o :: os, n => (o.after.toList.all fun e => !Region.binds .any e || Nat.blt e.on n) && backB os (n + 1)

def optMem (d : Option Nat) (l : List Nat) : Bool := match d with
  | some d => mem d l
  | none => false
def optSame (a b : Option Nat) : Bool := match a, b with
  | some a, some b => Nat.beq a b
  | _, _ => false
/-- Two operations, a ahead of b in the text, that no edge orders: do they leave each other alone? -/
def apart (a b : Rec) : Bool :=
  !(optMem a.dst b.names) && !(optMem b.dst a.names) && !(optSame a.dst b.dst) && !(meets a.ws b.ids) && !(meets a.ids b.ws) &&
  b.ids.all (fun id => !(Nat.ble a.lo id && Nat.blt id a.hi))
def apartAll (an : Nat) (b : Rec) : List Rec → Bool
  | [] => true
  | a :: l => (Nat.testBit an a.j || apart a b) && apartAll an b l
def drawOk (an : List Nat) : List Rec → Bool
  | [] => true
  | b :: l => apartAll (an.getD b.j 0) b l && drawOk an l     -- the rows: last first

def runOps (E : Env) (f : FuncId) (call : CallF R) (all : List Oper) : List Oper → St → (St → Option R) → Option R
  | [], s, K => K s
  | o :: rest, s, K =>
    match o.guard with
    | none => step E f call s.T s.h o fun v h => runOps E f call all rest ⟨tput s.T o.dst v, h⟩ K
    | some (j, want) => match all[j]? with
      | some oj => match oj.dst with
        | some g => match tget s.T g with
          | .bool b =>
            let yes (T : List AV) : Option R := step E f call T s.h o fun v h => runOps E f call all rest ⟨tput T o.dst v, h⟩ K
            let no (T : List AV) : Option R := runOps E f call all rest ⟨tput T o.dst (.tup []), s.h⟩ K
            bif b then (bif want then yes (tset s.T g (.bool true)) else no (tset s.T g (.bool true))) else (bif want then no (tset s.T g (.bool false)) else yes (tset s.T g (.bool false)))
          | .tup _ => runOps E f call all rest ⟨tput s.T o.dst (.tup []), s.h⟩ K
          | _ => none
        | none => none
      | none => none

def opRefs (T : List AV) (o : Oper) : List Nat := o.op.operands.toList.flatMap fun x => (ev T x).refs
/-- Which of the blocks that an operation touches it has changed. -/
def wrote (kp cmp : Bool) (C : List Nat) (h h' : Heap) (K : List Nat → Option R) : Option R :=
  bif kp then K [] else bif cmp then K (C.filter fun id => !optEqB (hget h' id) (hget h id)) else K C
def inside (C : List Nat) (L L' id : Nat) : Bool := Nat.blt id L' && (Nat.ble L id || mem id C)
def drawnStep (E : Env) (f : FuncId) (call : CallF R) (names : List Nat) (n : Nat) (T : List AV) (h : Heap) (o : Oper) (C : List Nat) (K : Rec → AV → Heap → Option R) : Option R :=
  bif C.all (fun id => Nat.blt id h.length) && (opRefs T o).all (fun id => mem id C) && (heapRefs (mask C h)).all (fun id => mem id C) then
    step E f call T (mask C h) o fun v h' =>
      bif Nat.ble h.length h'.length && v.refs.all (inside C h.length h'.length) && (heapRefs h').all (inside C h.length h'.length) then
        wrote (keeps E T o.op) E.cmp C (mask C h) h' fun W => K ⟨n, names, o.dst, C, W, h.length, h'.length, []⟩ v (merge W h h')
      else none
  else none
def runDrawn (E : Env) (f : FuncId) (call : CallF R) (all : List Oper) (an : List Nat) : Nat → List Oper → St → List Rec → (St → Option R) → Option R
  | _, [], s, rs, K => bif drawOk an rs then K s else none
  | n, o :: rest, s, rs, K =>
    let go (T : List AV) : Option R := drawnStep E f call (namesOf all o) n T s.h o (closure s.h 3 (opRefs T o)) fun r v h => runDrawn E f call all an (n + 1) rest ⟨tput T o.dst v, h⟩ (r :: rs) K
    let no (T : List AV) : Option R := runDrawn E f call all an (n + 1) rest ⟨tput T o.dst (.tup []), s.h⟩ (⟨n, namesOf all o, o.dst, [], [], s.h.length, s.h.length, []⟩ :: rs) K
    match o.guard with
    | none => go s.T
    | some (j, want) => match all[j]? with
      | some oj => match oj.dst with
        | some g => match tget s.T g with
          | .bool b => bif b then (bif want then go (tset s.T g (.bool true)) else no (tset s.T g (.bool true))) else (bif want then no (tset s.T g (.bool false)) else go (tset s.T g (.bool false)))
          | .tup _ => no s.T
          | _ => none
        | none => none
      | none => none

def firstRegion : Code → Option Nat
  | .region id _ _ => some id
  | .seq a b => match firstRegion a with
    | some n => some n
    | none => firstRegion b
  | .cond _ a b => match firstRegion a with
    | some n => some n
    | none => firstRegion b
  | .block _ a => firstRegion a
  | .loop a => firstRegion a
  | .scope a => firstRegion a
  | _ => none

def iter (body : St → (Ex → St → Option R) → Option R) (K : Ex → St → Option R) : Nat → St → Option R
  | 0, _ => none
  | n + 1, s => body s fun e s' => match e with
    | .normal => iter body K n s'
    | .exit id => K (.exit id) s'
    | .ret => K .ret s'

def refine (T : List AV) (c : Operand) (b : Bool) : List AV := match c with
  | .tmp t => tset T t (.bool b)
  | _ => T

def exec (E : Env) (f : FuncId) (call : CallF R) : Code → St → (Ex → St → Option R) → Option R
  | .skip, s, K => K .normal s
  | .region _ ops draw, s, K => bif draw then (bif E.drawn && backB ops.toList 0 then runDrawn E f call ops.toList (ancs ops.toList []) 0 ops.toList s [] (K .normal) else none) else runOps E f call ops.toList ops.toList s (K .normal)
  | .seq a b, s, K => exec E f call a s fun e s' => match e with
    | .normal => exec E f call b s' K
    | .exit id => K (.exit id) s'
    | .ret => K .ret s'
  | .cond c a b, s, K => match ev s.T c with
    | .bool x => bif x then exec E f call a ⟨refine s.T c true, s.h⟩ K else exec E f call b ⟨refine s.T c false, s.h⟩ K
    | _ => none
  | .block id a, s, K => exec E f call a s fun e s' => match e with
    | .exit j => bif Nat.beq j id then K .normal s' else K (.exit j) s'
    | .normal => K .normal s'
    | .ret => K .ret s'
  | .loop a, s, K => match (match firstRegion a with
      | some n => E.loop R f n
      | none => none) with
    | some H => H s K
    | none => iter (exec E f call a) K E.fuel s
  | .exit id, s, K => K (.exit id) s
  | .label _, s, K => K .normal s
  | .ret, s, K => K .ret s
  | _, _, _ => none

def outOf (E : Env) (s : St) : List ResultVar → Option (List AV)
  | [] => some []
  | .tmp t :: rs => match outOf E s rs with
    | some vs => some (tget s.T t :: vs)
    | none => none
  | .cell a t :: rs => match tyFind E.tab t with
    | some ti => match loadAt s.h ti (tget s.T a), outOf E s rs with
      | some v, some vs => some (v :: vs)
      | _, _ => none
    | none => none
def resultA (vs : List AV) : AV := match vs with
  | [v] => v
  | vs => .tup vs

def acall (E : Env) : Nat → CallF R
  | 0, _, _, _, _ => none
  | n + 1, f, args, h, K => match E.call R f with
    | some H => H args h K
    | none => match E.fn f with
      | none => none
      | some fn => match fn.body with
        | none => none
        | some c => exec E f (acall E n) c ⟨args ++ List.replicate (fn.ntmps - args.length) .any, h⟩ fun e s => match e with
          | .exit _ => none
          | _ => match outOf E s fn.results.toList with
            | some vs => K (resultA vs) s.h
            | none => none

end Go.Proofs.YtojomdeckobfnaaAbs
