/- The abstract interpreter: operations, regions, code, calls. -/
import Derived.Test.YtklfdmnmiadgpaaAbsCore1
namespace Go.Proofs.YtklfdmnmiadgpaaAbs
set_option linter.unusedVariables false
open Go
variable {R : Type}

def optK {α : Type} (x : Option α) (K : α → Option R) : Option R :=
  match x with
  | some v => K v
  | none => none

def partsOf (T : List AV) (ps : Array (Nat × Operand)) : List (Nat × AV) := ps.toList.map fun p => (p.1, ev T p.2)

def builtinA (E : Env) (h : Heap) (b : Builtin) (ts : List TypeId) (args : List AV) (K : AV → Heap → Option R) : Option R :=
  match b, ts, args with
  | .len, [t], [x] => (match tyKind E.tab t with
    | some (.arr n _) => K (.int .i64 (n : Int)) h
    | some (.ptr e) => (match tyKind E.tab e with
      | some (.arr n _) => K (.int .i64 (n : Int)) h
      | _ => none)
    | some .str => (match x with
      | .str l => K (.int .i64 (l.length : Int)) h
      | _ => none)
    | some (.map _ _) => optK (mapLen h x) fun n => K (.int .i64 (n : Int)) h
    | some (.slice _) => (match x with
      | .str _ => none
      | x => optK (lenOf h x) fun n => K (.int .i64 (n : Int)) h)
    | _ => none)
  | .cap, [t], [x] => (match tyKind E.tab t, x with
    | some (.slice _), .nils => K (.int .i64 0) h
    | some (.slice _), .zcap => K (.int .i64 0) h
    | _, _ => none)
  | .min, _, x :: xs => optK (minA x xs) fun v => K v h
  | .max, _, x :: xs => optK (maxA x xs) fun v => K v h
  | .append, [t, u], [s, x] => (match tyKind E.tab u with
    | some (.slice _) => appendA E h t s x K
    | some .str => appendA E h t s x K
    | some (.int _) => (match s, x with
      | .nils, .int _ n => appendZ E h t n K
      | .zcap, .int _ n => appendZ E h t n K
      | _, _ => none)
    | _ => none)
  | .unsafeSliceData, [_], [x] => (match x with
    | .nils => K .nilptr h
    | .own id => (match hget h id with
      | some (.arr _ _ (_ :: _)) => K (.eptr id 0 0) h
      | _ => none)
    | _ => none)
  | .unsafeString, [p, _], [x, n] => (match x, n with
    | .nilptr, .int .i64 n => bif decide (n = 0) then K (.str []) h else none
    | .eptr id ix j, .int .i64 n => (match hget h id, tyKind E.tab p with
      | some (.arr et r l), some (.ptr e) => (match tyFind E.tab e with
        | some te => if q : r.same (.one (.int .u8)) = true then
            (bif Nat.beq ix 0 && (Nat.beq j 0 && (Nat.beq et e && (Nat.beq te.size 1 && (decide (n = (l.length : Int)) && (Nat.blt 0 l.length && Nat.ble l.length maxAppend))))) then K (.str (castList q l)) (hset h id none) else none) else none
        | none => none)
      | _, _ => none)
    | _, _ => none)
  | .copy, [t, _], [d, x] => copyA E h t d x K
  | _, _, _ => none

def fieldPlace (E : Env) (fs : List (Nat × TypeId)) (i : Nat) : Option (Nat × Nat) :=
  match fs[i]? with
  | some (o, u) => match tyFind E.tab u with
    | some tu => some (o, tu.size)
    | none => none
  | none => none

/-- One operation, in one text. -/
def stepS (E : Env) (f : FuncId) (call : CallF R) (T : List AV) (h : Heap) (o : Oper) (K : AV → Heap → Option R) : Option R :=
  match o.op with
  | .move x => K (ev T x) h
  | .assign x => K (ev T x) h
  | .pick c a b => match ev T c with
    | .bool x => bif x then K (ev T a) h else K (ev T b) h
    | _ => none
  | .alloc t => optK (tyFind E.tab t) fun ti => K (.ptr h.length 0) (h ++ [some (.var t ti.zero)])
  | .box t x => optK (cells (ev T x)) fun cs => K (.ptr h.length 0) (h ++ [some (.var t cs)])
  | .build t ps => match tyFind E.tab t with
    | none => none
    | some ti => match ti.kind with
      | .struct fs => bif fs.all (fun p => (tyFind E.tab p.2).isSome) then (optK (fillParts (fieldPlace E fs) ti.zero (partsOf T ps)) fun cs => K (.agg cs) h) else none
      | .arr _ e => match tyFind E.tab e with
        | some te => optK (fillParts (fun i => some (i * te.size, te.size)) ti.zero (partsOf T ps)) fun cs => K (.agg cs) h
        | none => none
      | _ => none
  | .buildSlice t len ps => buildSl E h t len (partsOf T ps) (match o.dst with
    | some d => E.own f d
    | none => false) K
  | .load t a => optK (tyFind E.tab t) fun ti => optK (loadAt h ti (ev T a)) fun v => K v h
  | .store t a x => optK (tyFind E.tab t) fun ti => optK (storeAt h ti (ev T a) (ev T x)) fun h' => K (.tup []) h'
  | .nilCheck x => match ev T x with
    | .ptr id off => (match hget h id with
      | some (.var _ _) => K (.ptr id off) h
      | _ => none)
    | .eptr id ix j => (match hget h id with
      | some (.arr _ _ _) => K (.eptr id ix j) h
      | _ => none)
    | .rptr cs => K (.rptr cs) h
    | _ => none
  | .binOp op t x y _ => binOpA E h op t (ev T x) (ev T y) fun v => K v h
  | .unOp op _ x => match op, ev T x with
    | .not, .bool b => K (.bool (!b)) h
    | .neg, .int k n => K (.int k (k.wrap (0 - n))) h
    | .xor, .int k n => K (.int k (bitsOp .xor k (if k.signed then -1 else k.max) n)) h
    | _, _ => none
  | .convert s d x => match convS E h s d (ev T x) with
    | some r => K r.1 r.2
    | none => optK (convA E h s d (ev T x)) fun v => K v h
  | .makeInterface t _ => match tyKind E.tab t with
    | some .iface => none
    | some .other => none
    | some _ => K .any h
    | none => none
  | .makeFunc fn first cap => match fn, first.toList with
    | .func g, [] => K (.fn g (cap.toList.map (ev T))) h
    | _, _ => none
  | .makeSlice t l c => optK (asI (ev T l)) fun n => optK (asI (ev T c)) fun m => makeA E h t n m K
  | .slice t x lo hi mx => match mx with
    | none => optK (optI T lo) fun a => optK (optI T hi) fun b => match tyKind E.tab t with
      | some .str => (match ev T x with
        | .str l => sliceS l a b fun v => K v h
        | _ => none)
      | some (.slice _) => optK (elemSize E.tab t) fun sz => sliceA h sz (ev T x) a b fun v => K v h
      | _ => none
    | some _ => none
  | .fieldAddr s x i => optK (fldAddr E h s (ev T x) i) fun v => K v h
  | .field t x i => match tyKind E.tab t, ev T x with
    | some (.struct fs), .agg cs => optK fs[i]? fun p => optK (tyFind E.tab p.2) fun tu => optK (cut cs p.1 tu.size) fun c => optK (mkVal tu.isAgg c) fun v => K v h
    | _, _ => none
  | .indexAddr t x i => optK (asI (ev T i)) fun n => idxAddr E h t (ev T x) n fun v => K v h
  | .index t x i => match tyKind E.tab t, ev T x, ev T i with
    | some .str, .str l, .int _ n => bif decide (0 ≤ n) && decide (n < l.length) then K (.int .u8 (l.getD n.toNat 0)) h else none
    | some (.arr n e), .agg cs, .int _ i => optK (tyFind E.tab e) fun te => pickIx i (fun j => optK (cut cs (j * te.size) te.size) fun c => optK (mkVal te.isAgg c) fun v => K v h) n 0
    | _, _, _ => none
  | .extract x i => match ev T x with
    | .tup vs => optK vs[i]? fun v => K v h
    | _ => none
  | .makeMap t r => match r with
    | none => optK (makeMapA E h t) fun r => K r.1 r.2
    | some _ => none
  | .lookup t x i ok => optK (lookupA E h t (ev T x) (ev T i) ok) fun v => K v h
  | .mapUpdate t x i v => optK (insertA E h t (ev T x) (ev T i) (ev T v)) fun h => K (.tup []) h
  | .insert t x i v => optK (insertA E h t (ev T x) (ev T i) (ev T v)) fun h => K (.tup []) h
  | .call c => match c.callee with
    | .builtin b => builtinA E h b c.argTypes.toList (c.args.toList.map (ev T)) K
    | .value g => match ev T g with
      | .fn g cap => bif E.ext g then (match c.args.toList.map (ev T) ++ cap with
        | [x] => K x h
        | _ => none) else (match E.pure g with
        | some H => optK (H (c.args.toList.map (ev T) ++ cap) h) fun r => K r.1 (h ++ r.2.map some)
        | none => call g (c.args.toList.map (ev T) ++ cap) h K)
      | _ => none
    | .invoke _ _ => none
  | _ => none
def stMove (E : Env) (f : FuncId) (call : CallF R) (T : List AV) (h : Heap) (o : Oper) (K : AV → Heap → Option R) (x : Operand) : Option R :=
  K (ev T x) h
def stAssign (E : Env) (f : FuncId) (call : CallF R) (T : List AV) (h : Heap) (o : Oper) (K : AV → Heap → Option R) (x : Operand) : Option R :=
  K (ev T x) h
def stPick (E : Env) (f : FuncId) (call : CallF R) (T : List AV) (h : Heap) (o : Oper) (K : AV → Heap → Option R) (c : Operand) (a : Operand) (b : Operand) : Option R :=
  match ev T c with
    | .bool x => bif x then K (ev T a) h else K (ev T b) h
    | _ => none
def stAlloc (E : Env) (f : FuncId) (call : CallF R) (T : List AV) (h : Heap) (o : Oper) (K : AV → Heap → Option R) (t : TypeId) : Option R :=
  optK (tyFind E.tab t) fun ti => K (.ptr h.length 0) (h ++ [some (.var t ti.zero)])
def stBox (E : Env) (f : FuncId) (call : CallF R) (T : List AV) (h : Heap) (o : Oper) (K : AV → Heap → Option R) (t : TypeId) (x : Operand) : Option R :=
  optK (cells (ev T x)) fun cs => K (.ptr h.length 0) (h ++ [some (.var t cs)])
def stBuild (E : Env) (f : FuncId) (call : CallF R) (T : List AV) (h : Heap) (o : Oper) (K : AV → Heap → Option R) (t : TypeId) (ps : Array (Nat × Operand)) : Option R :=
  match tyFind E.tab t with
    | none => none
    | some ti => match ti.kind with
      | .struct fs => bif fs.all (fun p => (tyFind E.tab p.2).isSome) then (optK (fillParts (fieldPlace E fs) ti.zero (partsOf T ps)) fun cs => K (.agg cs) h) else none
      | .arr _ e => match tyFind E.tab e with
        | some te => optK (fillParts (fun i => some (i * te.size, te.size)) ti.zero (partsOf T ps)) fun cs => K (.agg cs) h
        | none => none
      | _ => none
def stBuildSlice (E : Env) (f : FuncId) (call : CallF R) (T : List AV) (h : Heap) (o : Oper) (K : AV → Heap → Option R) (t : TypeId) (len : Nat) (ps : Array (Nat × Operand)) : Option R :=
  buildSl E h t len (partsOf T ps) (match o.dst with
    | some d => E.own f d
    | none => false) K
def stLoad (E : Env) (f : FuncId) (call : CallF R) (T : List AV) (h : Heap) (o : Oper) (K : AV → Heap → Option R) (t : TypeId) (a : Operand) : Option R :=
  optK (tyFind E.tab t) fun ti => optK (loadAt h ti (ev T a)) fun v => K v h
def stStore (E : Env) (f : FuncId) (call : CallF R) (T : List AV) (h : Heap) (o : Oper) (K : AV → Heap → Option R) (t : TypeId) (a : Operand) (x : Operand) : Option R :=
  optK (tyFind E.tab t) fun ti => optK (storeAt h ti (ev T a) (ev T x)) fun h' => K (.tup []) h'
def stNilCheck (E : Env) (f : FuncId) (call : CallF R) (T : List AV) (h : Heap) (o : Oper) (K : AV → Heap → Option R) (x : Operand) : Option R :=
  match ev T x with
    | .ptr id off => (match hget h id with
      | some (.var _ _) => K (.ptr id off) h
      | _ => none)
    | .eptr id ix j => (match hget h id with
      | some (.arr _ _ _) => K (.eptr id ix j) h
      | _ => none)
    | .rptr cs => K (.rptr cs) h
    | _ => none
def stBinOp (E : Env) (f : FuncId) (call : CallF R) (T : List AV) (h : Heap) (o : Oper) (K : AV → Heap → Option R) (op : BinOp) (t : TypeId) (x : Operand) (y : Operand) (_w : TypeId) : Option R :=
  binOpA E h op t (ev T x) (ev T y) fun v => K v h
def stUnOp (E : Env) (f : FuncId) (call : CallF R) (T : List AV) (h : Heap) (o : Oper) (K : AV → Heap → Option R) (op : UnOp) (_w : TypeId) (x : Operand) : Option R :=
  match op, ev T x with
    | .not, .bool b => K (.bool (!b)) h
    | .neg, .int k n => K (.int k (k.wrap (0 - n))) h
    | .xor, .int k n => K (.int k (bitsOp .xor k (if k.signed then -1 else k.max) n)) h
    | _, _ => none
def stConvert (E : Env) (f : FuncId) (call : CallF R) (T : List AV) (h : Heap) (o : Oper) (K : AV → Heap → Option R) (s : TypeId) (d : TypeId) (x : Operand) : Option R :=
  match convS E h s d (ev T x) with
    | some r => K r.1 r.2
    | none => optK (convA E h s d (ev T x)) fun v => K v h
def stMakeInterface (E : Env) (f : FuncId) (call : CallF R) (T : List AV) (h : Heap) (o : Oper) (K : AV → Heap → Option R) (t : TypeId) (_w : Operand) : Option R :=
  match tyKind E.tab t with
    | some .iface => none
    | some .other => none
    | some _ => K .any h
    | none => none
def stMakeFunc (E : Env) (f : FuncId) (call : CallF R) (T : List AV) (h : Heap) (o : Oper) (K : AV → Heap → Option R) (fn : Fn) (first : Array Operand) (cap : Array Operand) : Option R :=
  match fn, first.toList with
    | .func g, [] => K (.fn g (cap.toList.map (ev T))) h
    | _, _ => none
def stMakeSlice (E : Env) (f : FuncId) (call : CallF R) (T : List AV) (h : Heap) (o : Oper) (K : AV → Heap → Option R) (t : TypeId) (l : Operand) (c : Operand) : Option R :=
  optK (asI (ev T l)) fun n => optK (asI (ev T c)) fun m => makeA E h t n m K
def stSlice (E : Env) (f : FuncId) (call : CallF R) (T : List AV) (h : Heap) (o : Oper) (K : AV → Heap → Option R) (t : TypeId) (x : Operand) (lo : Option Operand) (hi : Option Operand) (mx : Option Operand) : Option R :=
  match mx with
    | none => optK (optI T lo) fun a => optK (optI T hi) fun b => match tyKind E.tab t with
      | some .str => (match ev T x with
        | .str l => sliceS l a b fun v => K v h
        | _ => none)
      | some (.slice _) => optK (elemSize E.tab t) fun sz => sliceA h sz (ev T x) a b fun v => K v h
      | _ => none
    | some _ => none
def stFieldAddr (E : Env) (f : FuncId) (call : CallF R) (T : List AV) (h : Heap) (o : Oper) (K : AV → Heap → Option R) (s : TypeId) (x : Operand) (i : Nat) : Option R :=
  optK (fldAddr E h s (ev T x) i) fun v => K v h
def stField (E : Env) (f : FuncId) (call : CallF R) (T : List AV) (h : Heap) (o : Oper) (K : AV → Heap → Option R) (t : TypeId) (x : Operand) (i : Nat) : Option R :=
  match tyKind E.tab t, ev T x with
    | some (.struct fs), .agg cs => optK fs[i]? fun p => optK (tyFind E.tab p.2) fun tu => optK (cut cs p.1 tu.size) fun c => optK (mkVal tu.isAgg c) fun v => K v h
    | _, _ => none
def stIndexAddr (E : Env) (f : FuncId) (call : CallF R) (T : List AV) (h : Heap) (o : Oper) (K : AV → Heap → Option R) (t : TypeId) (x : Operand) (i : Operand) : Option R :=
  optK (asI (ev T i)) fun n => idxAddr E h t (ev T x) n fun v => K v h
def stIndex (E : Env) (f : FuncId) (call : CallF R) (T : List AV) (h : Heap) (o : Oper) (K : AV → Heap → Option R) (t : TypeId) (x : Operand) (i : Operand) : Option R :=
  match tyKind E.tab t, ev T x, ev T i with
    | some .str, .str l, .int _ n => bif decide (0 ≤ n) && decide (n < l.length) then K (.int .u8 (l.getD n.toNat 0)) h else none
    | some (.arr n e), .agg cs, .int _ i => optK (tyFind E.tab e) fun te => pickIx i (fun j => optK (cut cs (j * te.size) te.size) fun c => optK (mkVal te.isAgg c) fun v => K v h) n 0
    | _, _, _ => none
def stExtract (E : Env) (f : FuncId) (call : CallF R) (T : List AV) (h : Heap) (o : Oper) (K : AV → Heap → Option R) (x : Operand) (i : Nat) : Option R :=
  match ev T x with
    | .tup vs => optK vs[i]? fun v => K v h
    | _ => none
def stMakeMap (E : Env) (f : FuncId) (call : CallF R) (T : List AV) (h : Heap) (o : Oper) (K : AV → Heap → Option R) (t : TypeId) (r : Option Operand) : Option R :=
  match r with
    | none => optK (makeMapA E h t) fun r => K r.1 r.2
    | some _ => none
def stLookup (E : Env) (f : FuncId) (call : CallF R) (T : List AV) (h : Heap) (o : Oper) (K : AV → Heap → Option R) (t : TypeId) (x : Operand) (i : Operand) (ok : Bool) : Option R :=
  optK (lookupA E h t (ev T x) (ev T i) ok) fun v => K v h
def stInsert (E : Env) (f : FuncId) (call : CallF R) (T : List AV) (h : Heap) (o : Oper) (K : AV → Heap → Option R) (t : TypeId) (x : Operand) (i : Operand) (v : Operand) : Option R :=
  optK (insertA E h t (ev T x) (ev T i) (ev T v)) fun h => K (.tup []) h
def stCall (E : Env) (f : FuncId) (call : CallF R) (T : List AV) (h : Heap) (o : Oper) (K : AV → Heap → Option R) (c : Call) : Option R :=
  match c.callee with
    | .builtin b => builtinA E h b c.argTypes.toList (c.args.toList.map (ev T)) K
    | .value g => match ev T g with
      | .fn g cap => bif E.ext g then (match c.args.toList.map (ev T) ++ cap with
        | [x] => K x h
        | _ => none) else (match E.pure g with
        | some H => optK (H (c.args.toList.map (ev T) ++ cap) h) fun r => K r.1 (h ++ r.2.map some)
        | none => call g (c.args.toList.map (ev T) ++ cap) h K)
      | _ => none
    | .invoke _ _ => none
/-- One operation: each kind in a text of its own (for the kernel: an unfolding copies the whole text). -/
def step (E : Env) (f : FuncId) (call : CallF R) (T : List AV) (h : Heap) (o : Oper) (K : AV → Heap → Option R) : Option R :=
  match o.op with
  | .move v0 => stMove E f call T h o K v0
  | .assign v0 => stAssign E f call T h o K v0
  | .pick v0 v1 v2 => stPick E f call T h o K v0 v1 v2
  | .alloc v0 => stAlloc E f call T h o K v0
  | .box v0 v1 => stBox E f call T h o K v0 v1
  | .build v0 v1 => stBuild E f call T h o K v0 v1
  | .buildSlice v0 v1 v2 => stBuildSlice E f call T h o K v0 v1 v2
  | .load v0 v1 => stLoad E f call T h o K v0 v1
  | .store v0 v1 v2 => stStore E f call T h o K v0 v1 v2
  | .nilCheck v0 => stNilCheck E f call T h o K v0
  | .binOp v0 v1 v2 v3 v4 => stBinOp E f call T h o K v0 v1 v2 v3 v4
  | .unOp v0 v1 v2 => stUnOp E f call T h o K v0 v1 v2
  | .convert v0 v1 v2 => stConvert E f call T h o K v0 v1 v2
  | .makeInterface v0 v1 => stMakeInterface E f call T h o K v0 v1
  | .makeFunc v0 v1 v2 => stMakeFunc E f call T h o K v0 v1 v2
  | .makeSlice v0 v1 v2 => stMakeSlice E f call T h o K v0 v1 v2
  | .slice v0 v1 v2 v3 v4 => stSlice E f call T h o K v0 v1 v2 v3 v4
  | .fieldAddr v0 v1 v2 => stFieldAddr E f call T h o K v0 v1 v2
  | .field v0 v1 v2 => stField E f call T h o K v0 v1 v2
  | .indexAddr v0 v1 v2 => stIndexAddr E f call T h o K v0 v1 v2
  | .index v0 v1 v2 => stIndex E f call T h o K v0 v1 v2
  | .extract v0 v1 => stExtract E f call T h o K v0 v1
  | .makeMap v0 v1 => stMakeMap E f call T h o K v0 v1
  | .lookup v0 v1 v2 v3 => stLookup E f call T h o K v0 v1 v2 v3
  | .mapUpdate v0 v1 v2 v3 => stInsert E f call T h o K v0 v1 v2 v3
  | .insert v0 v1 v2 v3 => stInsert E f call T h o K v0 v1 v2 v3
  | .call v0 => stCall E f call T h o K v0
  | _ => none
theorem step_eq (E : Env) (f : FuncId) (call : CallF R) (T : List AV) (h : Heap) (o : Oper) (K : AV → Heap → Option R) : step E f call T h o K = stepS E f call T h o K := by
  delta step stepS stMove stAssign stPick stAlloc stBox stBuild stBuildSlice stLoad stStore stNilCheck stBinOp stUnOp stConvert stMakeInterface stMakeFunc stMakeSlice stSlice stFieldAddr stField stIndexAddr stIndex stExtract stMakeMap stLookup stInsert stCall
  rfl

/-! ### which operations of a drawn region meet -/
def mem (x : Nat) : List Nat → Bool
  | [] => false
  | y :: l => Nat.beq x y || mem x l
def meets (a b : List Nat) : Bool := a.any fun x => mem x b

/-- Operations that leave the blocks that are there as they are. -/
def keeps (E : Env) (T : List AV) : Op → Bool
  | .move _ | .assign _ | .pick .. | .alloc _ | .box .. | .build .. | .load .. | .nilCheck _ | .binOp .. | .unOp .. | .makeInterface .. | .makeFunc .. | .slice .. | .fieldAddr .. | .field .. | .indexAddr .. | .index .. | .extract .. | .makeMap .. | .lookup .. => true
  | .convert s d _ => !(Nat.beq s d)
  | .call c => match c.callee with
    | .builtin .len => true
    | .builtin .min => true
    | .builtin .max => true
    | .value g => (match ev T g with
      | .fn g _ => E.ext g || (E.pure g).isSome
      | _ => false)
    | _ => false
  | _ => false

def blkRefs (h : Heap) (id : Nat) : List Nat := match hget h id with
  | some b => b.refs
  | none => []
def closure (h : Heap) : Nat → List Nat → List Nat
  | 0, l => l
  | n + 1, l => closure h n (l ++ (l.flatMap (blkRefs h)).filter fun x => !mem x l)
def heapRefs (h : Heap) : List Nat := h.flatMap fun b => match b with
  | some b => b.refs
  | none => []

def maskFrom (ids : List Nat) : Nat → Heap → Heap
  | _, [] => []
  | n, b :: h => (bif mem n ids then b else none) :: maskFrom ids (n + 1) h
def mask (ids : List Nat) (h : Heap) : Heap := maskFrom ids 0 h
/-- What the masked run left, back in the whole. -/
def mergeFrom (ids : List Nat) : Nat → Heap → Heap → Heap
  | _, [], new => new
  | n, b :: h, c :: new => (bif mem n ids then c else b) :: mergeFrom ids (n + 1) h new
  | _, b :: h, [] => b :: h
def merge (ids : List Nat) (h new : Heap) : Heap := mergeFrom ids 0 h new

structure Rec where
  j : Nat
  names : List Nat
  dst : Option Nat
  ids : List Nat
  ws : List Nat
  lo : Nat
  hi : Nat
  outs : List Nat := []

def tmpsOf (xs : List Operand) : List Nat := xs.filterMap fun x => match x with
  | .tmp t => some t
  | _ => none
def guardTmp (all : List Oper) (g : Option (Nat × Bool)) : List Nat :=
  match g with
  | none => []
  | some (j, _) => match all[j]? with
    | some o => o.dst.toList
    | none => []
def namesOf (all : List Oper) (o : Oper) : List Nat := tmpsOf o.op.operands.toList ++ guardTmp all o.guard

/-- For each operation those ahead of it, by the edges, as bits. -/
def ancOf (acc : List Nat) : List Edge → Nat
  | [] => 0
  | e :: es => (bif Region.binds .any e then (1 <<< e.on) ||| acc.getD e.on 0 else 0) ||| ancOf acc es
def ancs : List Oper → List Nat → List Nat
  | [], acc => acc
  | o :: os, acc => ancs os (acc ++ [ancOf acc o.after.toList])
/-- Every edge leads back. -/
def backB : List Oper → Nat → Bool
  | [], _ => true
  | o :: os, n => (o.after.toList.all fun e => !Region.binds .any e || Nat.blt e.on n) && backB os (n + 1)

def optMem (d : Option Nat) (l : List Nat) : Bool := match d with
  | some d => mem d l
  | none => false
def optSame (a b : Option Nat) : Bool := match a, b with
  | some a, some b => Nat.beq a b
  | _, _ => false
/-- Two operations, a ahead of b in the text, that no edge orders: do they leave each other alone? -/
def apart (a b : Rec) : Bool :=
  !(optMem a.dst b.names) && !(optMem b.dst a.names) && !(optSame a.dst b.dst) && !(meets a.ws b.ids) && !(meets a.ids b.ws) &&
  b.ids.all (fun id => !(Nat.ble a.lo id && Nat.blt id a.hi))
def apartAll (an : Nat) (b : Rec) : List Rec → Bool
  | [] => true
  | a :: l => (Nat.testBit an a.j || apart a b) && apartAll an b l
def drawOk (an : List Nat) : List Rec → Bool
  | [] => true
  | b :: l => apartAll (an.getD b.j 0) b l && drawOk an l     -- the rows: last first

/-! ### values made plain: for the kernel's sake (each of these is its argument handed on) -/
def forceNat (n : Nat) (K : Nat → Option R) : Option R := match n with
  | 0 => K 0
  | m + 1 => K (Nat.succ m)
def forceInt (n : Int) (K : Int → Option R) : Option R := match n with
  | .ofNat m => forceNat m fun m => K (.ofNat m)
  | .negSucc m => forceNat m fun m => K (.negSucc m)
def forceBool (b : Bool) (K : Bool → Option R) : Option R := match b with
  | true => K true
  | false => K false
def forceLs {α : Type} (p : α → (α → Option R) → Option R) : List α → (List α → Option R) → Option R
  | [], K => K []
  | x :: l, K => p x fun x => forceLs p l fun l => K (x :: l)
mutual
def CTy.force : (c : CTy) → c.den → (c.den → Option R) → Option R
  | .int _, n, K => forceInt n K
  | .bool, b, K => forceBool b K
  | .str, l, K => forceLs forceInt l K
  | .slice r, l, K => forceLs (fun x k => Row.force r x k) l K
def Row.force : (r : Row) → r.den → (r.den → Option R) → Option R
  | .one c, x, K => CTy.force c x K
  | .cons c r, x, K => CTy.force c x.1 fun a => Row.force r x.2 fun b => K (a, b)
end
mutual
def AV.force : AV → (AV → Option R) → Option R
  | .bool b, K => forceBool b fun b => K (.bool b)
  | .int k n, K => forceInt n fun n => K (.int k n)
  | .str l, K => forceLs forceInt l fun l => K (.str l)
  | .own i, K => forceNat i fun i => K (.own i)
  | .mapv i, K => forceNat i fun i => K (.mapv i)
  | .msl i o n, K => forceNat i fun i => forceNat o fun o => forceNat n fun n => K (.msl i o n)
  | .ptr i o, K => forceNat i fun i => forceNat o fun o => K (.ptr i o)
  | .eptr i x o, K => forceNat i fun i => forceNat x fun x => forceNat o fun o => K (.eptr i x o)
  | .agg cs, K => forceAVs cs fun cs => K (.agg cs)
  | .tup cs, K => forceAVs cs fun cs => K (.tup cs)
  | .rptr cs, K => forceAVs cs fun cs => K (.rptr cs)
  | .fn f cs, K => forceAVs cs fun cs => K (.fn f cs)
  | v, K => K v
def forceAVs : List AV → (List AV → Option R) → Option R
  | [], K => K []
  | v :: vs, K => AV.force v fun v => forceAVs vs fun vs => K (v :: vs)
end
def Blk.force : Blk → (Blk → Option R) → Option R
  | .var t cs, K => forceAVs cs fun cs => K (.var t cs)
  | .arr e r l, K => forceLs (fun x k => Row.force r x k) l fun l => K (.arr e r l)
  | .map ka r c l, K => forceLs (fun x k => Row.force r x.1 fun a => CTy.force c x.2 fun b => k (a, b)) l fun l => K (.map ka r c l)
  | b, K => K b
def tsetK : List AV → Nat → AV → (List AV → Option R) → Option R
  | [], _, _, K => K []
  | _ :: t, 0, v, K => K (v :: t)
  | a :: t, n + 1, v, K => tsetK t n v fun t => K (a :: t)
def tputK (T : List AV) (d : Option Nat) (v : AV) (K : List AV → Option R) : Option R := match d with
  | some d => tsetK T d v K
  | none => K T
def forceAt (ids : List Nat) : Nat → Heap → (Heap → Option R) → Option R
  | _, [], K => K []
  | n, b :: h, K => forceAt ids (n + 1) h fun h => match b with
    | none => K (none :: h)
    | some b => bif mem n ids then Blk.force b fun b => K (some b :: h) else K (some b :: h)
def forceOp (T : List AV) (h : Heap) (o : Oper) (K : Heap → Option R) : Option R :=
  match o.op with
  | .alloc _ | .box .. | .store .. | .buildSlice .. | .makeSlice .. | .makeMap .. | .insert .. | .mapUpdate .. => forceAt ((h.length - 1) :: o.op.operands.toList.flatMap fun x => (ev T x).refs) 0 h K
  | .call c => match c.callee with
    | .builtin .len => K h
    | .builtin _ => forceAt ((h.length - 1) :: o.op.operands.toList.flatMap fun x => (ev T x).refs) 0 h K
    | _ => K h
  | _ => K h
def AV.forceL (v : AV) (K : AV → Option R) : Option R := match v with
  | .list r l nn => forceLs (fun x k => Row.force r x k) l fun l => K (.list r l nn)
  | v => AV.force v K
def forceV (o : Oper) (v : AV) (K : AV → Option R) : Option R := match o.op with
  | .buildSlice .. => AV.forceL v K
  | .slice .. => AV.forceL v K
  | .convert .. => AV.forceL v K
  | _ => AV.force v K
/-- Behind an operation. -/
def goOn (E : Env) (s : St) (o : Oper) (v : AV) (h : Heap) (K : St → Option R) : Option R :=
  bif E.frc then (forceV o v fun v => tputK s.T o.dst v fun T => forceOp s.T h o fun h => K ⟨T, h⟩) else tputK s.T o.dst v fun T => K ⟨T, h⟩
/-- Made plain, unless the run is over letters. -/
def frcAV (E : Env) (v : AV) (K : AV → Option R) : Option R := bif E.frc then AV.force v K else K v
def frcAVs (E : Env) (l : List AV) (K : List AV → Option R) : Option R := bif E.frc then forceAVs l K else K l

theorem forceNat_eq (n : Nat) (K : Nat → Option R) : forceNat n K = K n := by cases n <;> rfl
theorem forceInt_eq (n : Int) (K : Int → Option R) : forceInt n K = K n := by cases n <;> simp only [forceInt, forceNat_eq]
theorem forceBool_eq (b : Bool) (K : Bool → Option R) : forceBool b K = K b := by cases b <;> rfl
theorem forceLs_eq {α : Type} {p : α → (α → Option R) → Option R} (h : ∀ x K, p x K = K x) : (l : List α) → (K : List α → Option R) → forceLs p l K = K l
  | [], K => rfl
  | x :: l, K => by simp only [forceLs, h, forceLs_eq h l]
mutual
theorem CTy.force_eq : (c : CTy) → (x : c.den) → (K : c.den → Option R) → CTy.force c x K = K x
  | .int _, n, K => forceInt_eq n K
  | .bool, b, K => forceBool_eq b K
  | .str, l, K => forceLs_eq forceInt_eq l K
  | .slice r, l, K => forceLs_eq (fun x k => Row.force_eq r x k) l K
theorem Row.force_eq : (r : Row) → (x : r.den) → (K : r.den → Option R) → Row.force r x K = K x
  | .one c, x, K => CTy.force_eq c x K
  | .cons c r, x, K => by simp only [Row.force, CTy.force_eq c, Row.force_eq r]; rfl
end
mutual
theorem AV.force_eq : (v : AV) → (K : AV → Option R) → AV.force v K = K v
  | .any, K | .list _ _ _, K | .nils, K | .zcap, K | .nilptr, K | .iter _, K => rfl
  | .bool b, K => by simp only [AV.force, forceBool_eq]
  | .int k n, K => by simp only [AV.force, forceInt_eq]
  | .str l, K => by simp only [AV.force]; rw [forceLs_eq forceInt_eq]
  | .own i, K => by simp only [AV.force, forceNat_eq]
  | .mapv i, K => by simp only [AV.force, forceNat_eq]
  | .msl i o n, K => by simp only [AV.force, forceNat_eq]
  | .ptr i o, K => by simp only [AV.force, forceNat_eq]
  | .eptr i x o, K => by simp only [AV.force, forceNat_eq]
  | .agg cs, K => by simp only [AV.force, forceAVs_eq cs]
  | .tup cs, K => by simp only [AV.force, forceAVs_eq cs]
  | .rptr cs, K => by simp only [AV.force, forceAVs_eq cs]
  | .fn f cs, K => by simp only [AV.force, forceAVs_eq cs]
theorem forceAVs_eq : (vs : List AV) → (K : List AV → Option R) → forceAVs vs K = K vs
  | [], K => rfl
  | v :: vs, K => by simp only [forceAVs, AV.force_eq v, forceAVs_eq vs]
end
theorem Blk.force_eq (b : Blk) (K : Blk → Option R) : Blk.force b K = K b := by
  cases b with
  | var t cs => simp only [Blk.force, forceAVs_eq]
  | arr e r l => simp only [Blk.force]; rw [forceLs_eq fun x k => Row.force_eq r x k]
  | siter l p => rfl
  | map ka r c l =>
    simp only [Blk.force]
    rw [forceLs_eq fun x k => by rw [Row.force_eq, CTy.force_eq]]
theorem tsetK_eq : (T : List AV) → (i : Nat) → (v : AV) → (K : List AV → Option R) → tsetK T i v K = K (tset T i v)
  | [], _, _, K => rfl
  | _ :: t, 0, v, K => rfl
  | a :: t, n + 1, v, K => by simp only [tsetK, tset, tsetK_eq t]
theorem tputK_eq (T : List AV) (d : Option Nat) (v : AV) (K : List AV → Option R) : tputK T d v K = K (tput T d v) := by
  cases d with
  | none => rfl
  | some d => exact tsetK_eq T d v K
theorem forceAt_eq (ids : List Nat) : (n : Nat) → (h : Heap) → (K : Heap → Option R) → forceAt ids n h K = K h
  | _, [], K => rfl
  | n, b :: h, K => by
    simp only [forceAt, forceAt_eq ids (n + 1) h]
    cases b with
    | none => rfl
    | some b => cases mem n ids <;> simp only [cond_true, cond_false, Blk.force_eq]
theorem forceOp_eq (T : List AV) (h : Heap) (o : Oper) (K : Heap → Option R) : forceOp T h o K = K h := by
  unfold forceOp
  repeat' split
  all_goals first | rfl | exact forceAt_eq _ _ _ _
theorem AV.forceL_eq (v : AV) (K : AV → Option R) : AV.forceL v K = K v := by
  unfold AV.forceL
  split
  · rw [forceLs_eq fun x k => Row.force_eq _ x k]
  · exact AV.force_eq _ K
theorem forceV_eq (o : Oper) (v : AV) (K : AV → Option R) : forceV o v K = K v := by
  unfold forceV
  split <;> first | exact AV.forceL_eq v K | exact AV.force_eq v K
theorem goOn_eq (E : Env) (s : St) (o : Oper) (v : AV) (h : Heap) (K : St → Option R) : goOn E s o v h K = K ⟨tput s.T o.dst v, h⟩ := by
  unfold goOn
  cases E.frc <;> simp only [cond_true, cond_false, forceV_eq, tputK_eq, forceOp_eq]
theorem frcAV_eq (E : Env) (v : AV) (K : AV → Option R) : frcAV E v K = K v := by
  unfold frcAV
  cases E.frc <;> simp only [cond_true, cond_false, AV.force_eq]
theorem frcAVs_eq (E : Env) (l : List AV) (K : List AV → Option R) : frcAVs E l K = K l := by
  unfold frcAVs
  cases E.frc <;> simp only [cond_true, cond_false, forceAVs_eq]

/-! ### what a call leaves behind: its own blocks that nothing leads to go, the others move down -/
mutual
def AV.ren (g : Nat → Option Nat) : AV → Option AV
  | .own i => match g i with
    | some j => some (.own j)
    | none => none
  | .msl i o n => match g i with
    | some j => some (.msl j o n)
    | none => none
  | .ptr i o => match g i with
    | some j => some (.ptr j o)
    | none => none
  | .eptr i x o => match g i with
    | some j => some (.eptr j x o)
    | none => none
  | .iter i => match g i with
    | some j => some (.iter j)
    | none => none
  | .mapv i => match g i with
    | some j => some (.mapv j)
    | none => none
  | .agg cs => match renL g cs with
    | some cs => some (.agg cs)
    | none => none
  | .tup cs => match renL g cs with
    | some cs => some (.tup cs)
    | none => none
  | .rptr cs => match renL g cs with
    | some cs => some (.rptr cs)
    | none => none
  | .fn f cs => match renL g cs with
    | some cs => some (.fn f cs)
    | none => none
  | v => some v
def renL (g : Nat → Option Nat) : List AV → Option (List AV)
  | [] => some []
  | v :: vs => match v.ren g with
    | some v => match renL g vs with
      | some vs => some (v :: vs)
      | none => none
    | none => none
end
def Blk.ren (g : Nat → Option Nat) : Blk → Option Blk
  | .var t cs => match renL g cs with
    | some cs => some (.var t cs)
    | none => none
  | b => some b
def renIdK (g : Nat → Option Nat) (i : Nat) (K : Nat → Option R) : Option R := match g i with
  | some j => forceNat j K
  | none => none
mutual
def AV.renK (g : Nat → Option Nat) : AV → (AV → Option R) → Option R
  | .own i, K => renIdK g i fun j => K (.own j)
  | .msl i o n, K => renIdK g i fun j => K (.msl j o n)
  | .ptr i o, K => renIdK g i fun j => K (.ptr j o)
  | .eptr i x o, K => renIdK g i fun j => K (.eptr j x o)
  | .iter i, K => renIdK g i fun j => K (.iter j)
  | .mapv i, K => renIdK g i fun j => K (.mapv j)
  | .agg cs, K => renLK g cs fun cs => K (.agg cs)
  | .tup cs, K => renLK g cs fun cs => K (.tup cs)
  | .rptr cs, K => renLK g cs fun cs => K (.rptr cs)
  | .fn f cs, K => renLK g cs fun cs => K (.fn f cs)
  | v, K => K v
def renLK (g : Nat → Option Nat) : List AV → (List AV → Option R) → Option R
  | [], K => K []
  | v :: vs, K => v.renK g fun v => renLK g vs fun vs => K (v :: vs)
end
def heapRenK (g : Nat → Option Nat) : Heap → (Heap → Option R) → Option R
  | [], K => K []
  | b :: h, K => match b with
    | none => heapRenK g h fun h => K (none :: h)
    | some (.var t cs) => renLK g cs fun cs => heapRenK g h fun h => K (some (.var t cs) :: h)
    | some b => heapRenK g h fun h => K (some b :: h)
def selIds (ids : List Nat) : Nat → Nat → List Nat
  | _, 0 => []
  | n, k + 1 => bif mem n ids then n :: selIds ids (n + 1) k else selIds ids (n + 1) k
def posOf : List Nat → Nat → Nat → Option Nat
  | [], _, _ => none
  | k :: ks, n, i => bif Nat.beq k i then some n else posOf ks (n + 1) i
def rho (L : Nat) (ks : List Nat) (i : Nat) : Option Nat := bif Nat.blt i L then some i else posOf ks L i
def newIds (L : Nat) (l : List Nat) : List Nat := l.filter fun x => Nat.ble L x
def closeIds (L : Nat) (h : Heap) : Nat → List Nat → List Nat → List Nat
  | 0, acc, _ => acc
  | n + 1, acc, l => match (newIds L (l.flatMap (blkRefs h))).filter fun x => !mem x acc with
    | [] => acc
    | m => closeIds L h n (m ++ acc) m
def reach (L : Nat) (h : Heap) (v : AV) : List Nat :=
  let r := newIds L (v.refs ++ heapRefs (h.take L))
  closeIds L h 8 r r
def gcK (L : Nat) (v : AV) (h : Heap) (K : AV → Heap → Option R) : Option R :=
  bif Nat.ble h.length L then K v h else
    forceLs forceNat (selIds (reach L h v) L (h.length - L)) fun ks =>
    v.renK (rho L ks) fun v => heapRenK (rho L ks) (h.take L ++ ks.map (hget h)) fun h => K v h

def runOps (E : Env) (f : FuncId) (call : CallF R) (all : List Oper) : List Oper → St → (St → Option R) → Option R
  | [], s, K => K s
  | o :: rest, s, K =>
    match o.guard with
    | none => step E f call s.T s.h o fun v h => goOn E s o v h fun s => runOps E f call all rest s K
    | some (j, want) => match all[j]? with
      | some oj => match oj.dst with
        | some g => match tget s.T g with
          | .bool b =>
            let yes (T : List AV) : Option R := step E f call T s.h o fun v h => goOn E ⟨T, s.h⟩ o v h fun s => runOps E f call all rest s K
            let no (T : List AV) : Option R := runOps E f call all rest ⟨tput T o.dst (.tup []), s.h⟩ K
            bif b then (bif want then yes (tset s.T g (.bool true)) else no (tset s.T g (.bool true))) else (bif want then no (tset s.T g (.bool false)) else yes (tset s.T g (.bool false)))
          | .tup _ => runOps E f call all rest ⟨tput s.T o.dst (.tup []), s.h⟩ K
          | _ => none
        | none => none
      | none => none

def opRefs (T : List AV) (o : Oper) : List Nat := o.op.operands.toList.flatMap fun x => (ev T x).refs
/-- Which of the blocks that an operation touches it has changed. -/
def wrote (kp cmp : Bool) (C : List Nat) (h h' : Heap) (K : List Nat → Option R) : Option R :=
  bif kp then K [] else bif cmp then K (C.filter fun id => !optEqB (hget h' id) (hget h id)) else K C
def inside (C : List Nat) (L L' id : Nat) : Bool := Nat.blt id L' && (Nat.ble L id || mem id C)
def drawnStep (E : Env) (f : FuncId) (call : CallF R) (names : List Nat) (n : Nat) (T : List AV) (h : Heap) (o : Oper) (C : List Nat) (K : Rec → AV → Heap → Option R) : Option R :=
  forceLs forceNat C fun C => forceAt [] 0 (mask C h) fun M =>
  bif C.all (fun id => Nat.blt id h.length) && (opRefs T o).all (fun id => mem id C) && (heapRefs M).all (fun id => mem id C) then
    step E f call T M o fun v h' => forceAt [] 0 h' fun h' => frcAV E v fun v =>
      bif Nat.ble h.length h'.length && v.refs.all (inside C h.length h'.length) && (heapRefs h').all (inside C h.length h'.length) then
        wrote (keeps E T o.op) E.cmp C M h' fun W => forceLs forceNat W fun W => forceAt [] 0 (merge W h h') fun h2 => K ⟨n, names, o.dst, C, W, h.length, h'.length, []⟩ v h2
      else none
  else none
def runDrawn (E : Env) (f : FuncId) (call : CallF R) (all : List Oper) (an : List Nat) : Nat → List Oper → St → List Rec → (St → Option R) → Option R
  | _, [], s, rs, K => bif drawOk an rs then K s else none
  | n, o :: rest, s, rs, K =>
    let go (T : List AV) : Option R := drawnStep E f call (namesOf all o) n T s.h o (closure s.h 3 (opRefs T o)) fun r v h => goOn E ⟨T, s.h⟩ o v h fun s => runDrawn E f call all an (n + 1) rest s (r :: rs) K
    let no (T : List AV) : Option R := runDrawn E f call all an (n + 1) rest ⟨tput T o.dst (.tup []), s.h⟩ (⟨n, namesOf all o, o.dst, [], [], s.h.length, s.h.length, []⟩ :: rs) K
    match o.guard with
    | none => go s.T
    | some (j, want) => match all[j]? with
      | some oj => match oj.dst with
        | some g => match tget s.T g with
          | .bool b => bif b then (bif want then go (tset s.T g (.bool true)) else no (tset s.T g (.bool true))) else (bif want then no (tset s.T g (.bool false)) else go (tset s.T g (.bool false)))
          | .tup _ => no s.T
          | _ => none
        | none => none
      | none => none

def firstRegion : Code → Option Nat
  | .region id _ _ => some id
  | .seq a b => match firstRegion a with
    | some n => some n
    | none => firstRegion b
  | .cond _ a b => match firstRegion a with
    | some n => some n
    | none => firstRegion b
  | .block _ a => firstRegion a
  | .loop a => firstRegion a
  | .scope a => firstRegion a
  | _ => none

def iter (body : St → (Ex → St → Option R) → Option R) (K : Ex → St → Option R) : Nat → St → Option R
  | 0, _ => none
  | n + 1, s => body s fun e s' => match e with
    | .normal => iter body K n s'
    | .exit id => K (.exit id) s'
    | .ret => K .ret s'

def refine (T : List AV) (c : Operand) (b : Bool) : List AV := match c with
  | .tmp t => tset T t (.bool b)
  | _ => T

def exec (E : Env) (f : FuncId) (call : CallF R) : Code → St → (Ex → St → Option R) → Option R
  | .skip, s, K => K .normal s
  | .region _ ops draw, s, K => bif draw then (bif E.drawn && backB ops.toList 0 then runDrawn E f call ops.toList (ancs ops.toList []) 0 ops.toList s [] (K .normal) else none) else runOps E f call ops.toList ops.toList s (K .normal)
  | .seq a b, s, K => exec E f call a s fun e s' => match e with
    | .normal => exec E f call b s' K
    | .exit id => K (.exit id) s'
    | .ret => K .ret s'
  | .cond c a b, s, K => match ev s.T c with
    | .bool x => bif x then exec E f call a ⟨refine s.T c true, s.h⟩ K else exec E f call b ⟨refine s.T c false, s.h⟩ K
    | _ => none
  | .block id a, s, K => exec E f call a s fun e s' => match e with
    | .exit j => bif Nat.beq j id then K .normal s' else K (.exit j) s'
    | .normal => K .normal s'
    | .ret => K .ret s'
  | .loop a, s, K => match (match firstRegion a with
      | some n => E.loop R f n
      | none => none) with
    | some H => H s K
    | none => iter (exec E f call a) K E.fuel s
  | .exit id, s, K => K (.exit id) s
  | .label _, s, K => K .normal s
  | .ret, s, K => K .ret s
  | _, _, _ => none

def outOf (E : Env) (s : St) : List ResultVar → Option (List AV)
  | [] => some []
  | .tmp t :: rs => match outOf E s rs with
    | some vs => some (tget s.T t :: vs)
    | none => none
  | .cell a t :: rs => match tyFind E.tab t with
    | some ti => match loadAt s.h ti (tget s.T a), outOf E s rs with
      | some v, some vs => some (v :: vs)
      | _, _ => none
    | none => none
def resultA (vs : List AV) : AV := match vs with
  | [v] => v
  | vs => .tup vs

def acall (E : Env) : Nat → CallF R
  | 0, _, _, _, _ => none
  | n + 1, f, args, h, K => match E.call R f with
    | some H => H args h K
    | none => match E.fn f with
      | none => none
      | some fn => match fn.body with
        | none => none
        | some c => frcAVs E (args ++ List.replicate (fn.ntmps - args.length) .any) fun T => exec E f (acall E n) c ⟨T, h⟩ fun e s => match e with
          | .exit _ => none
          | _ => match outOf E s fn.results.toList with
            | some vs => frcAV E (resultA vs) fun v => gcK h.length v s.h K
            | none => none

end Go.Proofs.YtklfdmnmiadgpaaAbs
