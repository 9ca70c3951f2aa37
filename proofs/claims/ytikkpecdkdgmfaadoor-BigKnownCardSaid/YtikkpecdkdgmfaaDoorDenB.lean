/- DEN, part B: the deterministic reading of the loaded code: operations, regions, control, calls. Nothing is proved here. -/
import Derived.Test.YtikkpecdkdgmfaaDoorDenA
namespace Go.Den

/-- A call: the function, its arguments, the small heap, and what goes on with the result. -/
abbrev CallFn := (R : Type) → FuncId → List AV → Heap → (AV → Heap → Option R) → Option R

def withV {R : Type} (x : Option AV) (k : AV → Option R) : Option R :=
  match x with
  | some v => k v
  | none => none

def evals (E : Env) (st : St) : List Operand → Option (List AV)
  | [] => some []
  | x :: xs => match st.eval E x with
    | some v => match evals E st xs with
      | some vs => some (v :: vs)
      | none => none
    | none => none

def parts (E : Env) (st : St) (place : Nat → Option (Nat × Nat)) : List (Nat × Operand) → Option (List (Nat × Nat × AV))
  | [] => some []
  | (i, x) :: ps => match place i, st.eval E x with
    | some (off, sz), some v => match parts E st place ps with
      | some r => some ((off, sz, v) :: r)
      | none => none
    | _, _ => none

def fieldPlaces (E : Env) : List Field → Option (List (Nat × Nat))
  | [] => some []
  | f :: fs => match E.size f.type with
    | some s => match fieldPlaces E fs with
      | some r => some ((f.offset, s) :: r)
      | none => none
    | none => none

/-- Where the parts of a struct, of an array, lie, and their sizes. -/
def places (E : Env) (t : TypeId) : Option (Nat → Option (Nat × Nat)) :=
  match E.P.underlying t with
  | some (.struct fs) => match fieldPlaces E fs.toList with
    | some l => some fun i => l[i]?
    | none => none
  | some (.array _ e) => match E.size e with
    | some s => some fun i => some (i * s, s)
    | none => none
  | _ => none

/-- Where a field lies that is not empty. -/
def Env.fieldOff (E : Env) (t : TypeId) (i : Nat) : Option Nat :=
  match E.fieldOf t i with
  | some f => match E.size f.type with
    | some (_ + 1) => some f.offset
    | _ => none
  | none => none

def zeroCellsOf (E : Env) (t : TypeId) : Option (List AV) :=
  match E.zero t with
  | some z => bif z.isDef then some z.cells else none
  | none => none

/-- Values as memory that does not change. -/
def freezeAll (H : Heap) : List AV → Option (List AV)
  | [] => some []
  | v :: vs => match A.freezeB true 64 H v with
    | some x => match freezeAll H vs with
      | some r => some (x :: r)
      | none => none
    | none => none

/-- The objects that a value leads to. -/
def reach : Nat → Heap → AV → List Nat
  | 0, _, _ => []
  | n + 1, H, v => match v with
    | .ptr id _ _ _ | .sl id _ _ _ _ => id :: (match H[id]? with
      | some (.row _ _ _ es) => es.flatMap fun e => e.cells.flatMap (reach n H)
      | _ => [])
    | .agg cs | .tup cs => cs.flatMap (reach n H)
    | .fn _ a b => a.flatMap (reach n H) ++ b.flatMap (reach n H)
    | .iface _ x => reach n H x
    | _ => []

def kill (ids : List Nat) (H : Heap) : Heap := ids.foldl (fun H i => H.set i .dead) H

/-- A function on values that do not change, where it is called: what was handed in out of the small heap is no more to be used, if the result may lead to it. -/
def pureF (F : List AV → Option AV) (args : List AV) (H : Heap) : Option (AV × Heap) :=
  match freezeAll H args with
  | some as => match F as with
    | some v => some (v, bif v.flat then H else kill (args.flatMap (reach 64 H)) H)
    | none => none
  | none => none

def callK (E : Env) (cf : CallFn) {R : Type} (f : FuncId) (args : List AV) (H : Heap) (k : AV → Heap → Option R) : Option R :=
  match E.pol f with
  | .plain => cf R f args H k
  | .prim F => match F args H with
    | some p => k p.1 p.2
    | none => none
  | .still F => match pureF F args H with
    | some p => k p.1 p.2
    | none => none

/-- A call that asks for nothing of the small heap and leaves it alone. -/
def callQ (E : Env) {R : Type} (f : FuncId) (args : List AV) (H : Heap) (k : AV → Heap → Option R) : Option R :=
  match E.pol f with
  | .still F => bif args.all AV.imm then match F args with
    | some v => k v H
    | none => none
    else none
  | _ => none

/-- A call of a function value. -/
def callV (E : Env) (cf : CallFn) {R : Type} (f : AV) (args : List AV) (H : Heap) (k : AV → Heap → Option R) : Option R :=
  match f with
  | .fn (.func g) first captured => callK E cf g (first ++ args ++ captured) H k
  | _ => none

def newsOf (E : Env) (sz : Nat) (tx : TypeId) (x : AV) (H : Heap) : Option (List AV) :=
  match E.P.underlying tx with
  | some .string => match x with
    | .str l => bif decide (sz = 1) then some (A.strElems l) else none
    | _ => none
  | some (.slice _) => A.read sz x H
  | _ => none

def builtinK (E : Env) {R : Type} (b : Builtin) (ts : List TypeId) (args : List AV) (H : Heap) (k : AV → Heap → Option R) : Option R :=
  match b, ts, args with
  | .len, [t], [x] => match E.P.underlying t with
    | some .string => withV (A.lenStr x) fun v => k v H
    | some (.slice _) => withV (A.len x H) fun v => k v H
    | _ => none
  | .max, _, x :: xs => withV (xs.foldlM A.maxv x) fun v => k v H
  | .min, _, x :: xs => withV (xs.foldlM A.minv x) fun v => k v H
  | .append, [t, tx], [s, x] => match E.elem t with
    | some e => match E.size e, E.bytes e, E.zero e with
      | some sz, some by_, some z => bif decide (z.cells.length = sz) && decide (0 < sz) then
        match newsOf E sz tx x H with
        | some news => match A.append sz by_ e s news H with
          | some (v, H') => k v H'
          | none => none
        | none => none
        else none
      | _, _, _ => none
    | none => none
  | .clear, [t], [d] => match E.elem t with
    | some e => match E.size e, E.zero e with
      | some sz, some z => bif decide (z.cells.length = sz) then match A.clear sz z d H with
        | some (v, H') => k v H'
        | none => none
        else none
      | _, _ => none
    | none => none
  | .copy, [t, tx], [d, x] => match E.elem t with
    | some e => match E.size e with
      | some sz => match newsOf E sz tx x H with
        | some [] => bif A.isSl d H then k (.int .i64 0) H else none
        | _ => none
      | none => none
    | none => none
  | .cap, [t], [.nils] => match E.P.underlying t with
    | some (.slice _) => k (.int .i64 0) H
    | _ => none
  | .unsafeSliceData, [_], [s] => withV (A.sliceData s H) fun v => k v H
  | .unsafeString, [pt, _], [p, n] => match E.P.underlying pt with
    | some (.pointer e) => bif Nat.beq (E.P.cellsOf e) 1 then match A.unsafeStr e p n H with
      | some (v, H') => k v H'
      | none => none
      else none
    | _ => none
  | _, _, _ => none

/-- Conversions. -/
def convert (E : Env) (src dst : TypeId) (x : AV) : Option AV :=
  match E.P.underlying src, E.P.underlying dst, x with
  | some _, some (.int k), .int _ n => some (.int k (k.wrap n))
  | some _, some .string, .str l => some (.str l)
  | some _, some .string, .int _ n => some (.str (Utf8.encode n).data.toList)
  | _, _, _ => none

/-- Pointers to and from unsafe.Pointer; bytes and signs to a text. -/
def convH (E : Env) (src dst : TypeId) (x : AV) (H : Heap) : Option AV :=
  match E.P.underlying src, E.P.underlying dst with
  | some (.pointer t), some .unsafePointer => match x with
    | .ptr id ver i off => match H[id]?, E.P.info? t with
      | some (.row w sz _ es), some info => bif Nat.beq w ver && decide (info.size ≠ 0) && decide (i < es.length) && decide (off < sz) then some (.ptr id ver i off) else none
      | _, _ => none
    | _ => none
  | some .unsafePointer, some (.pointer t) => match x with
    | .ptr id ver i 0 => match H[id]?, E.P.info? t with
      | some (.row w sz ty es), some info => bif Nat.beq w ver && Nat.beq ty t && decide (i < es.length) && Nat.beq sz (E.P.cellsOf t) && Nat.beq info.size sz then some (.ptr id ver i 0) else none
      | _, _ => none
    | _ => none
  | some (.slice e), some .string => match E.P.underlying e with
    | some (.int .u8) => match A.read 1 x H with
      | some es => (A.bytes8 es).map .str
      | none => none
    | some (.int .i32) => match A.read 1 x H with
      | some es => (A.runes32 es).map fun ns => .str (ns.flatMap fun n => (Utf8.encode n).data.toList)
      | none => none
    | _ => none
  | _, _ => none

/-- A text as a new slice of bytes. -/
def convN (E : Env) (src dst : TypeId) (x : AV) (H : Heap) : Option (AV × Heap) :=
  match E.P.underlying src, E.P.underlying dst with
  | some .string, some (.slice e) => match E.P.underlying e with
    | some (.int .u8) => match x with
      | .str l => bif decide (l.length ≤ 140737488355328) then some (A.newRow 1 e (A.strElems l) H) else none
      | _ => none
    | _ => none
  | _, _ => none

/-- Conversions that read or make memory. -/
def convertK (E : Env) {R : Type} (src dst : TypeId) (x : AV) (H : Heap) (k : AV → Heap → Option R) : Option R :=
  match convert E src dst x with
  | some v => k v H
  | none => match convH E src dst x H with
    | some v => k v H
    | none => match convN E src dst x H with
      | some p => k p.1 p.2
      | none => none

/-- A variable of the frame's own is laid: none may stand at its place. -/
def layK {R : Type} (s : Nat) (cs : List AV) (st : St) (H : Heap) (k : SV → St → Heap → Option R) : Option R :=
  match st.var s with
  | none => match (st.setVar s cs).var s with
    | some _ => k (.lp s 0) (st.setVar s cs) H
    | none => none
  | some _ => none

/-- One operation. 'site': this operation lays a variable of the frame's own, at that place; is a call that leaves the small heap alone. -/
def opK (E : Env) (cf : CallFn) {R : Type} (site : Option Nat) (o : Oper) (st : St) (H : Heap) (k : SV → St → Heap → Option R) : Option R :=
  let v (x : Option AV) : Option R := withV x fun v => k (.val v) st H
  match o.op with
  | .move x | .assign x => match x with
    | .tmp t => match st.get t with
      | .val w => k (.val w) st H
      | .lp s off => k (.lp s off) st H
      | .no => none
    | x => v (st.eval E x)
  | .pick c a b => match st.eval E c, st.eval E a, st.eval E b with
    | some c, some a, some b => v (A.pick c a b)
    | _, _, _ => none
  | .alloc t => match E.zero t, E.size t with
    | some z, some sz => match site with
      | some s => bif z.cells.length == sz && decide (0 < sz) then layK s z.cells st H k else none
      | none => bif z.cells.length == sz && decide (0 < sz) then (let r := A.newBox sz t z H; k (.val r.1) st r.2) else none
    | _, _ => none
  | .box t x => match st.eval E x, E.size t with
    | some x, some sz => match site with
      | some s => bif x.cells.length == sz && x.isDef && decide (0 < sz) then layK s x.cells st H k else none
      | none => bif x.cells.length == sz && x.isDef && decide (0 < sz) then (let r := A.newBox sz t x H; k (.val r.1) st r.2) else none
    | _, _ => none
  | .build t ps => match zeroCellsOf E t, places E t with
    | some z, some pl => match parts E st pl ps.toList with
      | some l => v ((A.fill z l).map .agg)
      | none => none
    | _, _ => none
  | .buildSlice t n ps => match E.elem t with
    | some e => match E.size e, E.zero e, parts E st (fun i => some (i, 1)) ps.toList with
      | some sz, some z, some l =>
        bif decide (n * sz ≤ 16777216) && decide (0 < sz) && decide (z.cells.length = sz) then
          match A.fillElems sz (List.replicate n z) l with
          | some es => (let r := A.newRow sz e es H; k (.val r.1) st r.2)
          | none => none
        else none
      | _, _, _ => none
    | none => none
  | .load t p => match E.isAgg t, E.size t with
    | some ag, some sz => match p with
      | .tmp q => match st.get q with
        | .lp s off => match st.var s with
          | some cs => v (A.ofList ag sz cs off)
          | none => none
        | .val p => v (A.load ag sz p H)
        | .no => none
      | p => match st.eval E p with
        | some p => v (A.load ag sz p H)
        | none => none
    | _, _ => none
  | .store t p x => match st.eval E x, E.size t with
    | some x, some sz => match p with
      | .tmp q => match st.get q with
        | .lp s off => match st.var s with
          | some cs => bif A.fits sz x && decide (off + x.cells.length ≤ cs.length) then k (.val .undef) (st.setVar s (A.splice cs off x.cells)) H else none
          | none => none
        | .val p => match A.store sz p x H with
          | some H' => k (.val .undef) st H'
          | none => none
        | .no => none
      | _ => none
    | _, _ => none
  | .nilCheck x => match x with
    | .tmp t => match st.get t with
      | .val w => v (A.nilCheck w H)
      | .lp s off => k (.lp s off) st H
      | .no => none
    | _ => none
  | .binOp op t x y _ => match st.eval E x, st.eval E y with
    | some x', some y' => v (A.bin E.P op t x' y' (match y with | .const _ => true | _ => false) H)
    | _, _ => none
  | .unOp op _ x => match st.eval E x with
    | some x => v (A.un op x)
    | none => none
  | .convert s d x => match st.eval E x with
    | some x => convertK E s d x H fun w H' => k (.val w) st H'
    | none => none
  | .makeInterface t x => match st.eval E x, E.P.underlying t with
    | some x, some d => match d with
      | .interface _ => none
      | _ => k (.val (.iface t x)) st H
    | _, _ => none
  | .makeFunc f first captured => match evals E st first.toList, evals E st captured.toList with
    | some a, some b => k (.val (.fn f a b)) st H
    | _, _ => none
  | .makeSlice t l c => match E.elem t with
    | some e => match E.size e, E.bytes e, E.zero e, st.eval E l, st.eval E c with
      | some sz, some by_, some z, some l, some c => bif z.cells.length == sz && decide (0 < sz) then
          match A.makeSlice sz by_ e z l c H with
          | some (w, H') => k (.val w) st H'
          | none => none
        else none
      | _, _, _, _, _ => none
    | none => none
  | .slice t x lo hi mx => match st.eval E x, evals E st lo.toList, evals E st hi.toList, evals E st mx.toList with
    | some x, some l, some h, some m => match E.P.underlying t with
      | some .string => match m with
        | [] => v (A.sliceStr x l.head? h.head?)
        | _ => none
      | some (.slice e) => match E.size e with
        | some sz => bif (m.isEmpty || !h.isEmpty) then v (A.slice sz x l.head? h.head? m.head? H) else none
        | none => none
      | _ => none
    | _, _, _, _ => none
  | .fieldAddr s x i => match E.fieldOff s i with
    | some fo => match x with
      | .tmp t => match st.get t with
        | .lp s off => k (.lp s (off + fo)) st H
        | .val p => v (A.fa fo p H)
        | .no => none
      | x => match st.eval E x with
        | some p => v (A.fa fo p H)
        | none => none
    | none => none
  | .field t x i => match E.fieldOf t i with
    | some f => match E.isAgg f.type, E.size f.type, st.eval E x with
      | some ag, some sz, some x => v (A.field ag sz f.offset x)
      | _, _, _ => none
    | none => none
  | .indexAddr t x i => match st.eval E i with
    | some i => match E.P.underlying t with
      | some (.slice e) => match E.size e, st.eval E x with
        | some sz, some x => v (A.idx sz x i H)
        | _, _ => none
      | some (.array n e) => match E.size e, x with
        | some sz, .tmp q => match st.get q with
          | .lp s off => match i with
            | .int _ j => if 0 ≤ j ∧ j < n then k (.lp s (off + j.toNat * sz)) st H else none
            | _ => none
          | .val p => v (A.idxArr sz n p i H)
          | .no => none
        | some sz, y => match st.eval E y with
          | some p => v (A.idxArr sz n p i H)
          | none => none
        | none, _ => none
      | _ => none
    | none => none
  | .index t x i => match st.eval E x, st.eval E i with
    | some x, some i => match E.P.underlying t with
      | some .string => v (A.index x i)
      | some (.array n e) => match E.isAgg e, E.size e with
        | some ag, some sz => v (A.indexArr ag sz n x i)
        | _, _ => none
      | _ => none
    | _, _ => none
  | .range t x => match E.P.underlying t, st.eval E x with
    | some .string, some (.str l) => k (.val (.it H.length)) st (H ++ [.iter l 0])
    | _, _ => none
  | .next x true => match st.eval E x with
    | some (.it id) => match H[id]? with
      | some (.iter l pos) =>
        if pos < l.length then
          let d := Utf8.decode ⟨l.toArray⟩ pos
          k (.val (.tup [.bool true, .int .i64 pos, .int .i32 d.1])) st (H.set id (.iter l (pos + d.2)))
        else k (.val (.tup [.bool false])) st H
      | _ => none
    | _ => none
  | .typeAssert x _ t ok => match st.eval E x, E.P.underlying t with
    | some (.iface d w), some u => match u with
      | .interface _ => none
      | _ => bif ok then (if d = t then k (.val (.tup [w, .bool true])) st H else match E.zero t with
          | some z => k (.val (.tup [z, .bool false])) st H
          | none => none)
        else (if d = t then k (.val w) st H else none)
    | _, _ => none
  | .extract x i => match st.eval E x with
    | some (.tup vs) => v vs[i]?
    | _ => none
  | .call c => match evals E st c.args.toList with
    | some args => match c.callee with
      | .value f => match site with
        | none => match st.eval E f with
          | some f => callV E cf f args H fun w H' => k (.val w) st H'
          | none => none
        | some _ => match f with
          | .func g => callQ E g args H fun w H' => k (.val w) st H'
          | _ => none
      | .builtin b => builtinK E b c.argTypes.toList args H fun w H' => k (.val w) st H'
      | .invoke r m => match st.eval E r with
        | some (.iface t x) => match (E.P.info? t).bind fun i => i.methods.find? (·.name == m) with
          | some mt => match mt.func, mt.path.toList with
            | some (f, ptr), [] => match E.P.underlying t with
              | some (.pointer _) => bif ptr then callK E cf f (x :: args) H fun w H' => k (.val w) st H' else none
              | some _ => bif ptr then none else callK E cf f (x :: args) H fun w H' => k (.val w) st H'
              | none => none
            | _, _ => none
          | none => none
        | _ => none
    | none => none
  | _ => none

def keepsL (st : St) (o : Oper) : Bool :=
  match o.op with
  | .store _ (.tmp q) _ => match st.get q with
    | .lp .. => false
    | _ => true
  | _ => true

/-- What a guard asks: the outcome of an earlier operation of the region. -/
def guardOf (ops : Array Oper) (st : St) (j : Nat) (want : Bool) : Option Bool :=
  match (ops[j]?).bind (·.dst) with
  | some d => match st.get d with
    | .val v => A.asG want v
    | _ => none
  | none => none

/-- A guarded operation's value: as it is wanted or not. -/
def guarded (b want : Bool) (H : Heap) (x : Option (AV × Heap)) : Option (AV × Heap) :=
  bif b == want then x else some (.tup [], H)

/-- What a guarded operation does: it may lay or write no variable of the frame's own. -/
def guardedK (E : Env) (cf : CallFn) (o : Oper) (st : St) (H : Heap) : Option (AV × Heap) :=
  bif keepsL st o then opK E cf none o st H fun x _ H' => match x with | .val v => some (v, H') | _ => none else none

def siteOf (sites : List (Nat × Nat × Nat)) (rid i : Nat) : Option Nat :=
  match sites with
  | [] => none
  | (r, j, s) :: rest => bif Nat.beq r rid && Nat.beq j i then some s else siteOf rest rid i

def stPut (st : St) (d : Option Tmp) (x : SV) : St :=
  match d with
  | some t => if t < st.N then st.put t x else st
  | none => st

def opsK (E : Env) (cf : CallFn) (sites : List (Nat × Nat × Nat)) (rid : Nat) (ops : Array Oper) {R : Type} : List Oper → Nat → St → Heap → (St → Heap → Option R) → Option R
  | [], _, st, H, k => k st H
  | o :: rest, i, st, H, k =>
    match o.guard with
    | none => opK E cf (siteOf sites rid i) o st H fun x st' H' => opsK E cf sites rid ops rest (i + 1) (stPut st' o.dst x) H' k
    | some (j, want) =>
      match guardOf ops st j want with
      | some b =>
        match guarded b want H (guardedK E cf o st H) with
        | some p => opsK E cf sites rid ops rest (i + 1) (stPut st o.dst (.val p.1)) p.2 k
        | none => none
      | none => none


end Go.Den
