/- DEN, part C: regions of open order, control, calls: the whole reading. Nothing is proved here. -/
import Derived.Test.YtikkpecdkdgmfaaDoorDenB
namespace Go.Den

/-- What the reading of a region of open order tells of an operation: the frame and the small heap ahead of it, its result, the small heap behind it. -/
structure Rec where
  st : St
  H : Heap
  x : SV
  st1 : St
  H1 : Heap

def winOf (i : Nat) : List (Nat × Nat × Nat) → Option (Nat × Nat)
  | [] => none
  | (j, lo, hi) :: r => bif Nat.beq j i then some (lo, hi) else winOf i r

/-- The variable of the frame's own that an operation touches; does it write it? -/
def touchOf (st : St) (site : Option Nat) (o : Oper) : Option (Nat × Bool) :=
  match o.op with
  | .load _ (.tmp q) => match st.get q with
    | .lp s _ => some (s, false)
    | _ => none
  | .store _ (.tmp q) _ => match st.get q with
    | .lp s _ => some (s, true)
    | _ => none
  | .alloc _ | .box _ _ => site.map fun s => (s, true)
  | _ => none

/-- Only an operation without a guard may lay a variable of the frame's own. -/
def siteAt (sites : List (Nat × Nat × Nat)) (rid i : Nat) (o : Oper) : Option Nat :=
  match o.guard with
  | none => siteOf sites rid i
  | some _ => none

def isLoud (E : Env) (site : Option Nat) (o : Oper) : Bool :=
  match o.op with
  | .store .. | .buildSlice .. | .makeSlice .. | .range .. | .next .. | .mapUpdate .. | .insert .. | .makeMap .. => true
  | .alloc _ | .box .. => site.isNone
  | .convert s d _ => match E.P.underlying s, E.P.underlying d with
    | some (.int _), some (.int _) => false
    | some .string, some .string => false
    | some (.int _), some .string => false
    | _, _ => true
  | .call c => match c.callee with
    | .builtin b => match b with
      | .len | .max | .min => false
      | _ => true
    | .value _ => site.isNone
    | _ => true
  | _ => false

/-- May its result hang on the small heap? -/
def reads (o : Oper) : Bool :=
  match o.op with
  | .load .. | .nilCheck _ | .fieldAddr .. | .indexAddr .. | .slice .. | .binOp .. => true
  | .call c => match c.callee with
    | .builtin _ => true
    | _ => false
  | _ => false

def AV.heapy (v : AV) : Bool := !v.imm

def heapy (st : St) (o : Oper) : Bool :=
  o.op.operands.toList.any fun y => match y with
    | .tmp t => match st.get t with
      | .val v => v.heapy
      | _ => false
    | _ => false

/-- Is it done at all? -/
def acts (ops : Array Oper) (st : St) (o : Oper) : Bool :=
  match o.guard with
  | none => true
  | some (j, want) => match guardOf ops st j want with
    | some b => b == want
    | none => true

def noCalls : CallFn := fun _ _ _ _ _ => none

/-- In this version of the small heap its result is the same. -/
def sameAt (E : Env) (o : Oper) (r : Rec) (G : Heap) : Bool :=
  match opK E noCalls none o r.st G (fun x _ _ => some x) with
  | some (.val w) => match r.x with
    | .val v => AV.beq v w
    | _ => false
  | _ => false

def allOk (ok : Heap → Bool) : Nat → List Heap → Bool
  | 0, _ => true
  | _ + 1, [] => true
  | n + 1, G :: r => ok G && allOk ok n r

def dropK {α : Type} : Nat → List α → List α
  | 0, l => l
  | _ + 1, [] => []
  | n + 1, _ :: l => dropK n l

/-- The versions of the small heap, behind each loud operation. -/
def versOf (E : Env) (sites : List (Nat × Nat × Nat)) (rid : Nat) : List Oper → Nat → List Rec → List Heap
  | o :: os, i, r :: rs => bif isLoud E (siteAt sites rid i o) o then r.H1 :: versOf E sites rid os (i + 1) rs else versOf E sites rid os (i + 1) rs
  | _, _, _ => []

def winsOk (E : Env) (sites : List (Nat × Nat × Nat)) (wins : List (Nat × Nat × Nat)) (rid : Nat) (ops : Array Oper) (vers : List Heap) : List Oper → Nat → List Rec → Bool
  | o :: os, i, r :: rs =>
    (match winOf i wins with
      | some (lo, hi) => bif !isLoud E (siteAt sites rid i o) o && reads o && heapy r.st o && acts ops r.st o then allOk (sameAt E o r) (hi - lo + 1) (dropK lo vers) else true
      | none => true) && winsOk E sites wins rid ops vers os (i + 1) rs
  | _, _, _ => true

/-- The variables that are touched. -/
def touches (sites : List (Nat × Nat × Nat)) (rid : Nat) : List Oper → Nat → List Rec → List (Nat × Nat × Bool)
  | o :: os, i, r :: rs => match touchOf r.st (siteAt sites rid i o) o with
    | some (s, w) => (i, s, w) :: touches sites rid os (i + 1) rs
    | none => touches sites rid os (i + 1) rs
  | _, _, _ => []

def bef (d : DInfo) (i j : Nat) : Bool := Nat.testBit (d.before.getD i 0) j

def touchOk (d : DInfo) (j s : Nat) (w : Bool) : List (Nat × Nat × Bool) → Bool
  | [] => true
  | (i, s', w') :: r => (bif Nat.beq s s' && (w || w') then bef d i j else true) && touchOk d j s w r

/-- Of two that touch the same, one of which writes it, the later one waits for the sooner one. -/
def touchesOk (d : DInfo) : List (Nat × Nat × Bool) → Bool
  | [] => true
  | (j, s, w) :: r => touchOk d j s w r && touchesOk d r

def drawOk (E : Env) (sites : List (Nat × Nat × Nat)) (d : DInfo) (rid : Nat) (ops : Array Oper) (H0 : Heap) (tr : List Rec) : Bool :=
  touchesOk d (touches sites rid ops.toList 0 tr) &&
  (match d.wins with
    | [] => true
    | wins => winsOk E sites wins rid ops (H0 :: versOf E sites rid ops.toList 0 tr) ops.toList 0 tr)

/-- Operations of a region whose order is open, in the text's order, and what makes every other order come to the same. -/
def opsD (E : Env) (cf : CallFn) (sites : List (Nat × Nat × Nat)) (d : DInfo) (rid : Nat) (ops : Array Oper) (H0 : Heap) {R : Type} : List Oper → Nat → List Rec → St → Heap → (St → Heap → Option R) → Option R
  | [], _, tr, st, H, k => bif drawOk E sites d rid ops H0 tr.reverse then k st H else none
  | o :: rest, i, tr, st, H, k =>
    match o.guard with
    | none => opK E cf (siteOf sites rid i) o st H fun x st' H' => opsD E cf sites d rid ops H0 rest (i + 1) (⟨st, H, x, stPut st' o.dst x, H'⟩ :: tr) (stPut st' o.dst x) H' k
    | some (j, want) =>
      match guardOf ops st j want with
      | some b =>
        match guarded b want H (guardedK E cf o st H) with
        | some p => opsD E cf sites d rid ops H0 rest (i + 1) (⟨st, H, .val p.1, stPut st o.dst (.val p.1), p.2⟩ :: tr) (stPut st o.dst (.val p.1)) p.2 k
        | none => none
      | none => none

/-! ### what must stand of such a region's text -/
def countLoud (E : Env) (sites : List (Nat × Nat × Nat)) (rid : Nat) (ops : Array Oper) (p : Nat → Bool) : Nat :=
  ((List.range ops.size).filter fun j => (match ops[j]? with | some o => isLoud E (siteAt sites rid j o) o | none => false) && p j).length

def tmpOf : Operand → Option Tmp
  | .tmp t => some t
  | _ => none

/-- The slots that an operation looks at. -/
def looks (ops : Array Oper) (o : Oper) : List Tmp :=
  o.op.operands.toList.filterMap tmpOf ++ (match o.guard with
    | some (g, _) => match (ops[g]?).bind (·.dst) with
      | some t => [t]
      | none => []
    | none => [])

def slotsApart (x y : Oper) (ops : Array Oper) : Bool :=
  match y.dst with
  | some t => !(looks ops x).contains t
  | none => true

def pairOk (E : Env) (sites : List (Nat × Nat × Nat)) (rid : Nat) (ops : Array Oper) (d : DInfo) (i : Nat) (o : Oper) (j : Nat) : Bool :=
  match ops[j]? with
  | some q =>
    (!bef d i j || o.after.any fun e => Region.binds .any e && decide (e.on < i) && (Nat.beq e.on j || bef d e.on j)) &&
    (!(decide (j < i) && isLoud E (siteAt sites rid i o) o && isLoud E (siteAt sites rid j q) q) || bef d i j) &&
    (Nat.beq i j || slotsApart o q ops || bef d i j || bef d j i) &&
    (Nat.beq i j || o.dst.isNone || o.dst != q.dst)
  | none => true

def opOk (E : Env) (sites : List (Nat × Nat × Nat)) (rid : Nat) (ops : Array Oper) (d : DInfo) (i : Nat) : Bool :=
  match ops[i]? with
  | some o =>
    (List.range ops.size).all (pairOk E sites rid ops d i o) && (o.after.all fun e => !Region.binds .any e || decide (e.on < i)) &&
    (isLoud E (siteAt sites rid i o) o || !reads o ||
      (let lo := countLoud E sites rid ops fun j => bef d i j
       let hi := countLoud E sites rid ops fun j => !bef d j i
       Nat.ble hi lo || (match winOf i d.wins with | some (l, h) => Nat.ble l lo && Nat.ble hi h | none => false)))
  | none => true

def staticOk (E : Env) (sites : List (Nat × Nat × Nat)) (rid : Nat) (ops : Array Oper) (d : DInfo) : Bool :=
  (List.range ops.size).all (opOk E sites rid ops d)

def iter {σ R : Type} (G : σ → Heap → (σ → Heap → Option R) → Option R) : Nat → σ → Heap → Option R
  | 0, _, _ => none
  | m + 1, st, H => G st H (iter G m)

def Ann.strip : Ann → Ann
  | .keep _ _ a => a
  | a => a

def Ann.fst : Ann → Ann
  | .two a _ => a
  | .one a => a
  | _ => .nil

def Ann.snd : Ann → Ann
  | .two _ b => b
  | _ => .nil

def AExit.is : AExit → AExit → Bool
  | .normal, .normal => true
  | .exit i, .exit j => Nat.beq i j
  | .ret, .ret => true
  | _, _ => false

def idxOf (e : AExit) : List AExit → Nat → Option Nat
  | [], _ => none
  | x :: r, i => bif e.is x then some i else idxOf e r (i + 1)

/-- What is kept, behind a piece. -/
def pairL (k : LK) (outs : List AExit) : AExit → St → Heap → Option (Nat × Live × Heap) := fun e st H =>
  match idxOf e outs 0 with
  | some i => match st.live k with
    | some l => some (i, l, H)
    | none => none
  | none => none

def pickK {R : Type} (k : AExit → Option R) (i : Nat) : List AExit → Nat → Option R
  | [], _ => none
  | x :: r, j => bif Nat.beq i j then k x else pickK k i r (j + 1)

def bindX {R : Type} (x : Option (Nat × Live × Heap)) (k : Nat → Live → Heap → Option R) : Option R :=
  match x with
  | some (e, l, H) => k e l H
  | none => none

/-- A piece behind which only what is kept goes on. -/
def bar {R : Type} (an : Ann) (N : Nat) (F : (S : Type) → (AExit → St → Heap → Option S) → Option S) (k : AExit → St → Heap → Option R) : Option R :=
  match an with
  | .keep kp outs _ => bindX (F (Nat × Live × Heap) (pairL kp outs)) fun i l H => pickK (fun e => k e (St.ofLive kp N l) H) i outs 0
  | _ => F R k

/-- Behind a loop's body. -/
def loopK {R : Type} (kh : LK) (rec : Live → Heap → Option R) (k : AExit → St → Heap → Option R) : AExit → St → Heap → Option R := fun e st H =>
  match e with
  | .normal => match st.live kh with
    | some l => rec l H
    | none => none
  | .exit j => k (.exit j) st H
  | .ret => k .ret st H

def loopS {R : Type} (rec : St → Heap → Option R) (k : AExit → St → Heap → Option R) : AExit → St → Heap → Option R := fun e st H =>
  match e with
  | .normal => rec st H
  | .exit j => k (.exit j) st H
  | .ret => k .ret st H

def seqK {R : Type} (next : St → Heap → Option R) (k : AExit → St → Heap → Option R) : AExit → St → Heap → Option R := fun e st H =>
  match e with
  | .normal => next st H
  | .exit id => k (.exit id) st H
  | .ret => k .ret st H

def blockK {R : Type} (id : Nat) (k : AExit → St → Heap → Option R) : AExit → St → Heap → Option R := fun e st H =>
  match e with
  | .normal => k .normal st H
  | .exit j => bif Nat.beq j id then k .normal st H else k (.exit j) st H
  | .ret => k .ret st H

def drawOf (rid : Nat) : List (Nat × DInfo) → Option DInfo
  | [] => none
  | (r, d) :: l => bif Nat.beq r rid then some d else drawOf rid l

def exec (E : Env) (cf : CallFn) (n : Nat) (fa : FAnn) : Code → Ann → (R : Type) → St → Heap → (AExit → St → Heap → Option R) → Option R
  | .skip, _, _, st, H, k => k .normal st H
  | .label _, _, _, st, H, k => k .normal st H
  | .exit id, _, _, st, H, k => k (.exit id) st H
  | .ret, _, _, st, H, k => k .ret st H
  | .region rid ops draw, _, _, st, H, k =>
    bif draw then
      match drawOf rid fa.draws with
      | some d => opsD E cf fa.sites d rid ops H ops.toList 0 [] st H (k .normal)
      | none => none
    else opsK E cf fa.sites rid ops ops.toList 0 st H (k .normal)
  | .seq a b, an, _, st, H, k =>
    bar an st.N (fun S k => exec E cf n fa a an.strip.fst S st H (seqK (fun st H => exec E cf n fa b an.strip.snd S st H k) k)) k
  | .cond c x y, an, _, st, H, k => match st.eval E c with
    | some v => bar an st.N (fun S k => A.test v (exec E cf n fa x an.strip.fst S st H k) (exec E cf n fa y an.strip.snd S st H k)) k
    | none => none
  | .block id c, an, _, st, H, k =>
    bar an st.N (fun S k => exec E cf n fa c an.strip.fst S st H (blockK id k)) k
  | .loop c, an, _, st, H, k => match an.strip with
    | .lp kp a => match st.live kp with
      | some l => bar an st.N (fun S k => iter (fun l H rec => exec E cf n fa c a S (St.ofLive kp st.N l) H (loopK kp rec k)) n l H) k
      | none => none
    | a => bar an st.N (fun S k => iter (fun st H rec => exec E cf n fa c a.fst S st H (loopS rec k)) n st H) k
  | .scope c, an, _, st, H, k => bar an st.N (fun S k => exec E cf n fa c an.strip.fst S st H k) k
  | .rangeFunc .., _, _, _, _, _ => none
  | .goto _, _, _, _, _, _ => none
  | .refuse _, _, _, _, _, _ => none

def resultVar (E : Env) (st : St) (H : Heap) : ResultVar → Option AV
  | .tmp t => match st.get t with
    | .val v => some v
    | _ => none
  | .cell a t => match E.isAgg t, E.size t with
    | some ag, some sz => match st.get a with
      | .lp s off => match st.var s with
        | some cs => A.ofList ag sz cs off
        | none => none
      | .val p => A.load ag sz p H
      | .no => none
    | _, _ => none

def resultVars (E : Env) (st : St) (H : Heap) {R : Type} : List ResultVar → List AV → (List AV → Option R) → Option R
  | [], acc, k => k acc.reverse
  | r :: rs, acc, k => match resultVar E st H r with
    | some v => resultVars E st H rs (v :: acc) k
    | none => none

def oneOrTup : List AV → AV
  | [v] => v
  | vs => .tup vs

def startSlots (d : Nat) : List AV → Nat → Tr SV → Tr SV
  | [], _, t => t
  | v :: vs, i, t => startSlots d vs (i + 1) (t.set i (.val v))

def St.start (d N : Nat) (args : List AV) : St := { slots := startSlots d args 0 (Tr.full .no d), L := Tr.full none d, N := N }

def callF (E : Env) : Nat → CallFn
  | 0 => fun _ _ _ _ _ => none
  | n + 1 => fun _ f args H k =>
    match E.P.funcs[f]? with
    | some fn => match fn.body with
      | some c => if args.length ≤ fn.ntmps then exec E (callF E n) n (E.ann f) c (E.ann f).ann _ (St.start (E.ann f).depth fn.ntmps args) H fun e st H => match e with
        | .exit _ => none
        | _ => resultVars E st H fn.results.toList [] fun vs => k (oneOrTup vs) H
        else none
      | none => none
    | none => none

/-- A call from outside: what it returns. -/
def answer (E : Env) (n : Nat) (f : FuncId) (args : List AV) : Option AV := callF E n AV f args [] fun v _ => some v

end Go.Den
