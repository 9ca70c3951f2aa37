/- DEN, part Sa: words in which a function's reading is written down: each is, by unfolding alone, what the reading does. -/
import Derived.Test.YtikkpecdkdgmfaaDoorDenC
namespace Go.Den

section
variable {R : Type}

def bindH (h : Heap) (k : Heap → R) : R := k h
def bindV (v : AV) (k : AV → R) : R := k v
def bindC (c : List AV) (k : List AV → R) : R := k c

def withL (x : Option (List AV)) (k : List AV → Option R) : Option R :=
  match x with
  | some es => k es
  | none => none
def withH (x : Option Heap) (k : Heap → Option R) : Option R :=
  match x with
  | some H => k H
  | none => none
def withVH (x : Option (AV × Heap)) (k : AV → Heap → Option R) : Option R :=
  match x with
  | some (v, H) => k v H
  | none => none
def withP (x : Option (AV × Heap)) (k : AV → Heap → Option R) : Option R :=
  match x with
  | some p => k p.1 p.2
  | none => none
def withB (x : Option Bool) (k : Bool → Option R) : Option R :=
  match x with
  | some b => k b
  | none => none
def extractK (x : AV) (i : Nat) (k : AV → Option R) : Option R :=
  match x with
  | .tup vs => withV vs[i]? k
  | _ => none
def rangeK (x : AV) (H : Heap) (k : AV → Heap → Option R) : Option R :=
  match x with
  | .str l => k (.it H.length) (H ++ [.iter l 0])
  | _ => none
def nextK (x : AV) (H : Heap) (k : AV → Heap → Option R) : Option R :=
  match x with
  | .it id => match H[id]? with
    | some (.iter l pos) =>
      if pos < l.length then
        let d := Utf8.decode ⟨l.toArray⟩ pos
        k (.tup [.bool true, .int .i64 pos, .int .i32 d.1]) (H.set id (.iter l (pos + d.2)))
      else k (.tup [.bool false]) H
    | _ => none
  | _ => none
def assertK (x : AV) (t : TypeId) (z : Option AV) (k : AV → Option R) : Option R :=
  match x with
  | .iface d w => if d = t then k (.tup [w, .bool true]) else match z with
    | some z => k (.tup [z, .bool false])
    | none => none
  | _ => none
def assertOneK (x : AV) (t : TypeId) (k : AV → Option R) : Option R :=
  match x with
  | .iface d w => if d = t then k w else none
  | _ => none
/-- Where a pointer's element of an array of the frame's own lies. -/
def lpIdxK (i : AV) (n : Int) (k : Int → Option R) : Option R :=
  match i with
  | .int _ j => if 0 ≤ j ∧ j < n then k j else none
  | _ => none

/-- A guarded operation. -/
def guardB {α : Type} (b want : Bool) (x y : α) : α := bif b == want then x else y
/-- One of the ways in which a piece is left. -/
def altN (i j : Nat) (x y : Option R) : Option R := bif Nat.beq i j then x else y
/-- Only if. -/
def chkD (c : Bool) (x : Option R) : Option R := bif c then x else none

def sameV (x : Option SV) (v : AV) : Bool :=
  match x with
  | some (.val w) => AV.beq v w
  | _ => false
def actsB (x : Option Bool) (want : Bool) : Bool :=
  match x with
  | some b => b == want
  | none => true
end

def lookAnn : List (Nat × FAnn) → FuncId → FAnn
  | [], _ => {}
  | (g, a) :: r, f => bif Nat.beq f g then a else lookAnn r f

theorem lookAnn_none {f : FuncId} : ∀ {l : List (Nat × FAnn)}, f ∉ l.map (·.1) → (lookAnn l f).draws = []
  | [], _ => rfl
  | (g, a) :: r, h => by
    simp only [List.map_cons, List.mem_cons, not_or] at h
    unfold lookAnn
    have : Nat.beq f g = false := by
      cases hb : Nat.beq f g
      · rfl
      · exact absurd (Nat.eq_of_beq_eq_true hb) h.1
    rw [this]
    exact lookAnn_none h.2

/-- A piece of a piece. -/
def codeAt : Code → List Nat → Code
  | c, [] => c
  | .seq a b, i :: p => match i with
    | 0 => codeAt a p
    | _ => codeAt b p
  | .cond _ a b, i :: p => match i with
    | 0 => codeAt a p
    | _ => codeAt b p
  | .block _ c, _ :: p => codeAt c p
  | .loop c, _ :: p => codeAt c p
  | .scope c, _ :: p => codeAt c p
  | c, _ => c

def bodyAt (P : Program) (f : FuncId) (p : List Nat) : Code :=
  match P.funcs[f]? with
  | some fn => match fn.body with
    | some c => codeAt c p
    | none => .skip
  | none => .skip

/-- A loop, by its rounds. -/
def loopL (E : Env) (cf : CallFn) (n : Nat) (f : FuncId) (p : List Nat) (a : Ann) (kh kx : LK) (outs : List AExit) (N : Nat) : Nat → Live → Heap → Option (Nat × Live × Heap) :=
  iter fun l H rec => exec E cf n (E.ann f) (bodyAt E.P f p) a _ (St.ofLive kh N l) H (loopK kh rec (pairL kx outs))

end Go.Den
