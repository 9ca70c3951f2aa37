/- Texts put together: Bt1, RepR, Bt2, Bt3, Bt4, Bt5, Bt6, Awake, LawNum, LwBP, Bt7, Bt8, Bt9, Bt10, LwBT. -/
import Derived.Test.YtikkpecdkdgmfaaDoorMh
import Derived.Test.YtikkpecdkdgmfaaDoorRows

/- Numbers and their texts: parts of a text. -/
set_option maxRecDepth 100000
set_option maxHeartbeats 8000000
namespace Go.Proofs.YtikkpecdkdgmfaaDoor
open Go Go.Den Go.Lib
abbrev eb (x : UInt8) : AV := .int .u8 x.toNat
theorem qb2 : base.P.underlying 9 = some .string := by kernel_rfl
theorem qik : base.P.underlying 5 = some (.int .u8) := by kernel_rfl
theorem q39 : base.P.underlying 83 = some (.slice 5) := by kernel_rfl
theorem qb1 {t : TypeId} {c : Bool} {H : Heap} (s : List UInt8) : A.bin base.P .eql t (.str s) (.str []) c H = some (.bool (decide (s = []))) := by
  simp only [A.bin, A.binStr]
  congr 2
  by_cases h : s = [] <;> simp [h]
theorem q3u {s : List UInt8} {i : Nat} {k : IntKind} (h : i < s.length) : A.index (.str s) (.int k (i : Int)) = some (.int .u8 ((s[i]).toNat : Int)) := by
  simp [A.index, h]
theorem q99 {s : List UInt8} {i : Nat} {k : IntKind} (h : i ≤ s.length) : A.sliceStr (.str s) (some (.int k (i : Int))) none = some (.str (s.drop i)) := by
  have e : (s.drop i).take (s.length - i) = s.drop i := List.take_of_length_le (by simp)
  simp [A.sliceStr, A.bound, h, e]
noncomputable def pHp0 : Pol := .still (p2 cS cS .bool (fun _ _ => True) fun s t => decide (s.take t.length = t))
theorem okHp0 : PolOK base 71 pHp0 := still2 base_ok [] trivial fun s t _ => by
  have l1 : A.lenStr (.str s) = some (.int .i64 (s.length : Int)) := rfl
  have l2 : A.lenStr (.str t) = some (.int .i64 (t.length : Int)) := rfl
  have e1 : cS.enc s = .str s := rfl
  have e2 : cS.enc t = .str t := rfl
  rw [e1, e2]
  by_cases h : t.length ≤ s.length
  · have z : (t.length : Int) ≤ (s.length : Int) := by omega
    have hsl : A.sliceStr (.str s) none (some (.int .i64 (t.length : Int))) = some (.str (s.take t.length)) := by
      simp [A.sliceStr, A.bound, h]
    have heq : ∀ H, A.bin base.P .eql 9 (.str (s.take t.length)) (.str t) false H = some (.bool (decide (s.take t.length = t))) := fun H => by
      simp only [A.bin, A.binStr]
      congr 2
      by_cases h : s.take t.length = t <;> simp [h]
    generalize decide (s.take t.length = t) = D at *
    generalize s.take t.length = s2 at *
    generalize (t.length : Int) = M at *
    generalize (s.length : Int) = N at *
    exact Evs.of fun n m => by simp [↓q01, ↓q04, ↓q05, S71, l1, l2, z, hsl, heq, A.asG, guardB, A.pick]
  · have z : ¬ (t.length : Int) ≤ (s.length : Int) := by omega
    have hd : decide (s.take t.length = t) = false := by
      simp only [decide_eq_false_iff_not]
      intro e
      have := congrArg List.length e
      rw [List.length_take] at this
      omega
    rw [hd]
    generalize (t.length : Int) = M at *
    generalize (s.length : Int) = N at *
    exact Evs.of fun n m => by simp [↓q01, ↓q04, ↓q05, S71, l1, l2, z, A.asG, guardB, A.pick]
theorem kHp0 {R : Type} {s t : List UInt8} {H : Heap} {k : AV → Heap → Option R} : polK pHp0 [.str s, .str t] H k = k (.bool (decide (s.take t.length = t))) H := by
  simp [pHp0, q0h]
noncomputable def pCp0 : Pol := .still (p2 cS cS (fun r : List UInt8 × Bool => .tup [.str r.1, .bool r.2]) (fun _ _ => True) cutP)
theorem okCp0 : PolOK base 52 pCp0 := still2 base_ok [(71, pHp0)] ⟨okHp0, trivial⟩ fun s t _ => by
  have frz : ∀ (x : List UInt8) (b : Bool) (H : Heap), A.freezeB true 64 H (.tup [.str x, .bool b]) = some (.tup [.str x, .bool b]) := fun _ _ _ => rfl
  have l2 : A.lenStr (.str t) = some (.int .i64 (t.length : Int)) := rfl
  have e1 : cS.enc s = .str s := rfl
  have e2 : cS.enc t = .str t := rfl
  have k1 : ∀ (R : Type) (H : Heap) (k : AV → Heap → Option R), polK pHp0 [.str s, .str t] H k = k (.bool (decide (s.take t.length = t))) H := fun R H k => kHp0
  rw [e1, e2]
  unfold cutP
  by_cases h : s.take t.length = t
  · have hl : t.length ≤ s.length := by
      have := congrArg List.length h
      rw [List.length_take] at this
      omega
    have hs : A.sliceStr (.str s) (some (.int .i64 (t.length : Int))) none = some (.str (s.drop t.length)) := q99 hl
    have hd : decide (s.take t.length = t) = true := by simp only [decide_eq_true_eq]; exact h
    rw [hd] at k1
    rw [if_pos h]
    generalize s.drop t.length = X at *
    generalize (t.length : Int) = M at *
    exact Evs.of fun n m => by simp [↓q00, ↓q01, S52, k1, l2, hs, frz]
  · have hd : decide (s.take t.length = t) = false := by simp only [decide_eq_false_iff_not]; exact h
    rw [hd] at k1
    rw [if_neg h]
    exact Evs.of fun n m => by simp [↓q00, ↓q01, S52, k1, frz]
theorem kCp0 {R : Type} {s t : List UInt8} {H : Heap} {k : AV → Heap → Option R} : polK pCp0 [.str s, .str t] H k = k (.tup [.str (cutP s t).1, .bool (cutP s t).2]) H := by
  simp [pCp0, q0h]
noncomputable def pCp : Pol := .still (p2 cS cS (fun r : List UInt8 × Bool => .tup [.str r.1, .bool r.2]) (fun _ _ => True) cutP)
theorem okCp : PolOK base 33 pCp := still2 base_ok [(52, pCp0)] ⟨okCp0, trivial⟩ fun s t _ => by
  have frz : ∀ (x : List UInt8) (b : Bool) (H : Heap), A.freezeB true 64 H (.tup [.str x, .bool b]) = some (.tup [.str x, .bool b]) := fun _ _ _ => rfl
  have k1 : ∀ (R : Type) (H : Heap) (k : AV → Heap → Option R), polK pCp0 [.str s, .str t] H k = k (.tup [.str (cutP s t).1, .bool (cutP s t).2]) H := fun R H k => kCp0
  have e1 : cS.enc s = .str s := rfl
  have e2 : cS.enc t = .str t := rfl
  rw [e1, e2]
  generalize cutP s t = X at *
  exact Evs.of fun n m => by simp [↓q01, S33, k1, frz]
theorem kCp {R : Type} {s t : List UInt8} {H : Heap} {k : AV → Heap → Option R} : polK pCp [.str s, .str t] H k = k (.tup [.str (cutP s t).1, .bool (cutP s t).2]) H := by
  simp [pCp, q0h]
theorem tl_loop : ∀ (s : List UInt8) (H : Heap), LDoes (L55_0 (polT [])) ⟨[.str s, .int .u8 48], []⟩ H 0 ⟨[.str (noZ s)], []⟩ H
  | [], H => LDoes.step (Evs.of fun n m => by simp [↓q00, ↓q01, ↓q04, ↓q05, q6i, noZ, A.asG, guardB, A.pick, A.lenStr])
  | b :: s, H => by
    have l1 : A.lenStr (.str (b :: s)) = some (.int .i64 (((b :: s).length : Nat) : Int)) := rfl
    have hp : (0 : Int) < ((b :: s).length : Nat) := by simp only [List.length_cons]; omega
    have i1 : A.index (.str (b :: s)) (.int .i64 0) = some (.int .u8 (b.toNat : Int)) := by
      have := q3u (s := b :: s) (i := 0) (k := .i64) (by simp)
      exact this
    by_cases hb : b = 48
    · have e : noZ (b :: s) = noZ s := by unfold noZ; rw [List.dropWhile_cons, if_pos (by simp [hb])]
      rw [e]
      have z : (b.toNat : Int) = 48 := by rw [hb]; rfl
      rw [z] at i1
      have s1 : A.sliceStr (.str (b :: s)) (some (.int .i64 1)) none = some (.str s) := by
        have := q99 (s := b :: s) (i := 1) (k := .i64) (by simp)
        exact this
      refine LDoes.step (Evs.withL (tl_loop s H) (Evs.of fun n m _ h2 => ?_))
      generalize (((b :: s).length : Nat) : Int) = N at *
      simp [↓q00, ↓q01, ↓q04, ↓q05, q6i, l1, hp, i1, s1, h2, A.asG, guardB, A.pick]
    · have e : noZ (b :: s) = b :: s := by unfold noZ; rw [List.dropWhile_cons, if_neg (by simp [hb])]
      rw [e]
      have z : ¬ (b.toNat : Int) = 48 := fun h => hb (UInt8.toNat_inj.1 (by
        have : (48 : UInt8).toNat = 48 := rfl
        omega))
      refine LDoes.step (Evs.of fun n m => ?_)
      generalize (((b :: s).length : Nat) : Int) = N at *
      generalize (b.toNat : Int) = B at *
      simp [↓q00, ↓q01, ↓q04, ↓q05, q6i, l1, hp, i1, z, A.asG, guardB, A.pick]
noncomputable def pTlb : Pol := .still (p2 cS (cI .u8) .str (fun _ c => c = 48) fun s _ => noZ s)
theorem okTlb : PolOK base 55 pTlb := still2 base_ok [] trivial fun s c hc => by
  have hc' : c = 48 := hc
  subst hc'
  have e1 : cS.enc s = .str s := rfl
  have e2 : (cI .u8).enc 48 = .int .u8 48 := rfl
  rw [e1, e2]
  refine Evs.withL (tl_loop s []) (Evs.of fun n m h1 _ => ?_)
  generalize noZ s = X at *
  simp [↓q03, ↓q02, S55, h1]
theorem kTlb {R : Type} {s : List UInt8} {H : Heap} {k : AV → Heap → Option R} : polK pTlb [.str s, .int .u8 48] H k = k (.str (noZ s)) H := by
  simp [pTlb, q0h]
noncomputable def pTl : Pol := .still (p2 cS cS .str (fun _ c => c = [48]) fun s _ => noZ s)
theorem okTl : PolOK base 40 pTl := still2 base_ok [(55, pTlb)] ⟨okTlb, trivial⟩ fun s c hc => by
  have hc' : c = [48] := hc
  subst hc'
  have e1 : cS.enc s = .str s := rfl
  have e2 : cS.enc [48] = .str [48] := rfl
  rw [e1, e2]
  have k1 : ∀ (R : Type) (H : Heap) (k : AV → Heap → Option R), polK pTlb [.str s, .int .u8 48] H k = k (.str (noZ s)) H := fun R H k => kTlb
  have h1 : ∀ H, A.bin base.P .eql 9 (.str s) (.str []) true H = some (.bool (decide (s = []))) := fun H => qb1 s
  have h2 : ∀ H, A.bin base.P .eql 9 (.str [48]) (.str []) true H = some (.bool false) := fun H => rfl
  have h3 : A.index (.str [48]) (.int .i64 0) = some (.int .u8 48) := rfl
  have h4 : A.lenStr (.str [48]) = some (.int .i64 1) := rfl
  by_cases hs : s = []
  · subst hs
    have e : noZ [] = [] := rfl
    rw [e]
    have hd : decide (([] : List UInt8) = []) = true := rfl
    rw [hd] at h1
    exact Evs.of fun n m => by simp [↓q00, ↓q03, ↓q0f, ↓q01, ↓q04, ↓q05, S40, h1, A.asG, guardB, A.pick]
  · have hd : decide (s = []) = false := by simp only [decide_eq_false_iff_not]; exact hs
    rw [hd] at h1
    exact Evs.of fun n m => by
      rw [S40]
      simp only [h1, ↓q01]
      simp [h2, h3, h4, k1, A.asG, guardB, A.pick]
theorem kTl {R : Type} {s : List UInt8} {H : Heap} {k : AV → Heap → Option R} : polK pTl [.str s, .str [48]] H k = k (.str (noZ s)) H := by
  simp [pTl, q0h]
end Go.Proofs.YtikkpecdkdgmfaaDoor

/- Nine noughts: by computation. -/
set_option maxRecDepth 100000
namespace Go.Proofs.YtikkpecdkdgmfaaDoor.repr
open Go Go.Den
def q5b : List FuncId := [53, 59, 60, 61, 71, 72, 73, 74, 78, 79, 82, 83]
noncomputable def env0 : Env := { P := Tryd.prog, pol := fun f => bif Nat.beq f 86 then .prim sameF else bif Nat.beq f 87 then .prim (q2q 5) else .plain, ann := fun _ => {}, glob := fun g => bif Nat.beq g 0 then flatD (H := Unit) Rows.laid_unicode_utf8_first else bif Nat.beq g 1 then flatD (H := Unit) Rows.laid_unicode_utf8_acceptRanges else none }
def q4f : List (Nat × List (Nat × Nat × Nat)) := []
def q5f : List (Nat × List (Nat × Nat × Nat)) → Nat → List (Nat × Nat × Nat)
  | [], _ => []
  | (g, l) :: r, f => bif Nat.beq g f then l else q5f r f
def annsIn (f : Nat) : Ann :=  .nil
noncomputable def tab (f : FuncId) : FAnn :=
  match Tryd.prog.funcs[f]? with
  | some fn => { ann := annsIn f, depth := Nat.log2 fn.ntmps + 1, sites := q5f q4f f, draws := mkDraws env0 (q5f q4f f) fn }
  | none => {}
noncomputable def env : Env := { env0 with ann := fun f => if f ∈ q5b then tab f else {} }
theorem qjd : EnvOK env := envOK q5b (by kernel_rfl) (fun f hf => by show (if f ∈ q5b then tab f else {}).draws = []; rw [if_neg hf]) (by kernel_rfl)
theorem qc9 : ∀ f, env.pol f = .plain ∨ ∃ F, env.pol f = .prim F ∧ PrimOK env f F := fun f => by
  cases h86 : Nat.beq f 86
  case true =>
    obtain rfl := Nat.eq_of_beq_eq_true h86
    exact .inr ⟨sameF, rfl, q97 (fn := Tryd.f86) Tryd.func86 (by kernel_rfl) (by kernel_rfl) (by kernel_rfl) (by kernel_rfl)⟩
  case false =>
    cases h87 : Nat.beq f 87
    case true =>
      obtain rfl := Nat.eq_of_beq_eq_true h87
      exact .inr ⟨(q2q 5), rfl, q59 (t := 83) (ps := #[3]) (ht := by kernel_rfl) (fn := Tryd.f87) Tryd.func87 (by kernel_rfl) (by kernel_rfl) (by kernel_rfl) (by kernel_rfl)⟩
    case false =>
      refine .inl ?_
      show (bif Nat.beq f 86 then Pol.prim sameF else bif Nat.beq f 87 then Pol.prim (q2q 5) else Pol.plain) = _
      simp only [h86, h87, cond_false]
theorem calls_ok (n : Nat) : CallOK env (callF env n) := q86 qjd (by kernel_rfl) qc9 n
def qgz : Option AV → Bool
  | some (.str l) => l == [48, 48, 48, 48, 48, 48, 48, 48, 48]
  | _ => false
theorem says_nine {x : Option AV} (h : qgz x = true) : x = some (.str [48, 48, 48, 48, 48, 48, 48, 48, 48]) := by
  unfold qgz at h
  split at h
  · rename_i l
    have : l = [48, 48, 48, 48, 48, 48, 48, 48, 48] := by simpa using h
    rw [this]
  · cases h
theorem known : callF env 60 AV 53 [.str [48], .int .i64 9] [] (fun v G => A.freezeB true 64 G v) = some (.str [48, 48, 48, 48, 48, 48, 48, 48, 48]) := says_nine (by kernel_rfl)
end Go.Proofs.YtikkpecdkdgmfaaDoor.repr
namespace Go.Proofs.YtikkpecdkdgmfaaDoor
open Go Go.Den
def nine0 : List UInt8 := [48, 48, 48, 48, 48, 48, 48, 48, 48]
def fRep : List AV → Option AV
  | [.str s, .int .i64 n] => if s = [48] ∧ n = 9 then some (AV.str nine0) else none
  | _ => none
noncomputable def pRep : Pol := .still fRep
theorem okRep : PolOK base 53 pRep := q90 (E := base) (E' := repr.env) rfl rfl repr.calls_ok fun xs v h => by
  unfold fRep at h
  split at h
  · split at h
    · rename_i hc
      obtain ⟨rfl, rfl⟩ := hc
      cases h
      exact ⟨60, repr.known⟩
    · cases h
  · cases h
theorem kRep {R : Type} {H : Heap} {k : AV → Heap → Option R} : polK pRep [.str [48], .int .i64 9] H k = k (.str nine0) H := by
  unfold pRep
  rw [q0h (by simp)]
  have : fRep [.str [48], .int .i64 9] = some (.str nine0) := rfl
  rw [this]
  rfl
end Go.Proofs.YtikkpecdkdgmfaaDoor

/- Numbers and their texts: nine digits. -/
set_option maxRecDepth 100000
set_option maxHeartbeats 8000000
namespace Go.Proofs.YtikkpecdkdgmfaaDoor
open Go Go.Den Go.Lib
theorem q81 : ∀ l : List UInt8, A.bytes8 (l.map eb) = some l
  | [] => rfl
  | x :: l => by
    have hx := x.toNat_lt
    have e : (x.toNat : Int).toNat.toUInt8 = x := by simp
    rw [List.map_cons]
    show (bif decide ((0 : Int) ≤ (x.toNat : Int)) && decide ((x.toNat : Int) < 256) then (match A.bytes8 (l.map eb) with | some l => some ((x.toNat : Int).toNat.toUInt8 :: l) | none => none) else none) = _
    rw [q81 l, e]
    have h1 : decide ((0 : Int) ≤ (x.toNat : Int)) = true := by simp
    have h2 : decide ((x.toNat : Int) < 256) = true := by simp; omega
    rw [h1, h2]
    rfl
theorem qhm {R : Type} {s : List UInt8} (h : s.length ≤ 1000000) {H : Heap} {k : AV → Heap → Option R} : q0u base 9 83 (.str s) H k = k (.sl H.length 0 0 s.length s.length) (H ++ [.row 0 1 5 (s.map eb)]) := by
  have h1 : Go.Den.convert base 9 83 (.str s) = none := by
    unfold Go.Den.convert
    rw [qb2, q39]
  have h2 : convH base 9 83 (.str s) H = none := by
    unfold convH
    rw [qb2, q39]
  have h3 : convN base 9 83 (.str s) H = some (.sl H.length 0 0 s.length s.length, H ++ [.row 0 1 5 (s.map eb)]) := by
    unfold convN
    rw [qb2, q39]
    dsimp only
    rw [qik]
    have : decide (s.length ≤ 140737488355328) = true := by simp; omega
    dsimp only
    rw [this]
    simp [A.newRow, A.strElems]
  unfold q0u
  rw [h1, h2, h3]
theorem conv_row {R : Type} {s : List UInt8} {id ver n : Nat} {H : Heap} (h : H[id]? = some (.row ver 1 5 (s.map eb))) (hn : n = s.length) {k : AV → Heap → Option R} : q0u base 83 9 (.sl id ver 0 n n) H k = k (.str s) H := by
  subst hn
  have h1 : Go.Den.convert base 83 9 (.sl id ver 0 s.length s.length) = none := by
    unfold Go.Den.convert
    rw [qb2, q39]
  have hr : A.read 1 (.sl id ver 0 s.length s.length) H = some (s.map eb) := q7v h (by simp)
  have h2 : convH base 83 9 (.sl id ver 0 s.length s.length) H = some (.str s) := by
    unfold convH
    rw [qb2, q39]
    dsimp only
    rw [qik]
    dsimp only
    rw [hr]
    dsimp only
    rw [q81]
    rfl
  unfold q0u
  rw [h1, h2]
theorem cv_32_8 (n : Int) (j : IntKind) : Go.Den.convert base 64 5 (.int j n) = some (.int .u8 (IntKind.wrap .u8 n)) := q38 ty_u32 qik
theorem rem10 {t : TypeId} {c : Bool} {H : Heap} (n : Nat) : A.bin base.P .rem t (.int .u32 (n : Int)) (.int .u32 10) c H = some (.int .u32 ((n % 10 : Nat) : Int)) := by
  have e : (n : Int).tmod 10 = ((n % 10 : Nat) : Int) := by
    rw [Int.tmod_eq_emod_of_nonneg (by omega)]; rfl
  rw [A.bin_rem, if_neg (by omega), e]
theorem quo10 {t : TypeId} {c : Bool} {H : Heap} {n : Nat} (h : n < 4294967296) : A.bin base.P .quo t (.int .u32 (n : Int)) (.int .u32 10) c H = some (.int .u32 ((n / 10 : Nat) : Int)) := by
  have e : (n : Int).tdiv 10 = ((n / 10 : Nat) : Int) := by
    rw [Int.tdiv_eq_ediv_of_nonneg (by omega)]; rfl
  have hw : IntKind.wrap .u32 ((n / 10 : Nat) : Int) = ((n / 10 : Nat) : Int) := by
    generalize hq : n / 10 = q
    have : q < 4294967296 := by omega
    simp [IntKind.wrap, IntKind.bits, IntKind.signed]
    omega
  rw [A.bin_quo, if_neg (by omega), e, hw]
theorem add48 {t : TypeId} {c : Bool} {H : Heap} (n : Nat) : A.bin base.P .add t (.int .u32 48) (.int .u32 ((n % 10 : Nat) : Int)) c H = some (.int .u32 ((dg n).toNat : Int)) := by
  have hw : IntKind.wrap .u32 (48 + ((n % 10 : Nat) : Int)) = ((dg n).toNat : Int) := by
    rw [q3r]
    have : n % 10 < 10 := Nat.mod_lt _ (by omega)
    generalize n % 10 = q at *
    simp [IntKind.wrap, IntKind.bits, IntKind.signed]
    omega
  rw [A.bin_add, hw]
theorem wrap_8 (x : UInt8) : IntKind.wrap .u8 (x.toNat : Int) = (x.toNat : Int) := by
  have := x.toNat_lt
  simp [IntKind.wrap, IntKind.bits, IntKind.signed]
  omega
theorem dgt_loop {pol : FuncId → Pol} : ∀ (i n : Nat) (z : Int) (D : List UInt8) (H : Heap), z = (i : Int) - 1 → n < 4294967296 → i + D.length = 9 → H[0]? = some (.row 0 1 5 ((List.replicate i 48 ++ D).map eb)) →
    ∃ H', LDoes (L37_0 pol) ⟨[.int .u32 (n : Int), .sl 0 0 0 9 9, .int .i64 z], []⟩ H 0 ⟨[.sl 0 0 0 9 9], []⟩ H' ∧ H'[0]? = some (.row 0 1 5 ((dgs i n ++ D).map eb)) := by
  intro i
  induction i with
  | zero =>
    intro n z D H hz hn hD h
    subst hz
    exact ⟨H, LDoes.step (Evs.of fun n m => by simp [↓q00, ↓q01, qa1]), h⟩
  | succ i ih =>
    intro n z D H hz hn hD h
    have hz' : z = (i : Int) := by omega
    subst hz'
    have hi9 : (i : Int) < 9 := by omega
    have hg : (List.replicate (i + 1) 48 ++ D).map eb = (List.replicate i (48 : UInt8)).map eb ++ eb 48 :: D.map eb := by
      rw [List.replicate_succ', List.append_assoc, List.map_append]
      rfl
    rw [hg] at h
    have he : ((List.replicate i (48 : UInt8)).map eb ++ eb 48 :: D.map eb)[i]? = some (eb 48) := by
      rw [List.getElem?_append_right (by simp)]
      simp
    have hs : ((List.replicate i (48 : UInt8)).map eb ++ eb 48 :: D.map eb).set i (eb (dg n)) = (List.replicate i 48 ++ dg n :: D).map eb := by
      rw [List.set_append_right _ _ (by simp), List.map_append, List.map_cons]
      simp
    have x1 : A.idx 1 (.sl 0 0 0 9 9) (.int .i64 (i : Int)) H = some (.ptr 0 0 i 0) := by
      have := q4d (cap := 9) (off := 0) (k := .i64) h (i := (i : Int)) (n := 9) (by omega) (by omega)
      simpa using this
    have s1 := q63 (v := eb (dg n)) h he rfl rfl
    rw [hs] at s1
    have h0l : 0 < H.length := (List.getElem?_eq_some_iff.1 h).1
    obtain ⟨H', hL, hR⟩ := ih (n / 10) ((i : Int) - 1) (dg n :: D) _ rfl (by omega) (by simp; omega) (List.getElem?_set_self h0l)
    refine ⟨H', LDoes.step (Evs.withL hL (Evs.of fun a b _ h2 => ?_)), ?_⟩
    · have hw : IntKind.wrap .i64 ((i : Int) - 1) = (i : Int) - 1 := by
        simp [IntKind.wrap, IntKind.bits, IntKind.signed]
        omega
      have s2 : A.store 1 (.ptr 0 0 i 0) (.int .u8 ((dg n).toNat : Int)) H = some (H.set 0 (.row 0 1 5 ((List.replicate i 48 ++ dg n :: D).map eb))) := s1
      have r1 := rem10 (t := 64) (c := true) (H := H) n
      have a1 := add48 (t := 64) (c := false) (H := H) n
      have q1 : ∀ H, A.bin base.P .quo 64 (.int .u32 (n : Int)) (.int .u32 10) true H = _ := fun H => quo10 hn
      have w8 := wrap_8 (dg n)
      generalize H.set 0 (.row 0 1 5 ((List.replicate i 48 ++ dg n :: D).map eb)) = H2 at *
      generalize ((dg n).toNat : Int) = dn at *
      generalize ((n / 10 : Nat) : Int) = q at *
      generalize ((n % 10 : Nat) : Int) = r at *
      generalize (n : Int) = n0 at *
      simp [↓q00, ↓q01, ↓q0e, qa1, -A.bin_rem, -A.bin_quo, -A.bin_add, r1, a1, q1, cv_32_8, w8, x1, s2, hw, h2]
    · rw [hR, dgs, List.append_assoc]
      rfl
noncomputable def pDgt : Pol := .still (p1 cU32 .str (fun _ => True) fun x => dgs 9 x.toNat)
theorem okDgt : PolOK base 37 pDgt := still1 base_ok [(53, pRep)] ⟨okRep, trivial⟩ fun x _ => by
  have e1 : cU32.enc x = .int .u32 x.toNat := rfl
  rw [e1]
  obtain ⟨H', hL, hR⟩ := dgt_loop (pol := polT [(53, pRep)]) 9 x.toNat 8 [] [HObj.row 0 1 5 (nine0.map eb)] rfl x.toNat_lt rfl rfl
  rw [List.append_nil] at hR
  have k1 : ∀ (R : Type) (H : Heap) (k : AV → Heap → Option R), polK pRep [.str [48], .int .i64 9] H k = k (.str nine0) H := fun R H k => kRep
  have c1 : ∀ (R : Type) (k : AV → Heap → Option R), q0u base 9 83 (.str nine0) [] k = k (.sl 0 0 0 9 9) [HObj.row 0 1 5 (nine0.map eb)] := fun R k => qhm (by decide)
  have c2 : ∀ (R : Type) (k : AV → Heap → Option R), q0u base 83 9 (.sl 0 0 0 9 9) H' k = k (.str (dgs 9 x.toNat)) H' := fun R k => conv_row hR (by rw [q4p])
  refine Evs.withL hL (Evs.of fun n m h1 _ => ?_)
  generalize dgs 9 x.toNat = D at *
  generalize (x.toNat : Int) = X at *
  simp [↓q03, ↓q02, S37, k1, c1, h1, c2]
theorem kDgt {R : Type} {x : UInt32} {H : Heap} {k : AV → Heap → Option R} : polK pDgt [.int .u32 x.toNat] H k = k (.str (dgs 9 x.toNat)) H := by
  simp [pDgt, q0h]
end Go.Proofs.YtikkpecdkdgmfaaDoor

/- Numbers and their texts: texts in a row, turned round. -/
set_option maxRecDepth 100000
set_option maxHeartbeats 8000000
namespace Go.Proofs.YtikkpecdkdgmfaaDoor
open Go Go.Den Go.Lib
def halfR (L W : List (List UInt8)) (i : Nat) : Prop := ∃ hn : W.length = L.length, ∀ j (hj : j < L.length), W[j]'(hn ▸ hj) = if j < i ∨ L.length - 1 - i < j then L[L.length - 1 - j]'(by omega) else L[j]
theorem rev_turn {pol : FuncId → Pol} {id ver : Nat} {L : List (List UInt8)} (hl : L.length ≤ 1000000) : ∀ (N i : Nat) (z : Int) (W : List (List UInt8)) (H : Heap), L.length - i ≤ N → z = (L.length : Int) - 1 - i → i ≤ L.length → halfR L W i → H[id]? = some (.row ver 1 9 (W.map AV.str)) →
    ∃ H', LDoes (qio pol) ⟨[.sl id ver 0 L.length L.length, .int .i64 (i : Int), .int .i64 z], []⟩ H 0 ⟨[], []⟩ H' ∧ H'[id]? = some (.row ver 1 9 (L.reverse.map AV.str)) := by
  intro N
  induction N with
  | zero =>
    intro i z W H hN hz hi hW hR
    have hlt : ¬ (i : Int) < z := by omega
    obtain ⟨hn, hW⟩ := hW
    have e : W = L.reverse := by
      refine List.ext_getElem (by simp [hn]) fun j h1 h2 => ?_
      rw [hW j (by omega), List.getElem_reverse, if_pos (by omega)]
    rw [e] at hR
    exact ⟨H, LDoes.step (Evs.of fun n m => by simp [↓q00, ↓q01, q6c, hlt]), hR⟩
  | succ N ih =>
    intro i z W H hN hz hi hW h0
    by_cases hlt : (i : Int) < z
    · obtain ⟨hn, hWj⟩ := hW
      obtain ⟨k, hk⟩ : ∃ k : Nat, z = (k : Int) := ⟨z.toNat, by omega⟩
      subst hk
      have hkl : k < L.length := by omega
      have hil : i < L.length := by omega
      have hkk : k = L.length - 1 - i := by omega
      have hik : i < k := by omega
      have hi0 : (W.map AV.str)[i]? = some (AV.str (W[i]'(by omega))) := by simp [hn, hil]
      have hk0 : (W.map AV.str)[k]? = some (AV.str (W[k]'(by omega))) := by simp [hn, hkl]
      have x1 : A.idx 1 (.sl id ver 0 L.length L.length) (.int .i64 (k : Int)) H = some (.ptr id ver k 0) := by
        have := q4d (cap := L.length) (off := 0) (k := .i64) h0 (i := (k : Int)) (n := L.length) (by omega) (by omega)
        simpa using this
      have x2 : A.idx 1 (.sl id ver 0 L.length L.length) (.int .i64 (i : Int)) H = some (.ptr id ver i 0) := by
        have := q4d (cap := L.length) (off := 0) (k := .i64) h0 (i := (i : Int)) (n := L.length) (by omega) (by omega)
        simpa using this
      have y1 : A.load false 1 (.ptr id ver k 0) H = some (AV.str (W[k]'(by omega))) := q3x h0 hk0 rfl
      have y2 : A.load false 1 (.ptr id ver i 0) H = some (AV.str (W[i]'(by omega))) := q3x h0 hi0 rfl
      have s1 : A.store 1 (.ptr id ver i 0) (AV.str (W[k]'(by omega))) H = some (H.set id (.row ver 1 9 ((W.map AV.str).set i (AV.str (W[k]'(by omega)))))) := q63 h0 hi0 rfl rfl
      have h0l : id < H.length := (List.getElem?_eq_some_iff.1 h0).1
      have h1 : (H.set id (.row ver 1 9 ((W.map AV.str).set i (AV.str (W[k]'(by omega))))))[id]? = some (.row ver 1 9 ((W.map AV.str).set i (AV.str (W[k]'(by omega))))) := List.getElem?_set_self h0l
      have hk1 : ((W.map AV.str).set i (AV.str (W[k]'(by omega))))[k]? = some (AV.str (W[k]'(by omega))) := by rw [List.getElem?_set_ne (by omega)]; exact hk0
      have x3 : A.idx 1 (.sl id ver 0 L.length L.length) (.int .i64 (k : Int)) (H.set id (.row ver 1 9 ((W.map AV.str).set i (AV.str (W[k]'(by omega)))))) = some (.ptr id ver k 0) := by
        have := q4d (cap := L.length) (off := 0) (k := .i64) h1 (i := (k : Int)) (n := L.length) (by omega) (by omega)
        simpa using this
      have s2 := q63 (v := AV.str (W[i]'(by omega))) h1 hk1 rfl rfl
      rw [List.set_set] at s2
      have hW' : halfR L ((W.set i (W[k]'(by omega))).set k (W[i]'(by omega))) (i + 1) := by
        refine ⟨by simp [hn], fun j hj => ?_⟩
        by_cases e1 : k = j
        · subst e1
          rw [List.getElem_set_self, if_pos (by omega), hWj i hil, if_neg (by omega)]
          congr 1
          omega
        · rw [List.getElem_set_ne e1]
          by_cases e2 : i = j
          · subst e2
            rw [List.getElem_set_self, if_pos (by omega), hWj k hkl, if_neg (by omega)]
            congr 1
          · rw [List.getElem_set_ne e2, hWj j hj]
            by_cases e3 : j < i ∨ L.length - 1 - i < j
            · rw [if_pos e3, if_pos (by omega)]
            · rw [if_neg e3, if_neg (by omega)]
      have hR' : (H.set id (.row ver 1 9 (((W.map AV.str).set i (AV.str (W[k]'(by omega)))).set k (AV.str (W[i]'(by omega))))))[id]? = some (.row ver 1 9 (((W.set i (W[k]'(by omega))).set k (W[i]'(by omega))).map AV.str)) := by
        rw [List.getElem?_set_self h0l, List.map_set, List.map_set]
      obtain ⟨H', hL, hR2⟩ := ih (i + 1) ((k : Int) - 1) _ _ (by omega) (by omega) (by omega) hW' hR'
      have w1 : IntKind.wrap .i64 ((i : Int) + 1) = (i : Int) + 1 := q08 (by omega) (by omega)
      have w2 : IntKind.wrap .i64 ((k : Int) - 1) = (k : Int) - 1 := q08 (by omega) (by omega)
      simp only [Int.natCast_add, Int.natCast_one] at hL
      refine ⟨H', LDoes.step (Evs.withL hL (Evs.of fun n m _ h2 => ?_)), hR2⟩
      generalize AV.str (W[k]'(by omega)) = vk at *
      generalize AV.str (W[i]'(by omega)) = vi at *
      generalize H.set id (.row ver 1 9 (((W.map AV.str).set i vk).set k vi)) = H2 at *
      generalize H.set id (.row ver 1 9 ((W.map AV.str).set i vk)) = H1 at *
      simp [↓q00, ↓q01, ↓q0e, q6c, hlt, x1, x2, y1, y2, s1, x3, s2, w1, w2, h2]
    · obtain ⟨hn, hW⟩ := hW
      have e : W = L.reverse := by
        refine List.ext_getElem (by simp [hn]) fun j h1 h2 => ?_
        rw [hW j (by omega), List.getElem_reverse]
        by_cases e3 : j < i ∨ L.length - 1 - i < j
        · rw [if_pos e3]
        · rw [if_neg e3]
          congr 1
          omega
      rw [e] at h0
      exact ⟨H, LDoes.step (Evs.of fun n m => by simp [↓q00, ↓q01, q6c, hlt]), h0⟩
noncomputable def pRvs : Pol := .prim (runF base [] 39)
theorem okRvs : PolOK base 39 pRvs := q8v base_ok [] trivial
theorem kRvs {H : Heap} {id ver : Nat} {L : List (List UInt8)} (h : H[id]? = some (.row ver 1 9 (L.map AV.str))) (hl : L.length ≤ 1000000) : ∃ H' : Heap, H'[id]? = some (.row ver 1 9 (L.reverse.map AV.str)) ∧ ∀ (R : Type) (k : AV → Heap → Option R), polK pRvs [.sl id ver 0 L.length L.length] H k = k (.tup []) H' := by
  obtain ⟨H', hL, hR⟩ := rev_turn (pol := polT []) hl L.length 0 ((L.length : Int) - 1) L H (by omega) (by omega) (by omega) ⟨rfl, fun j hj => by rw [if_neg (by omega)]⟩ h
  have n1 : A.len (.sl id ver 0 L.length L.length) H = some (.int .i64 (L.length : Int)) := by simp [A.len, A.alive, h]
  have w1 : IntKind.wrap .i64 ((L.length : Int) - 1) = (L.length : Int) - 1 := q08 (by omega) (by omega)
  have hr : runF base [] 39 [.sl id ver 0 L.length L.length] H = some (.tup [], H') := q3z (Evs.withL hL (Evs.of fun n m h1 _ => by
    have h1' : qio (polT []) n n ⟨[.sl id ver 0 L.length L.length, .int .i64 0, .int .i64 ((L.length : Int) - 1)], []⟩ H = _ := h1
    generalize (L.length : Int) = X at *
    generalize L.length = l at *
    simp [↓q01, ↓q02, S39, n1, w1, h1']))
  exact ⟨H', hR, fun R k => qbu hr⟩
end Go.Proofs.YtikkpecdkdgmfaaDoor

/- Numbers and their texts: texts joined. -/
set_option maxRecDepth 100000
set_option maxHeartbeats 8000000
namespace Go.Proofs.YtikkpecdkdgmfaaDoor
open Go Go.Den Go.Lib
/-! ### cells of an object -/
section
variable {H : Heap} {id ver sz j : Nat} {ty : TypeId} {es cs : List AV}
theorem q2y {off : Nat} {v : AV} (h : H[id]? = some (.row ver sz ty es)) (he : es[j]? = some (.agg cs)) (hv : cs[off]? = some v) : A.load false 1 (.ptr id ver j off) H = some v := by
  simp [A.load, A.elemAt, h, he, A.ofList, AV.cells, hv]
theorem q44 {o : Nat} (h : H[id]? = some (.row ver sz ty es)) : A.fa o (.ptr id ver j 0) H = some (.ptr id ver j o) := by
  simp [A.fa, A.alive, h]
theorem q2j {P : Program} {o : Nat} (h : H[id]? = some (.row ver sz ty es)) : nilC P (.ptr id ver j o) H = some (.ptr id ver j o) := by
  unfold nilC
  cases methOk P (.ptr id ver j o)
  · simp [A.nilCheck, A.alive, h]
  · rfl
theorem q6n {off : Nat} {v w : AV} (h : H[id]? = some (.row ver sz ty es)) (he : es[j]? = some (.agg cs)) (hw : cs[off]? = some w) (hv : v.one = true) : A.store 1 (.ptr id ver j off) v H = some (H.set id (.row ver sz ty (es.set j (.agg (cs.set off v))))) := by
  have hc : v.cells = [v] := by cases v <;> first | rfl | cases hv
  have hl : off < cs.length := (List.getElem?_eq_some_iff.1 hw).1
  have hs : A.splice cs off [v] = cs.set off v := by
    unfold A.splice
    rw [List.set_eq_take_append_cons_drop, if_pos hl]
    simp
  simp [A.store, A.fits, hc, hv, h, he, A.setElem, hs]
  omega
end
/-! ### its own place -/
theorem okSame59 : PolOK base 86 (.prim sameF) := q97 (fn := Tryd.f86) Tryd.func86 (by kernel_rfl) (by kernel_rfl) (by kernel_rfl) (by kernel_rfl)
noncomputable abbrev TCc : List (FuncId × Pol) := [(86, .prim sameF)]
noncomputable def pCc : Pol := .prim (runF base TCc 78)
theorem okCc : PolOK base 78 pCc := q8v base_ok TCc ⟨okSame59, trivial⟩
theorem kSame59 {R : Type} {v : AV} {H : Heap} {k : AV → Heap → Option R} : polK (.prim sameF) [v] H k = k v H := rfl
theorem conv_up {R : Type} {H : Heap} {b : Nat} {es : List AV} (h : H[b]? = some (.row 0 2 94 es)) (hl : es.length = 1) {k : AV → Heap → Option R} : q0u base 92 125 (.ptr b 0 0 0) H k = k (.ptr b 0 0 0) H := by
  have u1 : base.P.underlying 92 = some (.pointer 94) := by kernel_rfl
  have u2 : base.P.underlying 125 = some .unsafePointer := by kernel_rfl
  have hi : ∃ i, base.P.info? 94 = some i ∧ i.size = 2 := by
    have : (base.P.info? 94).map (·.size) = some 2 := by kernel_rfl
    cases hx : base.P.info? 94 with
    | none => rw [hx] at this; cases this
    | some i => rw [hx] at this; exact ⟨i, rfl, by simpa using this⟩
  obtain ⟨i, hi, hs⟩ := hi
  have h1 : Go.Den.convert base 92 125 (.ptr b 0 0 0) = none := by
    unfold Go.Den.convert
    rw [u1, u2]
  have h2 : convH base 92 125 (.ptr b 0 0 0) H = some (.ptr b 0 0 0) := by
    unfold convH
    rw [u1, u2]
    dsimp only
    rw [h, hi]
    dsimp only
    rw [hl, hs]
    rfl
  unfold q0u
  rw [h1, h2]
theorem qiz {R : Type} {H : Heap} {b : Nat} {es : List AV} (h : H[b]? = some (.row 0 2 94 es)) (hl : es.length = 1) {k : AV → Heap → Option R} : q0u base 125 92 (.ptr b 0 0 0) H k = k (.ptr b 0 0 0) H := by
  have u1 : base.P.underlying 92 = some (.pointer 94) := by kernel_rfl
  have u2 : base.P.underlying 125 = some .unsafePointer := by kernel_rfl
  have hi : ∃ i, base.P.info? 94 = some i := by
    have : (base.P.info? 94).map (·.size) = some 2 := by kernel_rfl
    cases hx : base.P.info? 94 with
    | none => rw [hx] at this; cases this
    | some i => exact ⟨i, rfl⟩
  obtain ⟨i, hi⟩ := hi
  have hr : (Nat.beq 2 (base.P.cellsOf 94) && rowAt base.P (fun x => sameLayout base.P base.P.depth x 94) base.P.depth 94 1 0 1) = true := by kernel_rfl
  have h1 : Go.Den.convert base 125 92 (.ptr b 0 0 0) = none := by
    unfold Go.Den.convert
    rw [u1, u2]
  have h2 : convH base 125 92 (.ptr b 0 0 0) H = some (.ptr b 0 0 0) := by
    unfold convH
    rw [u1, u2]
    dsimp only
    rw [h, hi]
    dsimp only
    rw [hl]
    simp only [Bool.and_eq_true] at hr
    rw [hr.1, hr.2]
    rfl
  unfold q0u
  rw [h1, h2]
theorem qi0 {z : AV} {s : List UInt8} {H : Heap} : newsZ base 1 1 z 9 (.str s) H = some (s.map eb) := by
  unfold newsZ newsOf
  rw [qb2]
  rfl
/-! ### a builder with room -/
def notBy (o : HObj) : Prop := ∀ w es, o ≠ .row w 1 5 es
def Keep (b : Nat) (H H' : Heap) : Prop := ∀ k o, k ≠ b → notBy o → H[k]? = some o → H'[k]? = some o
theorem Keep.trans {b : Nat} {H H1 H2 : Heap} (h : Keep b H H1) (g : Keep b H1 H2) : Keep b H H2 := fun k o hk hn ho => g k o hk hn (h k o hk hn ho)
theorem Keep.refl {b : Nat} {H : Heap} : Keep b H H := fun _ _ _ _ h => h
theorem q5v {w : Nat} {es : List AV} : notBy (.row w 1 9 es) := fun w es h => by cases h
def BdC (H : Heap) (b cap : Nat) (out : List UInt8) : Prop := ∃ id ver, H[b]? = some (.row 0 2 94 [.agg [.ptr b 0 0 0, .sl id ver 0 out.length cap]]) ∧ H[id]? = some (.row ver 1 5 (out.map eb)) ∧ out.length ≤ cap
theorem kCc1 {H : Heap} {b : Nat} {v : AV} (hb : H[b]? = some (.row 0 2 94 [.agg [.nilp, v]])) {R : Type} {k : AV → Heap → Option R} : polK pCc [.ptr b 0 0 0] H k = k (.tup []) (H.set b (.row 0 2 94 [.agg [.ptr b 0 0 0, v]])) := by
  have up : base.P.underlying 92 = some (.pointer 94) := by kernel_rfl
  have n1 : A.nilCheck (.ptr b 0 0 0) H = some (.ptr b 0 0 0) := q1c hb
  have n2 : A.fa 0 (.ptr b 0 0 0) H = some (.ptr b 0 0 0) := q44 hb
  have n0 : nilC base.P (.ptr b 0 0 0) H = some (.ptr b 0 0 0) := q2j hb
  have n3 : A.load false 1 (.ptr b 0 0 0) H = some .nilp := q2y hb rfl rfl
  have n4 : A.bin base.P .eql 92 .nilp .nilp true H = some (.bool true) := by simp [A.bin, up, A.eqNil]
  have c1 : ∀ (R : Type) (k : AV → Heap → Option R), q0u base 92 125 (.ptr b 0 0 0) H k = k (.ptr b 0 0 0) H := fun R k => conv_up hb rfl
  have c2 : ∀ (R : Type) (k : AV → Heap → Option R), q0u base 125 92 (.ptr b 0 0 0) H k = k (.ptr b 0 0 0) H := fun R k => qiz hb rfl
  have n5 : A.store 1 (.ptr b 0 0 0) (.ptr b 0 0 0) H = some (H.set b (.row 0 2 94 [.agg [.ptr b 0 0 0, v]])) := q6n (j := 0) (off := 0) (cs := [.nilp, v]) (v := .ptr b 0 0 0) (w := .nilp) hb rfl rfl rfl
  have hr : runF base TCc 78 [.ptr b 0 0 0] H = some (.tup [], H.set b (.row 0 2 94 [.agg [.ptr b 0 0 0, v]])) := q3z (Evs.of fun n m => by
    generalize H.set b (.row 0 2 94 [.agg [.ptr b 0 0 0, v]]) = H2 at *
    simp [↓q00, ↓q01, ↓q0e, ↓q02, S78, n0, n1, n2, n3, n4, c1, c2, n5, kSame59])
  exact qbu hr
theorem kCc2 {H : Heap} {b : Nat} {v : AV} (hb : H[b]? = some (.row 0 2 94 [.agg [.ptr b 0 0 0, v]])) {R : Type} {k : AV → Heap → Option R} : polK pCc [.ptr b 0 0 0] H k = k (.tup []) H := by
  have up : base.P.underlying 92 = some (.pointer 94) := by kernel_rfl
  have n1 : A.nilCheck (.ptr b 0 0 0) H = some (.ptr b 0 0 0) := q1c hb
  have n2 : A.fa 0 (.ptr b 0 0 0) H = some (.ptr b 0 0 0) := q44 hb
  have n0 : nilC base.P (.ptr b 0 0 0) H = some (.ptr b 0 0 0) := q2j hb
  have n3 : A.load false 1 (.ptr b 0 0 0) H = some (.ptr b 0 0 0) := q2y hb rfl rfl
  have hi : (base.P.info? 94).isSome = true := by kernel_rfl
  have n4 : A.bin base.P .eql 92 (.ptr b 0 0 0) .nilp true H = some (.bool false) := by simp [A.bin, up, A.eqNil, A.eqNilH, A.alive, hb]
  have n5 : A.bin base.P .neq 92 (.ptr b 0 0 0) (.ptr b 0 0 0) false H = some (.bool false) := by simp [A.bin, up, A.eqNil, A.eqNilH, A.eqPtr, A.alive, hb, hi]
  have hr : runF base TCc 78 [.ptr b 0 0 0] H = some (.tup [], H) := q3z (Evs.of fun n m => by
    simp [↓q00, ↓q01, ↓q02, S78, n0, n2, n3, n4, n5])
  exact qbu hr
noncomputable def pMnz : Pol := .prim (q2q 5)
theorem okMnz : PolOK base 87 pMnz := q59 (fn := Tryd.f87) (ps := #[3]) (t := 83) Tryd.func87 (by kernel_rfl) (by kernel_rfl) (by kernel_rfl) (by kernel_rfl) (by kernel_rfl)
theorem kMnz {R : Type} {n : Nat} (h : n ≤ 1000000000) {H : Heap} {k : AV → Heap → Option R} : polK pMnz [.int .i64 (n : Int)] H k = k (.sl H.length 0 0 n n) (H ++ [.row 0 1 5 []]) := by
  have e : q2q 5 [.int .i64 (n : Int)] H = some (.sl H.length 0 0 n n, H ++ [.row 0 1 5 []]) := by
    have h1 : (decide ((0 : Int) ≤ (n : Int)) && decide ((n : Int) ≤ 281474976710656)) = true := by simp; omega
    unfold q2q
    dsimp only
    rw [h1]
    rfl
  show polK (.prim (q2q 5)) _ H k = _
  simp only [polK, e, q04]
noncomputable abbrev TGrw : List (FuncId × Pol) := [(87, pMnz)]
noncomputable def pGrw : Pol := .prim (runF base TGrw 79)
theorem okGrw : PolOK base 79 pGrw := q8v base_ok TGrw ⟨okMnz, trivial⟩
theorem kGrw {H : Heap} {b : Nat} (hb : H[b]? = some (.row 0 2 94 [.agg [.ptr b 0 0 0, .nils]])) {n : Nat} (hn : n ≤ 100000000) : ∃ H' : Heap, BdC H' b n [] ∧ Keep b H H' ∧ ∀ (R : Type) (k : AV → Heap → Option R), polK pGrw [.ptr b 0 0 0, .int .i64 (n : Int)] H k = k (.tup []) H' := by
  have n1 : A.nilCheck (.ptr b 0 0 0) H = some (.ptr b 0 0 0) := q1c hb
  have n2 : A.fa 1 (.ptr b 0 0 0) H = some (.ptr b 0 0 1) := q44 hb
  have n0 : nilC base.P (.ptr b 0 0 0) H = some (.ptr b 0 0 0) := q2j hb
  have n3 : A.load false 1 (.ptr b 0 0 1) H = some .nils := q2y hb rfl rfl
  have b1 : ∀ (R : Type) (k : AV → Heap → Option R), q17 base .cap [83] [.nils] H k = k (.int .i64 0) H := fun R k => by
    show (match base.P.underlying 83 with | some (.slice _) => k (.int .i64 0) H | _ => none) = _
    rw [q39]
  have hbl : b < H.length := (List.getElem?_eq_some_iff.1 hb).1
  have hb2 : (H ++ [HObj.row 0 1 5 []])[b]? = some (.row 0 2 94 [.agg [.ptr b 0 0 0, .nils]]) := q96 hb _
  have m1 : A.nilCheck (.ptr b 0 0 0) (H ++ [HObj.row 0 1 5 []]) = some (.ptr b 0 0 0) := q1c hb2
  have m2 : A.fa 1 (.ptr b 0 0 0) (H ++ [HObj.row 0 1 5 []]) = some (.ptr b 0 0 1) := q44 hb2
  have m0 : nilC base.P (.ptr b 0 0 0) (H ++ [HObj.row 0 1 5 []]) = some (.ptr b 0 0 0) := q2j hb2
  have m3 : A.load false 1 (.ptr b 0 0 1) (H ++ [HObj.row 0 1 5 []]) = some .nils := q2y hb2 rfl rfl
  have ln : ∀ H, A.len .nils H = some (.int .i64 0) := fun H => rfl
  have sl : A.slice 1 (.sl H.length 0 0 n n) none (some (.int .i64 0)) none (H ++ [HObj.row 0 1 5 []]) = some (.sl H.length 0 0 0 n) := by
    have ha : A.aliveZ (H ++ [HObj.row 0 1 5 []]) H.length 0 1 = true := by simp [A.aliveZ]
    simp [A.slice, A.bound, ha]
  have b2 : ∀ (R : Type) (k : AV → Heap → Option R), q17 base .copy [83, 83] [.sl H.length 0 0 0 n, .nils] (H ++ [HObj.row 0 1 5 []]) k = k (.int .i64 0) (H ++ [HObj.row 0 1 5 []]) := fun R k => by
    have e1 : base.elem 83 = some 5 := by kernel_rfl
    have e2 : base.size 5 = some 1 := by kernel_rfl
    have e3 : ∀ H, newsOf base 1 83 .nils H = some [] := fun H => by
      unfold newsOf
      rw [q39]
      rfl
    have e4 : A.isSl (.sl H.length 0 0 0 n) (H ++ [HObj.row 0 1 5 []]) = true := by simp [A.isSl, A.alive]
    show (match base.elem 83 with
      | some e => match base.size e with
        | some sz => match newsOf base sz 83 .nils (H ++ [HObj.row 0 1 5 []]) with
          | some [] => bif A.isSl (.sl H.length 0 0 0 n) (H ++ [HObj.row 0 1 5 []]) then k (.int .i64 0) (H ++ [HObj.row 0 1 5 []]) else none
          | _ => none
        | none => none
      | none => none) = _
    rw [e1]
    dsimp only
    rw [e2]
    dsimp only
    rw [e3]
    dsimp only
    rw [e4]
    rfl
  have n5 : A.store 1 (.ptr b 0 0 1) (.sl H.length 0 0 0 n) (H ++ [HObj.row 0 1 5 []]) = some ((H ++ [HObj.row 0 1 5 []]).set b (.row 0 2 94 [.agg [.ptr b 0 0 0, .sl H.length 0 0 0 n]])) := q6n (j := 0) (off := 1) (cs := [.ptr b 0 0 0, .nils]) (v := .sl H.length 0 0 0 n) (w := .nils) hb2 rfl rfl rfl
  have w1 : IntKind.wrap .i64 (n : Int) = (n : Int) := q08 (by omega) (by omega)
  have k1 : ∀ (R : Type) (H : Heap) (k : AV → Heap → Option R), polK pMnz [.int .i64 (n : Int)] H k = k (.sl H.length 0 0 n n) (H ++ [.row 0 1 5 []]) := fun R H k => kMnz (by omega)
  have w0 : IntKind.wrap .i64 0 = 0 := by decide
  have hr : runF base TGrw 79 [.ptr b 0 0 0, .int .i64 (n : Int)] H = some (.tup [], (H ++ [HObj.row 0 1 5 []]).set b (.row 0 2 94 [.agg [.ptr b 0 0 0, .sl H.length 0 0 0 n]])) := q3z (Evs.of fun a m => by
    generalize (H ++ [HObj.row 0 1 5 []]).set b (.row 0 2 94 [.agg [.ptr b 0 0 0, .sl H.length 0 0 0 n]]) = H3 at *
    generalize (n : Int) = N at *
    simp [↓q01, ↓q0e, ↓q06, S79, n0, n1, n2, n3, b1, w0, w1, k1, m1, m2, m3, ln, sl, b2, n5])
  refine ⟨(H ++ [HObj.row 0 1 5 []]).set b (.row 0 2 94 [.agg [.ptr b 0 0 0, .sl H.length 0 0 0 n]]), ⟨H.length, 0, List.getElem?_set_self (by simp; omega), ?_, Nat.zero_le _⟩, fun k o hk _ h => ?_, fun R k => qbu hr⟩
  · rw [List.getElem?_set_ne (by omega)]
    exact q2e
  · rw [List.getElem?_set_ne (fun e => hk e.symm), List.getElem?_append_left (List.getElem?_eq_some_iff.1 h).1]
    exact h
noncomputable abbrev TGro : List (FuncId × Pol) := [(78, pCc), (79, pGrw)]
noncomputable def pGro : Pol := .prim (runF base TGro 59)
theorem okGro : PolOK base 59 pGro := q8v base_ok TGro ⟨okCc, okGrw, trivial⟩
theorem kGro {H : Heap} {b : Nat} (hb : H[b]? = some (.row 0 2 94 [.agg [.nilp, .nils]])) {n : Nat} (h0 : 0 < n) (hn : n ≤ 100000000) : ∃ H' : Heap, BdC H' b n [] ∧ Keep b H H' ∧ ∀ (R : Type) (k : AV → Heap → Option R), polK pGro [.ptr b 0 0 0, .int .i64 (n : Int)] H k = k (.tup []) H' := by
  have hbl : b < H.length := (List.getElem?_eq_some_iff.1 hb).1
  have hb1 : (H.set b (.row 0 2 94 [.agg [.ptr b 0 0 0, .nils]]))[b]? = some (.row 0 2 94 [.agg [.ptr b 0 0 0, .nils]]) := List.getElem?_set_self hbl
  have k1 : ∀ (R : Type) (k : AV → Heap → Option R), polK pCc [.ptr b 0 0 0] H k = k (.tup []) (H.set b (.row 0 2 94 [.agg [.ptr b 0 0 0, .nils]])) := fun R k => kCc1 hb
  have hk0 : Keep b H (H.set b (.row 0 2 94 [.agg [.ptr b 0 0 0, .nils]])) := fun k o hk _ h => by rw [List.getElem?_set_ne (fun e => hk e.symm)]; exact h
  generalize H.set b (.row 0 2 94 [.agg [.ptr b 0 0 0, .nils]]) = H1 at *
  obtain ⟨H2, hB, hK, k2⟩ := kGrw hb1 hn
  have n1 : A.nilCheck (.ptr b 0 0 0) H1 = some (.ptr b 0 0 0) := q1c hb1
  have n2 : A.fa 1 (.ptr b 0 0 0) H1 = some (.ptr b 0 0 1) := q44 hb1
  have n0 : nilC base.P (.ptr b 0 0 0) H1 = some (.ptr b 0 0 0) := q2j hb1
  have n3 : A.load false 1 (.ptr b 0 0 1) H1 = some .nils := q2y hb1 rfl rfl
  have b1 : ∀ (R : Type) (k : AV → Heap → Option R), q17 base .cap [83] [.nils] H1 k = k (.int .i64 0) H1 := fun R k => by
    show (match base.P.underlying 83 with | some (.slice _) => k (.int .i64 0) H1 | _ => none) = _
    rw [q39]
  have ln : A.len .nils H1 = some (.int .i64 0) := rfl
  have z1 : ¬ ((n : Int) < 0) := by omega
  have w0 : IntKind.wrap .i64 0 = 0 := by decide
  have z2 : (0 : Int) < (n : Int) := by omega
  have hr : runF base TGro 59 [.ptr b 0 0 0, .int .i64 (n : Int)] H = some (.tup [], H2) := q3z (Evs.of fun a m => by
    generalize (n : Int) = N at *
    simp [↓q00, ↓q03, ↓q01, ↓q02, ↓q06, S59, k1, n1, n2, n3, b1, ln, z1, z2, k2, w0])
  exact ⟨H2, hB, hk0.trans hK, fun R k => qbu hr⟩
noncomputable abbrev TWs : List (FuncId × Pol) := [(78, pCc)]
noncomputable def pWs : Pol := .prim (runF base TWs 60)
theorem okWs : PolOK base 60 pWs := q8v base_ok TWs ⟨okCc, trivial⟩
theorem kWs {H : Heap} {b cap : Nat} {out : List UInt8} (h : BdC H b cap out) (s : List UInt8) (hc : out.length + s.length ≤ cap) (hl : cap ≤ 100000000) : ∃ H' : Heap, BdC H' b cap (out ++ s) ∧ Keep b H H' ∧ ∀ (R : Type) (k : AV → Heap → Option R), polK pWs [.ptr b 0 0 0, .str s] H k = k (.tup [.int .i64 (s.length : Int), .nili]) H' := by
  obtain ⟨id, ver, hb, hi, hle⟩ := h
  have hbl : b < H.length := (List.getElem?_eq_some_iff.1 hb).1
  have hil : id < H.length := (List.getElem?_eq_some_iff.1 hi).1
  have hne : id ≠ b := fun e => by
    subst e
    rw [hb] at hi
    injection hi with hi
    injection hi with _ hi
    cases hi
  have k1 : ∀ (R : Type) (k : AV → Heap → Option R), polK pCc [.ptr b 0 0 0] H k = k (.tup []) H := fun R k => kCc2 hb
  have n0 : nilC base.P (.ptr b 0 0 0) H = some (.ptr b 0 0 0) := q2j hb
  have n1 : A.nilCheck (.ptr b 0 0 0) H = some (.ptr b 0 0 0) := q1c hb
  have n2 : A.fa 1 (.ptr b 0 0 0) H = some (.ptr b 0 0 1) := q44 hb
  have n3 : A.load false 1 (.ptr b 0 0 1) H = some (.sl id ver 0 out.length cap) := q2y hb rfl rfl
  have n5 : ∀ z, newsZ base 1 1 z 9 (.str s) H = some (s.map eb) := fun z => qi0
  have hspl : A.splice (out.map eb) out.length (s.map eb) = (out ++ s).map eb := by
    have : A.splice (out.map eb) out.length (s.map eb) = (out.map eb).take out.length ++ s.map eb ++ (out.map eb).drop (out.length + (s.map eb).length) := rfl
    rw [this, List.take_of_length_le (by simp), List.drop_of_length_le (by simp), List.append_nil, List.map_append]
  have ha : A.append 1 1 5 (.sl id ver 0 out.length cap) (s.map eb) H = some (.sl id ver 0 (out ++ s).length cap, H.set id (.row ver 1 5 ((out ++ s).map eb))) := by
    simp only [A.append, hi]
    rw [if_pos ⟨trivial, trivial, trivial, by simp, hle, by simp; omega, by omega⟩, if_pos (by simpa using hc), Nat.zero_add, hspl]
    simp
  have hb1 : (H.set id (.row ver 1 5 ((out ++ s).map eb)))[b]? = some (.row 0 2 94 [.agg [.ptr b 0 0 0, .sl id ver 0 out.length cap]]) := by rw [List.getElem?_set_ne hne]; exact hb
  have hi1 : (H.set id (.row ver 1 5 ((out ++ s).map eb)))[id]? = some (.row ver 1 5 ((out ++ s).map eb)) := List.getElem?_set_self hil
  have hl1 : (H.set id (.row ver 1 5 ((out ++ s).map eb))).length = H.length := List.length_set
  have hK1 : Keep b H (H.set id (.row ver 1 5 ((out ++ s).map eb))) := fun k o hk hn h => by
    rw [List.getElem?_set_ne (fun e => by
      subst e
      rw [hi] at h
      injection h with h
      exact hn _ _ h.symm)]
    exact h
  generalize H.set id (.row ver 1 5 ((out ++ s).map eb)) = H1 at *
  have m0 : nilC base.P (.ptr b 0 0 0) H1 = some (.ptr b 0 0 0) := q2j hb1
  have m1 : A.nilCheck (.ptr b 0 0 0) H1 = some (.ptr b 0 0 0) := q1c hb1
  have m2 : A.fa 1 (.ptr b 0 0 0) H1 = some (.ptr b 0 0 1) := q44 hb1
  have n7 : A.store 1 (.ptr b 0 0 1) (.sl id ver 0 (out ++ s).length cap) H1 = some (H1.set b (.row 0 2 94 [.agg [.ptr b 0 0 0, .sl id ver 0 (out ++ s).length cap]])) := q6n (j := 0) (off := 1) (cs := [.ptr b 0 0 0, .sl id ver 0 out.length cap]) (v := .sl id ver 0 (out ++ s).length cap) (w := .sl id ver 0 out.length cap) hb1 rfl rfl rfl
  have n8 : A.lenStr (.str s) = some (.int .i64 (s.length : Int)) := rfl
  have hr : runF base TWs 60 [.ptr b 0 0 0, .str s] H = some (.tup [.int .i64 (s.length : Int), .nili], H1.set b (.row 0 2 94 [.agg [.ptr b 0 0 0, .sl id ver 0 (out ++ s).length cap]])) := q3z (Evs.of fun n m => by
    generalize H1.set b (.row 0 2 94 [.agg [.ptr b 0 0 0, .sl id ver 0 (out ++ s).length cap]]) = H2 at *
    generalize (out ++ s).length = lo at *
    generalize (s.length : Int) = L at *
    generalize s.map eb = es at *
    simp [↓q01, ↓q0w, ↓q0e, ↓q0k, S60, k1, n1, n2, n3, n5, ha, m1, m2, n7, n8])
  refine ⟨H1.set b (.row 0 2 94 [.agg [.ptr b 0 0 0, .sl id ver 0 (out ++ s).length cap]]), ⟨id, ver, List.getElem?_set_self (by omega), ?_, by simpa using hc⟩, hK1.trans fun k o hk _ h => ?_, fun R k => qbu hr⟩
  · rw [List.getElem?_set_ne (fun e => hne e.symm)]
    exact hi1
  · rw [List.getElem?_set_ne (fun e => hk e.symm)]
    exact h
noncomputable def pStr : Pol := .prim (runF base [] 61)
theorem okStr : PolOK base 61 pStr := q8v base_ok [] trivial
theorem kStr {H : Heap} {b cap : Nat} {out : List UInt8} (h : BdC H b cap out) (hne : out ≠ []) (hl : out.length ≤ 100000000) : ∃ H' : Heap, ∀ (R : Type) (k : AV → Heap → Option R), polK pStr [.ptr b 0 0 0] H k = k (.str out) H' := by
  obtain ⟨id, ver, hb, h2, hle⟩ := h
  have hpos : 0 < out.length := List.length_pos_iff.2 hne
  have n0 : nilC base.P (.ptr b 0 0 0) H = some (.ptr b 0 0 0) := q2j hb
  have n1 : A.nilCheck (.ptr b 0 0 0) H = some (.ptr b 0 0 0) := q1c hb
  have n2 : A.fa 1 (.ptr b 0 0 0) H = some (.ptr b 0 0 1) := q44 hb
  have n3 : A.load false 1 (.ptr b 0 0 1) H = some (.sl id ver 0 out.length cap) := q2y hb rfl rfl
  have b1 : ∀ (R : Type) (k : AV → Heap → Option R), q17 base .unsafeSliceData [83] [.sl id ver 0 out.length cap] H k = k (.ptr id ver 0 0) H := fun R k => by
    show withV (A.sliceData (.sl id ver 0 out.length cap) H) (fun v => k v H) = _
    have : A.sliceData (.sl id ver 0 out.length cap) H = some (.ptr id ver 0 0) := by simp [A.sliceData, A.alive, h2, hpos]
    rw [this]
    rfl
  have n4 : A.len (.sl id ver 0 out.length cap) H = some (.int .i64 (out.length : Int)) := by simp [A.len, A.alive, h2]
  have b2 : ∀ (R : Type) (k : AV → Heap → Option R), q17 base .unsafeString [117, 3] [.ptr id ver 0 0, .int .i64 (out.length : Int)] H k = k (.str out) (H.set id .dead) := fun R k => by
    have u1 : base.P.underlying 117 = some (.pointer 5) := by kernel_rfl
    have u2 : Nat.beq (base.P.cellsOf 5) 1 = true := by kernel_rfl
    have hu : A.unsafeStr 5 (.ptr id ver 0 0) (.int .i64 (out.length : Int)) H = some (.str out, H.set id .dead) := by
      have e0 : ¬ ((out.length : Int) = 0) := by omega
      have e1 : (0 : Int) < (out.length : Int) := by omega
      have e2 : (out.length : Int) ≤ 9223372036854775807 := by omega
      have e3 : ((out.map eb).drop 0).take ((out.length : Int).toNat) = out.map eb := by
        rw [List.drop_zero]
        exact List.take_of_length_le (by simp)
      simp only [A.unsafeStr, h2, e0, decide_false, cond_false, e1, e2, decide_true, e3, q81]
      simp
    show (match base.P.underlying 117 with
      | some (.pointer e) => bif Nat.beq (base.P.cellsOf e) 1 then match A.unsafeStr e (.ptr id ver 0 0) (.int .i64 (out.length : Int)) H with
        | some (v, H') => k v H'
        | none => none
        else none
      | _ => none) = _
    rw [u1]
    dsimp only
    rw [u2, hu]
    rfl
  have hr : runF base [] 61 [.ptr b 0 0 0] H = some (.str out, H.set id .dead) := q3z (Evs.of fun n m => by
    generalize (out.length : Int) = L at *
    generalize out.length = l at *
    simp [↓q01, ↓q06, S61, n0, n1, n2, n3, b1, n4, b2])
  exact ⟨_, fun R k => qbu hr⟩
end Go.Proofs.YtikkpecdkdgmfaaDoor

/- Numbers and their texts: texts in a row, one behind the other. -/
set_option maxRecDepth 100000
set_option maxHeartbeats 8000000
namespace Go.Proofs.YtikkpecdkdgmfaaDoor
open Go Go.Den Go.Lib
noncomputable abbrev TJn : List (FuncId × Pol) := [(59, pGro), (60, pWs), (61, pStr)]
noncomputable def pJn : Pol := .prim (runF base TJn 41)
theorem okJn : PolOK base 41 pJn := q8v base_ok TJn ⟨okGro, okWs, okStr, trivial⟩
theorem jn_sum {pol : FuncId → Pol} {H : Heap} {id ver : Nat} {ss : List (List UInt8)} (h : H[id]? = some (.row ver 1 9 (ss.map AV.str))) (hn : ss.length ≤ 1000000) (ht : ss.flatten.length ≤ 1000000) :
    ∀ (r : List (List UInt8)) (i tot : Nat), ss.drop i = r → i ≤ ss.length → tot + r.flatten.length ≤ 1000000 → LDoes (qip pol) ⟨[.sl id ver 0 ss.length ss.length, .str [], .int .i64 (tot : Int), .sl id ver 0 ss.length ss.length, .int .i64 (ss.length : Int), .int .i64 (i : Int)], []⟩ H 0 ⟨[.sl id ver 0 ss.length ss.length, .str [], .int .i64 ((tot + r.flatten.length : Nat) : Int)], []⟩ H := by
  intro r
  induction r with
  | nil =>
    intro i tot hr hi _
    have hi : i = ss.length := by
      have := congrArg List.length hr
      rw [List.length_drop, List.length_nil] at this
      omega
    subst hi
    refine LDoes.step (Evs.of fun n m => ?_)
    simp [↓q00, ↓q01, qa2]
  | cons s r ih =>
    intro i tot hr hi htt
    have hlt : i < ss.length := by
      have := congrArg List.length hr
      rw [List.length_drop, List.length_cons] at this
      omega
    have hd := List.drop_eq_getElem_cons hlt
    rw [hr] at hd
    injection hd with hd1 hd2
    have hlt' : (i : Int) < (ss.length : Int) := by omega
    have he : (ss.map AV.str)[i]? = some (AV.str s) := by simp [hlt, hd1]
    have x1 : A.idx 1 (.sl id ver 0 ss.length ss.length) (.int .i64 (i : Int)) H = some (.ptr id ver i 0) := by
      have := q4d (cap := ss.length) (off := 0) (k := .i64) h (i := (i : Int)) (n := ss.length) (by omega) (by omega)
      simpa using this
    have y1 : A.load false 1 (.ptr id ver i 0) H = some (AV.str s) := q3x h he rfl
    have n1 : A.lenStr (.str s) = some (.int .i64 (s.length : Int)) := rfl
    rw [List.flatten_cons, List.length_append] at htt
    have w1 : IntKind.wrap .i64 (9223372036854775807 - (tot : Int)) = 9223372036854775807 - (tot : Int) := q08 (by omega) (by omega)
    have g1 : ¬ ((s.length : Int) > 9223372036854775807 - (tot : Int)) := by omega
    have w2 : IntKind.wrap .i64 ((tot : Int) + (s.length : Int)) = ((tot + s.length : Nat) : Int) := by rw [q08 (by omega) (by omega)]; rfl
    have w3 : IntKind.wrap .i64 ((i : Int) + 1) = ((i + 1 : Nat) : Int) := by rw [q08 (by omega) (by omega)]; rfl
    have hL := ih (i + 1) (tot + s.length) hd2.symm (by omega) (by omega)
    have e : tot + s.length + r.flatten.length = tot + (s :: r).flatten.length := by rw [List.flatten_cons, List.length_append]; omega
    rw [e] at hL
    refine LDoes.step (Evs.withL hL (Evs.of fun n m _ h2 => ?_))
    generalize ((tot + (s :: r).flatten.length : Nat) : Int) = T2 at *
    generalize ((tot + s.length : Nat) : Int) = T1 at *
    generalize ((i + 1 : Nat) : Int) = I1 at *
    generalize (tot : Int) = T0 at *
    generalize (s.length : Int) = S0 at *
    generalize (ss.length : Int) = N at *
    generalize (i : Int) = I at *
    have g1' : ¬ (9223372036854775807 - T0 < S0) := g1
    simp [↓q00, ↓q03, ↓q01, ↓q02, qa2, hlt', x1, y1, n1, w1, g1', w2, w3, h2]
theorem jn_write {b id ver cap : Nat} {ss : List (List UInt8)} (hn : ss.length ≤ 1000000) (hcap : cap ≤ 1000000) (hne : id ≠ b) :
    ∀ (r : List (List UInt8)) (i : Nat) (out : List UInt8) (H : Heap), ss.drop (1 + i) = r → 1 + i ≤ ss.length → out.length + r.flatten.length ≤ cap → BdC H b cap out → H[id]? = some (.row ver 1 9 (ss.map AV.str)) →
    ∃ H', BdC H' b cap (out ++ r.flatten) ∧ LDoes (qiq (polT TJn)) ⟨[.str [], .ptr b 0 0 0, .sl id ver 1 (ss.length - 1) (ss.length - 1), .int .i64 ((ss.length - 1 : Nat) : Int), .int .i64 (i : Int)], []⟩ H 0 ⟨[.ptr b 0 0 0], []⟩ H' := by
  intro r
  induction r with
  | nil =>
    intro i out H hr hi hc hB h
    have hi : i = ss.length - 1 := by
      have := congrArg List.length hr
      rw [List.length_drop, List.length_nil] at this
      omega
    subst hi
    refine ⟨H, by simpa using hB, LDoes.step (Evs.of fun n m => ?_)⟩
    generalize ((ss.length - 1 : Nat) : Int) = N at *
    simp [↓q00, ↓q01, qa3]
  | cons s r ih =>
    intro i out H hr hi hc hB h
    have hlt : 1 + i < ss.length := by
      have := congrArg List.length hr
      rw [List.length_drop, List.length_cons] at this
      omega
    have hd := List.drop_eq_getElem_cons hlt
    rw [hr] at hd
    injection hd with hd1 hd2
    have hlt' : (i : Int) < ((ss.length - 1 : Nat) : Int) := by omega
    have he : (ss.map AV.str)[1 + i]? = some (AV.str s) := by simp [hlt, hd1]
    have x1 : A.idx 1 (.sl id ver 1 (ss.length - 1) (ss.length - 1)) (.int .i64 (i : Int)) H = some (.ptr id ver (1 + i) 0) := by
      have := q4d (cap := ss.length - 1) (off := 1) (k := .i64) h (i := (i : Int)) (n := ss.length - 1) (by omega) (by omega)
      simpa using this
    have y1 : A.load false 1 (.ptr id ver (1 + i) 0) H = some (AV.str s) := q3x h he rfl
    rw [List.flatten_cons, List.length_append] at hc
    obtain ⟨H1, hB1, hK1, k1⟩ := kWs hB [] (by simp; omega) (by omega)
    rw [List.append_nil] at hB1
    obtain ⟨H2, hB2, hK2, k2⟩ := kWs hB1 s (by omega) (by omega)
    have h2' := hK2 id _ hne q5v (hK1 id _ hne q5v h)
    have e1 : 1 + (i + 1) = 1 + i + 1 := by omega
    obtain ⟨H3, hB3, hL⟩ := ih (i + 1) (out ++ s) H2 (by rw [e1]; exact hd2.symm) (by omega) (by rw [List.length_append]; omega) hB2 h2'
    rw [List.append_assoc, ← List.flatten_cons] at hB3
    have w3 : IntKind.wrap .i64 ((i : Int) + 1) = ((i + 1 : Nat) : Int) := by rw [q08 (by omega) (by omega)]; rfl
    refine ⟨H3, hB3, LDoes.step (Evs.withL hL (Evs.of fun n m _ h2 => ?_))⟩
    generalize ((i + 1 : Nat) : Int) = I1 at *
    generalize ((ss.length - 1 : Nat) : Int) = N at *
    generalize ss.length - 1 = nn at *
    generalize (i : Int) = I at *
    simp [↓q00, ↓q01, qa3, hlt', x1, y1, k1, k2, w3, h2]
theorem kJn {H : Heap} {id ver : Nat} {ss : List (List UInt8)} (h : H[id]? = some (.row ver 1 9 (ss.map AV.str))) (hn : ss.length ≤ 1000000) (ht : ss.flatten.length ≤ 1000000) (h0 : ss ≠ []) (h1 : ∀ s ∈ ss, s ≠ []) :
    ∃ H' : Heap, ∀ (R : Type) (k : AV → Heap → Option R), polK pJn [.sl id ver 0 ss.length ss.length, .str []] H k = k (.str ss.flatten) H' := by
  have n1 : A.len (.sl id ver 0 ss.length ss.length) H = some (.int .i64 (ss.length : Int)) := by simp [A.len, A.alive, h]
  have ls : A.lenStr (.str []) = some (.int .i64 0) := rfl
  have hx : ∀ j (hj : j < ss.length) (H : Heap), H[id]? = some (.row ver 1 9 (ss.map AV.str)) → A.idx 1 (.sl id ver 0 ss.length ss.length) (.int .i64 (j : Int)) H = some (.ptr id ver j 0) := fun j hj H h => by
    have := q4d (cap := ss.length) (off := 0) (k := .i64) h (i := (j : Int)) (n := ss.length) (by omega) (by omega)
    simpa using this
  have z0 : ¬ ((ss.length : Int) = 0) := by
    have := List.length_pos_iff.2 h0
    omega
  cases ss with
  | nil => exact absurd rfl h0
  | cons s r =>
    have e0 : (List.map AV.str (s :: r))[0]? = some (AV.str s) := rfl
    cases r with
    | nil =>
      have x1 := hx 0 (by simp) H h
      have y1 : A.load false 1 (.ptr id ver 0 0) H = some (AV.str s) := q3x h e0 rfl
      have hr : runF base TJn 41 [.sl id ver 0 1 1, .str []] H = some (.str s, H) := q3z (Evs.of fun n m => by
        have n1' : A.len (.sl id ver 0 1 1) H = some (.int .i64 1) := n1
        have x1' : A.idx 1 (.sl id ver 0 1 1) (.int .i64 0) H = some (.ptr id ver 0 0) := x1
        simp [↓q00, ↓q01, S41, n1', x1', y1])
      refine ⟨H, fun R k => ?_⟩
      have e : [s].flatten = s := by simp
      rw [e]
      exact qbu hr
    | cons s2 r =>
      generalize hss : s :: s2 :: r = ss at *
      have hl2 : 2 ≤ ss.length := by rw [← hss]; simp
      have z1 : ¬ ((ss.length : Int) = 1) := by omega
      have hfl : ss.flatten = s ++ (s2 :: r).flatten := by rw [← hss]; rfl
      have hsne : s ≠ [] := h1 s (by rw [← hss]; exact List.mem_cons_self)
      have hdr : ss.drop (1 + 0) = s2 :: r := by rw [← hss]; rfl
      have hpos : 0 < ss.flatten.length := by
        rw [hfl, List.length_append]
        have := List.length_pos_iff.2 hsne
        omega
      have hL0 := jn_sum (pol := polT TJn) h hn ht ss 0 0 rfl (by omega) (by omega)
      have hil : id < H.length := (List.getElem?_eq_some_iff.1 h).1
      have hb : (H ++ [HObj.row 0 2 94 [.agg [.nilp, .nils]]])[H.length]? = some (.row 0 2 94 [.agg [.nilp, .nils]]) := q2e
      have hr1 := q96 h [HObj.row 0 2 94 [.agg [.nilp, .nils]]]
      have hne : id ≠ H.length := by omega
      obtain ⟨H1, hB1, hK1, k1⟩ := kGro hb hpos (by omega)
      have hr2 := hK1 id _ hne q5v hr1
      obtain ⟨H2, hB2, hK2, k2⟩ := kWs hB1 s (by rw [hfl, List.length_append]; simp) (by omega)
      rw [List.nil_append] at hB2
      have hr3 := hK2 id _ hne q5v hr2
      obtain ⟨H3, hB3, hL1⟩ := jn_write hn ht hne (s2 :: r) 0 s H2 hdr (by omega) (by rw [hfl, List.length_append]; omega) hB2 hr3
      rw [← hfl] at hB3
      obtain ⟨H4, k3⟩ := kStr hB3 (by rw [← List.length_pos_iff]; exact hpos) (by omega)
      have x1 := hx 0 (by omega) H1 hr2
      have y1 : A.load false 1 (.ptr id ver 0 0) H1 = some (AV.str s) := q3x hr2 e0 rfl
      have sl : A.slice 1 (.sl id ver 0 ss.length ss.length) (some (.int .i64 1)) none none H2 = some (.sl id ver 1 (ss.length - 1) (ss.length - 1)) := by
        have ha : A.aliveZ H2 id ver 1 = true := by simp [A.aliveZ, hr3]
        simp [A.slice, A.bound, ha]
        omega
      have n2 : A.len (.sl id ver 1 (ss.length - 1) (ss.length - 1)) H2 = some (.int .i64 ((ss.length - 1 : Nat) : Int)) := by simp [A.len, A.alive, hr3]
      have hr : runF base TJn 41 [.sl id ver 0 ss.length ss.length, .str []] H = some (.str ss.flatten, H4) := q3z (Evs.withL hL1 (Evs.withL hL0 (Evs.of fun n m h1 _ h2 _ => by
        have h1' : qip (polT TJn) n n ⟨[.sl id ver 0 ss.length ss.length, .str [], .int .i64 0, .sl id ver 0 ss.length ss.length, .int .i64 (ss.length : Int), .int .i64 0], []⟩ H = some (0, ⟨[.sl id ver 0 ss.length ss.length, .str [], .int .i64 (ss.flatten.length : Int)], []⟩, H) := by
          have e : 0 + ss.flatten.length = ss.flatten.length := Nat.zero_add _
          rw [e] at h1
          exact h1
        have h2' : qiq (polT TJn) n n ⟨[.str [], .ptr H.length 0 0 0, .sl id ver 1 (ss.length - 1) (ss.length - 1), .int .i64 ((ss.length - 1 : Nat) : Int), .int .i64 0], []⟩ H2 = some (0, ⟨[.ptr H.length 0 0 0], []⟩, H3) := h2
        have x1' : A.idx 1 (.sl id ver 0 ss.length ss.length) (.int .i64 0) H1 = some (.ptr id ver 0 0) := x1
        clear h1 h2 x1 hL0 hL1
        generalize ss.flatten = F at *
        generalize (F.length : Int) = FL at *
        generalize ((ss.length - 1 : Nat) : Int) = N1 at *
        generalize ss.length - 1 = nn1 at *
        generalize (ss.length : Int) = N at *
        generalize ss.length = nn at *
        simp [↓q00, ↓q03, ↓q0f, ↓q01, ↓q02, S41, n1, z0, z1, ls, h1', k1, x1', y1, k2, sl, n2, h2', k3])))
      exact ⟨H4, fun R k => qbu hr⟩
end Go.Proofs.YtikkpecdkdgmfaaDoor

/- Numbers and their texts: a number's text. -/
set_option maxRecDepth 100000
set_option maxHeartbeats 8000000
namespace Go.Proofs.YtikkpecdkdgmfaaDoor
open Go Go.Den Go.Lib
theorem qad : ∀ (k n : Nat), n < 1000000000 ^ k → (dparts n).length ≤ k
  | 0, n, h => by
    have : n = 0 := by simpa using h
    subst this
    rw [q30]
    exact Nat.le_refl _
  | k + 1, n, h => by
    by_cases h0 : n = 0
    · subst h0
      rw [q30]
      exact Nat.zero_le _
    · rw [q3h h0, List.length_cons]
      have := qad k (n / 1000000000) (by rw [Nat.pow_succ] at h; exact Nat.div_lt_of_lt_mul (by rw [Nat.mul_comm]; exact h))
      omega
theorem qew (n : Nat) : ∀ s ∈ dparts n, s.length = 9 := by
  induction n using Nat.strongRecOn with
  | _ n ih =>
    intro s hs
    by_cases h0 : n = 0
    · subst h0
      rw [q30] at hs
      cases hs
    · rw [q3h h0, List.mem_cons] at hs
      rcases hs with rfl | hs
      · exact q4p _ _
      · exact ih (n / 1000000000) (by omega) s hs
def nTxt (a : Nm) : List UInt8 := sgnT a.1 (mag a)
def mid (d : Option (List UInt32)) : Prop := (d.getD []).length ≤ 10000
theorem mid.few {d : Option (List UInt32)} (h : mid d) : few d := by unfold mid at h; unfold Go.Den.few; omega
noncomputable abbrev TTxt : List (FuncId × Pol) := [(19, pNorm), (36, pByOne), (37, pDgt), (38, pCut), (39, pRvs), (41, pJn), (40, pTl)]
noncomputable def pTxt : Pol := .still (p1 cN .str (fun a => mid a.2) nTxt)
theorem ty_strs : base.P.underlying 67 = some (.slice 9) := by kernel_rfl
theorem qc1 (a : Nm) : (toI a).natAbs = mag a := by
  unfold toI sgn
  split <;> omega
theorem lim_mid {v k : Nat} (h : (lim v).length ≤ k) : (lim (v / 1000000000)).length ≤ k := by
  rw [lim_le] at h ⊢
  exact Nat.lt_of_le_of_lt (Nat.div_le_self _ _) h
theorem txt_loop {c0 : List AV} : ∀ (v k : Nat) (d : Option (List UInt32)) (ps : List (List UInt8)) (t3 : AV) (H : Heap), v < 1000000000 ^ k → d.getD [] = lim v → (lim v).length ≤ 10000 → ps.length + k ≤ 1000000 → Out AV.str 1 9 H t3 ps →
    ∃ H' t', LDoes (L13_0 (polT TTxt)) ⟨[t3, eD d], [c0]⟩ H 0 ⟨[t'], [c0]⟩ H' ∧ Out AV.str 1 9 H' t' (ps ++ dparts v) := by
  intro v
  induction v using Nat.strongRecOn with
  | _ v ih =>
    intro k d ps t3 H hv hd hl hk hO
    have l1 : A.len (eD d) H = some (.int .i64 ((lim v).length : Int)) := by rw [← hd]; exact q19
    by_cases h0 : v = 0
    · subst h0
      rw [q30, List.append_nil]
      rw [q0o] at l1
      exact ⟨H, t3, LDoes.step (Evs.of fun n m => by simp [↓q00, ↓q01, -q19, q9u, l1]), hO⟩
    · have hpos : (0 : Int) < ((lim v).length : Int) := by
        have := (not_congr lim_nil).2 h0
        have := List.length_pos_iff.2 this
        omega
      obtain ⟨k, rfl⟩ : ∃ j, k = j + 1 := by
        cases k with
        | zero => simp at hv; omega
        | succ k => exact ⟨k, rfl⟩
      have hfew : few d := by unfold few; rw [hd]; omega
      have hval : val (d.getD []) = v := by rw [hd, q0q]
      have hb9 : (1000000000 : UInt32).toNat = 1000000000 := rfl
      have k1 : ∀ (R : Type) (H : Heap) (k : AV → Heap → Option R), polK pByOne [eD d, .int .u32 1000000000] H k = k (.tup [eD (byOneS d 1000000000).1, eu (byOneS d 1000000000).2]) H := fun R H k => kByOne (b := 1000000000) hfew (by decide)
      have hb1 : (byOneS d 1000000000).1 = some (digs (lim v).length (v / 1000000000)) := by unfold byOneS; rw [hval, hb9, hd]
      have hb2 : (byOneS d 1000000000).2 = UInt32.ofNat (v % 1000000000) := by unfold byOneS; rw [hval, hb9]
      rw [hb1, hb2] at k1
      have k1' : ∀ (R : Type) (H : Heap) (k : AV → Heap → Option R), polK pByOne [eD d, .int .u32 1000000000] H k = k (.tup [eD (some (digs (lim v).length (v / 1000000000))), .int .u32 ((UInt32.ofNat (v % 1000000000)).toNat : Int)]) H := k1
      clear k1
      have hlt : v / 1000000000 < 4294967296 ^ (lim v).length := Nat.lt_of_le_of_lt (Nat.div_le_self _ _) (lim_le.1 (Nat.le_refl _))
      have k2 : ∀ (R : Type) (H : Heap) (k : AV → Heap → Option R), polK pDgt [.int .u32 ((UInt32.ofNat (v % 1000000000)).toNat : Int)] H k = k (.str (dgs 9 (v % 1000000000))) H := fun R H k => by
        have := kDgt (x := UInt32.ofNat (v % 1000000000)) (H := H) (k := k)
        rw [this, q0v, Nat.mod_eq_of_lt (by omega)]
      have k3 : ∀ (R : Type) (H : Heap) (k : AV → Heap → Option R), polK pCut [eD (some (digs (lim v).length (v / 1000000000)))] H k = k (eD (some (lim (v / 1000000000)))) H := fun R H k => by
        rw [kCut (by unfold few; rw [Option.getD_some, q0a]; omega)]
        have : cutS (some (digs (lim v).length (v / 1000000000))) = some (lim (v / 1000000000)) := by
          show some (lim (val (digs (lim v).length (v / 1000000000)))) = _
          rw [q11 hlt]
        rw [this]
      obtain ⟨t4, H2, ha, hO2⟩ := hO.push (bytes := 16) (dgs 9 (v % 1000000000)) (by omega) (by omega)
      obtain ⟨H', t', hL, hO3⟩ := ih (v / 1000000000) (by omega) k (some (lim (v / 1000000000))) (ps ++ [dgs 9 (v % 1000000000)]) t4 H2 (Nat.div_lt_of_lt_mul (by rw [Nat.pow_succ, Nat.mul_comm] at hv; exact hv)) rfl (lim_mid hl) (by rw [List.length_append, List.length_singleton]; omega) hO2
      rw [List.append_assoc, List.singleton_append, ← q3h h0] at hO3
      have hfe : A.fillElems 1 [AV.str []] [(0, 1, AV.str (dgs 9 (v % 1000000000)))] = some [AV.str (dgs 9 (v % 1000000000))] := by simp [A.fillElems]
      have hrd : A.read 1 (.sl H.length 0 0 1 1) (H ++ [HObj.row 0 1 9 [AV.str (dgs 9 (v % 1000000000))]]) = some [AV.str (dgs 9 (v % 1000000000))] := q7v q2e rfl
      refine ⟨H', t', LDoes.step (Evs.withL hL (Evs.of fun n m _ h2 => ?_)), hO3⟩
      generalize ((UInt32.ofNat (v % 1000000000)).toNat : Int) = R9 at *
      generalize dgs 9 (v % 1000000000) = D at *
      generalize ((lim v).length : Int) = N at *
      generalize digs (lim v).length (v / 1000000000) = Q at *
      generalize lim (v / 1000000000) = Q2 at *
      simp [↓q00, ↓q03, ↓q0f, ↓q01, ↓q0w, ↓q0k, -q19, q9u, l1, hpos, k1', k2, hfe, q20 ty_strs, hrd, ha, k3, h2]
theorem qcj {t : TypeId} {c : Bool} {H : Heap} {a b : List UInt8} (h : a.length + b.length ≤ 140737488355328) : A.bin base.P .add t (.str a) (.str b) c H = some (.str (a ++ b)) := by simp [A.bin, A.binStr, h]
theorem okTxt : PolOK base 13 pTxt := still1 base_ok TTxt ⟨okNorm, okByOne, okDgt, okCut, okRvs, okJn, okTl, trivial⟩ fun a ha => by
  have hrep := q4v a
  have k1 : ∀ (R : Type) (H : Heap) (k : AV → Heap → Option R), polK pNorm [eN a] H k = k (eN (normS a)) H := fun R H k => kNorm ha.few
  obtain ⟨h1, h2⟩ := hrep
  rw [qc1] at h2
  have hle : (lim (mag a)).length ≤ 10000 := Nat.le_trans (lim_le.2 (q1n _)) ha
  have e1 : cN.enc a = eN a := rfl
  rw [e1]
  have hsg : decide (toI a < 0) = (a.1 && decide (mag a ≠ 0)) := by
    unfold toI sgn
    cases a.1
    · have : ¬ ((mag a : Int) < 0) := by omega
      simp
    · by_cases h0 : mag a = 0
      · simp [h0]
      · have : -(mag a : Int) < 0 := by omega
        simp [h0]
        omega
  rw [hsg] at h1
  generalize normS a = x at *
  obtain ⟨b, d⟩ := x
  dsimp only at h1 h2
  subst h1
  have l1 : ∀ H, A.len (eD d) H = some (.int .i64 ((lim (mag a)).length : Int)) := fun H => by rw [← h2]; exact q19
  unfold nTxt sgnT txt
  by_cases h0 : mag a = 0
  · rw [h0, q0o] at l1
    rw [if_neg (by simp [h0]), if_pos h0]
    refine Evs.of fun n m => ?_
    simp [↓q00, ↓q03, ↓q07, ↓q01, ↓q06, -q19, S13, k1, A.splice, A.fits, A.ofList, l1]
  · have hne : ¬ ((lim (mag a)).length : Int) = 0 := by
      have := (not_congr lim_nil).2 h0
      have := List.length_pos_iff.2 this
      omega
    obtain ⟨J, hJ⟩ : ∃ J, J = 10000 := ⟨_, rfl⟩
    have hk : mag a < 1000000000 ^ (2 * J) := by
      have h3 : mag a < 4294967296 ^ J := lim_le.1 (by omega)
      have h4 : ∀ k : Nat, 4294967296 ^ k ≤ 1000000000 ^ (2 * k) := fun k => by
        rw [Nat.pow_mul]
        exact Nat.pow_le_pow_left (by decide) k
      exact Nat.lt_of_lt_of_le h3 (h4 J)
    obtain ⟨H1, t', hL, hO⟩ := txt_loop (c0 := [.bool (a.1 && decide (mag a ≠ 0)), eD d]) (mag a) (2 * J) d [] .nils [] hk h2 hle (by simp; omega) .nil
    rw [List.nil_append] at hO
    have hpl := qad (2 * J) (mag a) hk
    have hp9 := qew (mag a)
    have hpt := qex (mag a)
    have hdl : (decE (mag a)).length ≤ 9 * (2 * J) := by
      rw [decE_len]
      have e9 : ∀ k : Nat, 1000000000 ^ k = 10 ^ (9 * k) := fun k => by rw [Nat.pow_mul]
      rw [← e9 (2 * J)]
      exact hk
    have hpj := (q8d (mag a)).1
    have hfl : (dparts (mag a)).reverse.flatten.length = 9 * (dparts (mag a)).length := by rw [hpj, q4p]
    have hpne : dparts (mag a) ≠ [] := by rw [q3h h0]; simp
    generalize dparts (mag a) = ps at *
    rcases hO with ⟨e, -⟩ | ⟨id, ver, -, rfl, hrow⟩
    · exact absurd e hpne
    obtain ⟨H2, hrow2, k2⟩ := kRvs hrow (by omega)
    have hrl : ps.reverse.length = ps.length := List.length_reverse
    obtain ⟨H3, k3⟩ := kJn hrow2 (by omega) (by omega) (by simpa using hpne) (fun s hs => by
      have := hp9 s (by simpa using hs)
      intro e
      rw [e] at this
      cases this)
    rw [hrl] at k3
    have k4 : ∀ (R : Type) (H : Heap) (k : AV → Heap → Option R), polK pTl [.str ps.reverse.flatten, .str [48]] H k = k (.str (decE (mag a))) H := fun R H k => by rw [kTl, hpt]
    refine Evs.withL hL (Evs.of fun n m h1 _ => ?_)
    generalize ps.reverse.flatten = F at *
    by_cases hs : a.1 = true
    · have hb : (a.1 && decide (mag a ≠ 0)) = true := by rw [hs]; simp [h0]
      rw [if_pos ⟨hs, h0⟩, if_neg h0]
      rw [hb] at k1 h1
      have sa : ∀ H, A.bin base.P .add 9 (.str [45]) (.str (decE (mag a))) false H = some (.str (45 :: decE (mag a))) := fun H => qcj (by simp; omega)
      generalize decE (mag a) = X at *
      generalize ((lim (mag a)).length : Int) = N at *
      generalize ps.length = nn at *
      simp [↓q00, ↓q03, ↓q07, ↓q01, ↓q02, ↓q06, -q19, S13, k1, A.splice, A.fits, A.ofList, l1, hne, h1, k2, k3, k4, sa]
    · have hb : (a.1 && decide (mag a ≠ 0)) = false := by simp [hs]
      rw [if_neg (fun e => hs e.1), if_neg h0]
      rw [hb] at k1 h1
      generalize decE (mag a) = X at *
      generalize ((lim (mag a)).length : Int) = N at *
      generalize ps.length = nn at *
      simp [↓q00, ↓q03, ↓q07, ↓q01, ↓q02, ↓q06, -q19, S13, k1, A.splice, A.fits, A.ofList, l1, hne, h1, k2, k3, k4]
theorem kTxt {R : Type} {a : Nm} (ha : mid a.2) {H : Heap} {k : AV → Heap → Option R} : polK pTxt [eN a] H k = k (.str (nTxt a)) H := by
  simp [pTxt, q0h, ha]
end Go.Proofs.YtikkpecdkdgmfaaDoor

/- The seat's first question: by computation. -/
set_option maxRecDepth 100000
namespace Go.Proofs.YtikkpecdkdgmfaaDoor.awake
open Go Go.Den
def q5b : List FuncId := [9, 13, 16, 19, 20, 34, 36, 37, 38, 39, 40, 41, 53, 54, 55, 56, 57, 58, 59, 60, 61, 71, 72, 73, 74, 75, 76, 77, 78, 79, 82, 83, 84, 85, 88, 89, 90, 92]
noncomputable def env0 : Env := { P := Tryd.prog, pol := fun f => bif Nat.beq f 86 then .prim sameF else bif Nat.beq f 87 then .prim (q2q 5) else bif Nat.beq f 93 then .prim q3k else .plain, ann := fun _ => {}, glob := fun g => bif Nat.beq g 0 then flatD (H := Unit) Rows.laid_unicode_utf8_first else bif Nat.beq g 1 then flatD (H := Unit) Rows.laid_unicode_utf8_acceptRanges else none }
def q4f : List (Nat × List (Nat × Nat × Nat)) := []
def q5f : List (Nat × List (Nat × Nat × Nat)) → Nat → List (Nat × Nat × Nat)
  | [], _ => []
  | (g, l) :: r, f => bif Nat.beq g f then l else q5f r f
noncomputable def tab (f : FuncId) : FAnn :=
  match Tryd.prog.funcs[f]? with
  | some fn => { depth := Nat.log2 fn.ntmps + 1, sites := q5f q4f f, draws := mkDraws env0 (q5f q4f f) fn }
  | none => {}
noncomputable def env : Env := { env0 with ann := fun f => if f ∈ q5b then tab f else {} }
theorem qjd : EnvOK env := envOK q5b (by kernel_rfl) (fun f hf => by show (if f ∈ q5b then tab f else {}).draws = []; rw [if_neg hf]) (by kernel_rfl)
theorem qc9 : ∀ f, env.pol f = .plain ∨ ∃ F, env.pol f = .prim F ∧ PrimOK env f F := fun f => by
  cases h86 : Nat.beq f 86
  case true =>
    obtain rfl := Nat.eq_of_beq_eq_true h86
    exact .inr ⟨sameF, rfl, q97 (fn := Tryd.f86) Tryd.func86 (by kernel_rfl) (by kernel_rfl) (by kernel_rfl) (by kernel_rfl)⟩
  case false =>
    cases h87 : Nat.beq f 87
    case true =>
      obtain rfl := Nat.eq_of_beq_eq_true h87
      exact .inr ⟨(q2q 5), rfl, q59 (t := 83) (ps := #[3]) (ht := by kernel_rfl) (fn := Tryd.f87) Tryd.func87 (by kernel_rfl) (by kernel_rfl) (by kernel_rfl) (by kernel_rfl)⟩
    case false =>
      cases h93 : Nat.beq f 93
      case true =>
        obtain rfl := Nat.eq_of_beq_eq_true h93
        exact .inr ⟨q3k, rfl, q9n (fn := Tryd.f93) Tryd.func93 (by kernel_rfl) (by kernel_rfl) (by kernel_rfl) (by kernel_rfl)⟩
      case false =>
        refine .inl ?_
        show (bif Nat.beq f 86 then Pol.prim sameF else bif Nat.beq f 87 then Pol.prim (q2q 5) else bif Nat.beq f 93 then Pol.prim q3k else Pol.plain) = _
        simp only [h86, h87, h93, cond_false]
theorem calls_ok (n : Nat) : CallOK env (callF env n) := q86 qjd (by kernel_rfl) qc9 n
def qcd : Option AV → Bool
  | some (.bool true) => true
  | _ => false
theorem says_true {x : Option AV} (h : qcd x = true) : x = some (.bool true) := by
  unfold qcd at h
  split at h
  · rfl
  · cases h
theorem known : callF env 300 AV 9 [] [] (fun v G => A.freezeB true 64 G v) = some (.bool true) := says_true (by kernel_rfl)
end Go.Proofs.YtikkpecdkdgmfaaDoor.awake
namespace Go.Proofs.YtikkpecdkdgmfaaDoor
open Go Go.Den
noncomputable def pAwake : Pol := .still (Cd.f0 (.bool true))
theorem okAwake : PolOK base 9 pAwake := q90 (E := base) (E' := awake.env) rfl rfl awake.calls_ok fun xs v h => by
  unfold Cd.f0 at h
  split at h
  · cases h
    exact ⟨300, awake.known⟩
  · cases h
theorem kAwake {R : Type} {H : Heap} {k : AV → Heap → Option R} : polK pAwake [] H k = k (.bool true) H := by
  unfold pAwake
  rw [q0h (by simp)]
  rfl
end Go.Proofs.YtikkpecdkdgmfaaDoor

/- Numbers as the laws hand them over; what is handed in. -/
set_option maxRecDepth 100000
set_option maxHeartbeats 4000000
namespace Go.Proofs.YtikkpecdkdgmfaaDoor
open Go Go.Den
noncomputable def pNum : Pol := .still (p1 cN eN (fun _ => True) id)
theorem okNum : PolOK base 14 pNum := still1 base_ok [] trivial fun a _ => by
  obtain ⟨a1, a2⟩ := a
  refine Evs.of fun n m => ?_
  simp [↓q07, ↓q01, ↓q06, S14, A.ofList, A.fill, A.fits, A.splice]
theorem kNum {R : Type} {a : Nm} {H : Heap} {k : AV → Heap → Option R} : polK pNum [eN a] H k = k (eN a) H := by
  simp [pNum, q0h]
theorem q93 {a : Nm} {z : Int} {k : Nat} (h : Rep a z) (hz : z.natAbs < 4294967296 ^ k) : (a.2.getD []).length ≤ k := by rw [h.2]; exact lim_le.2 hz
theorem q4u {a : Nm} {z : Int} (h : Rep a z) : mag a = z.natAbs := by unfold mag; rw [h.2, q0q]
theorem mag_toI (a : Nm) : (toI a).natAbs = mag a := by
  unfold toI sgn
  split <;> omega
theorem mag_lt {a : Nm} {k : Nat} (h : (a.2.getD []).length ≤ k) : (toI a).natAbs < 4294967296 ^ k := by
  rw [mag_toI]
  exact Nat.lt_of_lt_of_le (q1n _) (Nat.pow_le_pow_right (by omega) h)
theorem ty_num {n : Nat} {v : AV} (h : Ty Tryd.prog n 24 v) : ∃ a : Nm, v = eN a := by
  obtain ⟨m, vs, rfl, h1, h2, h3⟩ := h.struct (fs := #[{ name := "Neg", type := 4, offset := 0, embedded := false, tag := "", pkgPath := "", byteOffset := 0 }, { name := "D", type := 22, offset := 1, embedded := false, tag := "", pkgPath := "", byteOffset := 8 }]) (by kernel_rfl)
  match vs, h2 with
  | [x, y], _ =>
    have hx := (h3 0 _ x rfl rfl).1
    have hy := (h3 1 _ y rfl rfl).1
    obtain ⟨p, rfl⟩ := hx.bool (by kernel_rfl)
    obtain ⟨l, hl, hb, -⟩ := hy.ints (k := .u32) (e := 64) (by kernel_rfl) (by kernel_rfl) (by kernel_rfl)
    have hll : l.map (AV.int .u32) = (l.map fun i => UInt32.ofNat i.toNat).map eu := by
      rw [List.map_map]
      refine List.map_congr_left fun i hi => ?_
      have := hb i hi
      have h5 : (0 : Int) ≤ i ∧ i ≤ 4294967295 := this
      show AV.int .u32 i = AV.int .u32 ((UInt32.ofNat i.toNat).toNat : Int)
      rw [q0v, Nat.mod_eq_of_lt (by omega)]
      congr 1
      omega
    rw [hll] at hl
    generalize hm : (l.map fun i => UInt32.ofNat i.toNat).map eu = es at hl
    cases hl with
    | nil => exact ⟨(p, none), by rw [h1]; rfl⟩
    | sh _ =>
      subst hm
      exact ⟨(p, some (l.map fun i => UInt32.ofNat i.toNat)), by rw [h1]; rfl⟩
end Go.Proofs.YtikkpecdkdgmfaaDoor

/- The law on powers of ten: what its function answers. -/
set_option maxRecDepth 100000
set_option maxHeartbeats 8000000
namespace Go.Proofs.YtikkpecdkdgmfaaDoor
open Go Go.Den
theorem decE_ten {n : Nat} (h : n ≠ 0) : decE (n * 10) = decE n ++ [48] := by
  rw [q1k (by omega)]
  have e : n * 10 / 10 = n := by omega
  have e2 : dg (n * 10) = 48 := by
    apply UInt8.toNat_inj.1
    rw [q3r]
    have : (48 : UInt8).toNat = 48 := rfl
    omega
  rw [e, e2]
theorem txt_ten {n : Nat} (h : n ≠ 0) : ∀ k, txt (n * 10 ^ k) = txt n ++ List.replicate k 48
  | 0 => by simp
  | k + 1 => by
    have hp : 0 < 10 ^ k := Nat.pow_pos (by omega)
    have hm : n * 10 ^ k ≠ 0 := Nat.mul_ne_zero h (by omega)
    have e : n * 10 ^ (k + 1) = n * 10 ^ k * 10 := by rw [Nat.pow_succ, Nat.mul_assoc]
    have h1 := txt_ten h k
    unfold txt at h1 ⊢
    rw [if_neg hm, if_neg h] at h1
    rw [e, if_neg (by omega), if_neg h, decE_ten hm, h1, List.replicate_succ', List.append_assoc]
theorem ten_b {X : Int} {i : Nat} (hX : X.natAbs < 4294967296 ^ 30) (hi : i ≤ 60) : (X * 10 ^ i).natAbs < 4294967296 ^ 38 := by
  have h1 : (X * 10 ^ i).natAbs = X.natAbs * 10 ^ i := by
    rw [Int.natAbs_mul, Int.natAbs_pow]
    rfl
  have h2 : 10 ^ i ≤ 4294967296 ^ 8 := Nat.le_trans (Nat.pow_le_pow_right (by omega) hi : 10 ^ i ≤ 10 ^ 60) (by decide)
  rw [h1]
  have h3 : X.natAbs * 10 ^ i ≤ X.natAbs * 4294967296 ^ 8 := Nat.mul_le_mul_left _ h2
  have h4 : X.natAbs * 4294967296 ^ 8 < 4294967296 ^ 30 * 4294967296 ^ 8 := Nat.mul_lt_mul_of_pos_right hX (Nat.pow_pos (by omega))
  rw [← Nat.pow_add] at h4
  omega
theorem rep_ten' : Rep (ofS 10) 10 := rep_of (by decide) (by decide)
theorem ten_len : ((ofS 10).2.getD []).length ≤ 1 := by
  rw [rep_ten'.2]
  exact lim_le.2 (by decide)
noncomputable abbrev TPow : List (FuncId × Pol) := [(9, pAwake), (14, pNum), (19, pNorm), (18, pRnorm), (13, pTxt), (16, pOf), (20, pMul), (21, pDiv), (22, q5x)]
theorem okTPow : TabOK base TPow := ⟨okAwake, okNum, okNorm, q5a, okTxt, okOf, okMul, okDiv, okCompare, trivial⟩
theorem str_add2 {t : TypeId} {c : Bool} {H : Heap} {a b : List UInt8} (h : a.length + b.length ≤ 140737488355328) : A.bin base.P .add t (.str a) (.str b) c H = some (.str (a ++ b)) := by simp [A.bin, A.binStr, h]
theorem pow_up {X : Int} (hX : X.natAbs < 4294967296 ^ 30) {k : Nat} (hk : k ≤ 60) {c1 : List AV} (H : Heap) : ∀ (j i : Nat) (y : Nm) (s : List UInt8), i + j = k → Rep y (X * 10 ^ i) → s.length + j ≤ 1000000 →
    ∃ y' : Nm, Rep y' (X * 10 ^ k) ∧ LDoes (L4_0 (polT TPow)) ⟨[.str s, .int .i64 (k : Int), .int .i64 (i : Int)], [c1, [.bool y.1, eD y.2]]⟩ H 0 ⟨[.undef, .str (s ++ List.replicate j 48), .int .i64 (k : Int)], [c1, [.bool y'.1, eD y'.2]]⟩ H := by
  intro j
  induction j with
  | zero =>
    intro i y s hi hy _
    have hi : i = k := by omega
    subst hi
    refine ⟨y, hy, LDoes.step (Evs.of fun n m => ?_)⟩
    simp [↓q00, ↓q01, qcs]
  | succ j ih =>
    intro i y s hi hy hs
    have hlt' : (i : Int) < (k : Int) := by omega
    have hb := ten_b hX (i := i) (by omega)
    have hb1 := ten_b hX (i := i + 1) (by omega)
    have hyl := q93 hy hb
    have hmy : (lim (mag y)).length ≤ 128 := by rw [q4u hy]; have := lim_le.2 hb; omega
    have hm10 : mag (ofS 10) = 10 := by rw [q4u rep_ten']; rfl
    have hmt : (lim (mag (ofS 10))).length ≤ 128 := by rw [hm10]; have := lim_le.2 (show 10 < 4294967296 ^ 1 by decide); omega
    have hpw : X * 10 ^ i * 10 = X * 10 ^ (i + 1) := by rw [Int.pow_succ, Int.mul_assoc]
    have hmp : mag y * mag (ofS 10) = (X * 10 ^ (i + 1)).natAbs := by
      rw [q4u hy, hm10, ← hpw, Int.natAbs_mul (X * 10 ^ i) 10]
      rfl
    obtain ⟨g1, g2⟩ := mul_eq hmy hmt (by rw [hmp]; have := lim_le.2 hb1; omega)
    rw [hy.toI, rep_ten'.toI, hpw] at g2
    have q1 : ∀ (R : Type) (H : Heap) (k : AV → Heap → Option R), polQ pOf [.int .i64 10] H k = k (eN (ofS 10)) H := fun R H k => qOf (by decide) (by decide)
    have q2 : ∀ (R : Type) (H : Heap) (k : AV → Heap → Option R), polQ pMul [eN y, eN (ofS 10)] H k = k (.tup [eN (mulS y (ofS 10)).1, .bool (mulS y (ofS 10)).2]) H := fun R H k => qMul (by unfold few; omega) (by have := ten_len; unfold few; omega)
    rw [g1] at q2
    obtain ⟨y', hy', hL⟩ := ih (i + 1) (mulS y (ofS 10)).1 (s ++ [48]) (by omega) g2 (by simp; omega)
    rw [List.append_assoc, List.singleton_append, ← List.replicate_succ] at hL
    have w5 : IntKind.wrap .i64 ((i : Int) + 1) = ((i + 1 : Nat) : Int) := by rw [q08 (by omega) (by omega)]; rfl
    have sa : ∀ H, A.bin base.P .add 9 (.str s) (.str [48]) true H = some (.str (s ++ [48])) := fun H => str_add2 (by simp; omega)
    refine ⟨y', hy', LDoes.step (Evs.withL hL (Evs.of fun n m _ h2 => ?_))⟩
    clear hL ih g1 g2 hy hy' hyl hmy hmp
    generalize mulS y (ofS 10) = M at *
    obtain ⟨⟨m1, m2⟩, m3⟩ := M
    generalize ofS 10 = O at *
    obtain ⟨o1, o2⟩ := O
    obtain ⟨y1, y2⟩ := y
    obtain ⟨v1, v2⟩ := y'
    dsimp only at q2 h2 ⊢
    generalize s ++ List.replicate (j + 1) 48 = Z at *
    generalize s ++ [48] = S2 at *
    generalize ((i + 1 : Nat) : Int) = I1 at *
    generalize (i : Int) = I at *
    generalize (k : Int) = K at *
    simp [↓q00, ↓q07, ↓q01, ↓q06, qcs, hlt', A.ofList, A.fits, A.splice, q1, q2, sa, w5, h2]
theorem pow_down {X : Int} (hX : X.natAbs < 4294967296 ^ 30) {k : Nat} (hk : k ≤ 60) {c1 : List AV} : ∀ (j i : Nat) (y : Nm) (H : Heap), i + j = k → Rep y (X * 10 ^ j) →
    ∃ (y' : Nm) (H' : Heap), Rep y' X ∧ LDoes (L4_1 (polT TPow)) ⟨[.int .i64 (k : Int), .int .i64 (i : Int)], [c1, [.bool y.1, eD y.2]]⟩ H 0 ⟨[.undef], [c1, [.bool y'.1, eD y'.2]]⟩ H' := by
  intro j
  induction j with
  | zero =>
    intro i y H hi hy
    have hi : i = k := by omega
    subst hi
    rw [Int.pow_zero, Int.mul_one] at hy
    refine ⟨y, H, hy, LDoes.step (Evs.of fun n m => ?_)⟩
    simp [↓q00, ↓q01, qct]
  | succ j ih =>
    intro i y H hi hy
    have hlt' : (i : Int) < (k : Int) := by omega
    have hb1 := ten_b hX (i := j + 1) (by omega)
    have hyl := q93 hy hb1
    have hpw : X * 10 ^ (j + 1) = X * 10 ^ j * 10 := by rw [Int.pow_succ, Int.mul_assoc]
    obtain ⟨g1, g2, g3⟩ := div_eq (a := y) (b := ofS 10) (by rw [rep_ten'.toI]; decide)
    rw [hy.toI, rep_ten'.toI, hpw] at g2 g3
    rw [Int.mul_tdiv_cancel _ (by decide)] at g2
    rw [Int.mul_tmod_left] at g3
    have q1 : ∀ (R : Type) (H : Heap) (k : AV → Heap → Option R), polQ pOf [.int .i64 10] H k = k (eN (ofS 10)) H := fun R H k => qOf (by decide) (by decide)
    have q2 : ∀ (R : Type) (H : Heap) (k : AV → Heap → Option R), polQ pDiv [eN y, eN (ofS 10)] H k = k (.tup [eN (divS y (ofS 10)).1, eN (divS y (ofS 10)).2.1, .bool (divS y (ofS 10)).2.2]) H := fun R H k => qDiv (by unfold lot; omega) (by have := ten_len; unfold lot; omega)
    rw [g1] at q2
    have hr0 : (divS y (ofS 10)).2.1.2.getD [] = [] := by rw [g3.2]; exact q0o
    have hB : Go.Den.Box (H ++ [HObj.row 0 2 26 [.agg [.bool false, .nils]]]) H.length 2 26 [.bool false, .nils] := q2e
    have st : A.store 2 (.ptr H.length 0 0 0) (eN (divS y (ofS 10)).2.1) (H ++ [HObj.row 0 2 26 [.agg [.bool false, .nils]]]) = some ((H ++ [HObj.row 0 2 26 [.agg [.bool false, .nils]]]).set H.length (.row 0 2 26 [eN (divS y (ofS 10)).2.1])) :=
      q80 (ds := [.bool (divS y (ofS 10)).2.1.1, eD (divS y (ofS 10)).2.1.2]) hB rfl rfl ((fun d => by cases d <;> rfl : ∀ d : Option (List UInt32), [AV.bool (divS y (ofS 10)).2.1.1, eD d].all AV.one = true) _)
    have hB2 : Go.Den.Box ((H ++ [HObj.row 0 2 26 [.agg [.bool false, .nils]]]).set H.length (.row 0 2 26 [eN (divS y (ofS 10)).2.1])) H.length 2 26 [.bool (divS y (ofS 10)).2.1.1, eD (divS y (ofS 10)).2.1.2] := List.getElem?_set_self (by simp)
    have f1 := hB2.fa (o := 1)
    have f2 := hB2.load (o := 1)
    simp only [List.getElem?_cons_succ, List.getElem?_cons_zero] at f2
    have f3 : ∀ H, A.len (eD (divS y (ofS 10)).2.1.2) H = some (.int .i64 0) := fun H => by rw [q19, hr0]; rfl
    obtain ⟨y', H', hy', hL⟩ := ih (i + 1) (divS y (ofS 10)).1 ((H ++ [HObj.row 0 2 26 [.agg [.bool false, .nils]]]).set H.length (.row 0 2 26 [eN (divS y (ofS 10)).2.1])) (by omega) g2
    have w5 : IntKind.wrap .i64 ((i : Int) + 1) = ((i + 1 : Nat) : Int) := by rw [q08 (by omega) (by omega)]; rfl
    refine ⟨y', H', hy', LDoes.step (Evs.withL hL (Evs.of fun n m _ h2 => ?_))⟩
    clear hL ih g1 g2 g3 hy hy' hyl hB hB2 hr0
    generalize (H ++ [HObj.row 0 2 26 [.agg [.bool false, .nils]]]).set H.length (.row 0 2 26 [eN (divS y (ofS 10)).2.1]) = H2 at *
    generalize divS y (ofS 10) = M at *
    obtain ⟨⟨m1, m2⟩, ⟨m3, m4⟩, m5⟩ := M
    generalize ofS 10 = O at *
    obtain ⟨o1, o2⟩ := O
    obtain ⟨y1, y2⟩ := y
    obtain ⟨v1, v2⟩ := y'
    dsimp only at q2 h2 st f1 f2 f3 ⊢
    generalize ((i + 1 : Nat) : Int) = I1 at *
    generalize (i : Int) = I at *
    generalize (k : Int) = K at *
    simp [↓q00, ↓q03, ↓q07, ↓q0f, ↓q01, ↓q04, ↓q0e, ↓q05, ↓q06, -q19, qct, hlt', A.ofList, A.fits, A.splice, q1, q2, st, f1, f2, f3, A.asG, guardB, A.pick, w5, h2]
theorem cv_8_int (n : Int) (j : IntKind) : Go.Den.convert base 5 3 (.int j n) = some (.int .i64 (IntKind.wrap .i64 n)) := q38 qik (by kernel_rfl)
theorem qhw (a : Nm) {z : Int} (z1 : 0 ≤ z) (z2 : z ≤ 255) : Evs fun n _ => callF (base.with (polT TPow)) (n + 1) AV 4 [eN a, .int .u8 z] [] (fun v _ => some v) = some (.bool true) := by
  obtain ⟨b, rfl⟩ := Int.eq_ofNat_of_zero_le z1
  have len_eD : ∀ (d : Option (List UInt32)) (H : Heap), A.len (eD d) H = some (.int .i64 ((d.getD []).length : Nat)) := fun d H => by simp
  obtain ⟨a1, a2⟩ := a
  by_cases ca : 30 < (a2.getD []).length
  · have ca' : (30 : Int) < ((a2.getD []).length : Int) := by omega
    refine Evs.of fun n m => ?_
    simp [↓q00, ↓q03, ↓q07, ↓q01, ↓q04, ↓q05, ↓q06, S4, kAwake, A.ofList, len_eD, ca', A.asG, guardB, A.pick]
  have ca' : ¬ (30 : Int) < ((a2.getD []).length : Int) := by omega
  have hfew : few a2 := by unfold few; omega
  have k1 : ∀ (R : Type) (H : Heap) (k : AV → Heap → Option R), polK pRnorm [eN (a1, a2)] H k = k (eN (rnormS (a1, a2))) H := fun R H k => kRnorm hfew
  have hn2 : (rnormS (a1, a2)).2.getD [] = lim (mag (a1, a2)) := q2m _
  by_cases c0 : mag (a1, a2) = 0
  · rw [c0, q0o] at hn2
    generalize rnormS (a1, a2) = M at *
    obtain ⟨m1, m2⟩ := M
    have c0' : ((m2.getD []).length : Int) = 0 := by rw [hn2]; rfl
    refine Evs.of fun n m => ?_
    simp [↓q00, ↓q03, ↓q07, ↓q01, ↓q04, ↓q05, ↓q06, -q19, S4, kAwake, A.ofList, len_eD, ca', k1, c0', A.asG, guardB, A.pick, A.field]
  have c0' : ¬ (((rnormS (a1, a2)).2.getD []).length : Int) = 0 := by
    rw [hn2]
    have := List.length_pos_iff.2 ((not_congr lim_nil).2 c0)
    omega
  obtain ⟨X, hXe⟩ : ∃ X, toI (a1, a2) = X := ⟨_, rfl⟩
  have hX : X.natAbs < 4294967296 ^ 30 := by rw [← hXe]; exact mag_lt (by show (a2.getD []).length ≤ 30; omega)
  have hx := q4v (a1, a2)
  rw [hXe] at hx
  have hX0 : X.natAbs ≠ 0 := by rw [← hXe, mag_toI]; exact c0
  have kn : ∀ (R : Type) (H : Heap) (k : AV → Heap → Option R), polK pNum [eN (a1, a2)] H k = k (eN (a1, a2)) H := fun R H k => kNum
  have k2 : ∀ (R : Type) (H : Heap) (k : AV → Heap → Option R), polK pNorm [eN (a1, a2)] H k = k (eN (normS (a1, a2))) H := fun R H k => kNorm hfew
  have hxl := q93 hx (Nat.lt_of_lt_of_le hX (Nat.pow_le_pow_right (by omega) (by omega : 30 ≤ 38)))
  have k3 : ∀ (R : Type) (H : Heap) (k : AV → Heap → Option R), polK pTxt [eN (normS (a1, a2))] H k = k (.str (nTxt (normS (a1, a2)))) H := fun R H k => kTxt (by unfold mid; omega)
  obtain ⟨k, hk⟩ : ∃ k, b % 60 = k := ⟨_, rfl⟩
  have hk60 : k < 60 := by rw [← hk]; exact Nat.mod_lt _ (by omega)
  have hw : IntKind.wrap .i64 (b : Int) = (b : Int) := q08 (by omega) (by omega)
  have hrem : ∀ H, A.bin base.P .rem 3 (.int .i64 (b : Int)) (.int .i64 60) true H = some (.int .i64 (k : Int)) := fun H => by
    have e : (b : Int).tmod 60 = ((b % 60 : Nat) : Int) := by
      rw [Int.tmod_eq_emod_of_nonneg (by omega)]; rfl
    rw [A.bin_rem, if_neg (by omega), e, hk]
  have hlen : (nTxt (normS (a1, a2))).length ≤ 700 := by
    have hm : mag (normS (a1, a2)) = X.natAbs := q4u hx
    have ht : (txt X.natAbs).length ≤ 620 := txt_len (Nat.lt_of_lt_of_le hX (Nat.pow_le_pow_right (by omega) (by omega)))
    unfold nTxt sgnT
    rw [hm]
    split
    · rw [List.length_cons]; omega
    · omega
  obtain ⟨y', hy', hL1⟩ := pow_up hX (k := k) (by omega) (c1 := [.bool (normS (a1, a2)).1, eD (normS (a1, a2)).2]) [] k 0 (normS (a1, a2)) (nTxt (normS (a1, a2))) (by omega) (by rw [Int.pow_zero, Int.mul_one]; exact hx) (by omega)
  have hyl := q93 hy' (ten_b hX (by omega))
  have k4 : ∀ (R : Type) (H : Heap) (k : AV → Heap → Option R), polK pTxt [eN y'] H k = k (.str (nTxt y')) H := fun R H k => kTxt (by unfold mid; omega)
  have htx : nTxt y' = nTxt (normS (a1, a2)) ++ List.replicate k 48 := by
    have hm : mag (normS (a1, a2)) = X.natAbs := q4u hx
    have hm' : mag y' = X.natAbs * 10 ^ k := by
      rw [q4u hy', Int.natAbs_mul, Int.natAbs_pow]
      rfl
    have hp : 0 < 10 ^ k := Nat.pow_pos (by omega)
    have hsg : y'.1 = (normS (a1, a2)).1 := by
      rw [hy'.1, hx.1]
      have hp' : (0 : Int) < 10 ^ k := Int.pow_pos (by decide)
      by_cases hneg : X < 0
      · rw [decide_eq_true hneg, decide_eq_true (Int.mul_neg_of_neg_of_pos hneg hp')]
      · have : ¬ X * 10 ^ k < 0 := by
          have := Int.mul_nonneg (show 0 ≤ X by omega) (Int.le_of_lt hp')
          omega
        rw [decide_eq_false hneg, decide_eq_false this]
    unfold nTxt sgnT
    rw [hm, hm', hsg, txt_ten hX0]
    have hne : X.natAbs * 10 ^ k ≠ 0 := Nat.mul_ne_zero hX0 (by omega)
    by_cases hs : (normS (a1, a2)).1 = true
    · rw [if_pos ⟨hs, hne⟩, if_pos ⟨hs, hX0⟩]
      rfl
    · rw [if_neg (fun e => hs e.1), if_neg (fun e => hs e.1)]
  obtain ⟨y2, H2, hy2, hL2⟩ := pow_down hX (k := k) (by omega) (c1 := [.bool (normS (a1, a2)).1, eD (normS (a1, a2)).2]) k 0 y' [] (by omega) hy'
  have hy2l := q93 hy2 (Nat.lt_of_lt_of_le hX (Nat.pow_le_pow_right (by omega) (by omega : 30 ≤ 38)))
  have k5 : ∀ (R : Type) (H : Heap) (k : AV → Heap → Option R), polK q5x [eN (normS (a1, a2)), eN y2] H k = k (.int .i64 0) H := fun R H k => by
    rw [kCompare (by unfold few; omega) (by unfold few; omega), qhl, hx.toI, hy2.toI]
    have : cmpI X X = 0 := by unfold cmpI; simp
    rw [this]
  rw [htx] at k4
  have sn : ∀ (t : TypeId) (c : Bool) (H : Heap) (s : List UInt8), A.bin base.P .neq t (.str s) (.str s) c H = some (.bool false) := fun t c H s => by simp [A.bin, A.binStr]
  refine Evs.withL hL1 (Evs.withL hL2 (Evs.of fun n m h2 _ h1 _ => ?_))
  have h1' : L4_0 (polT TPow) n n ⟨[.str (nTxt (normS (a1, a2))), .int .i64 (k : Int), .int .i64 0], [[.bool (normS (a1, a2)).1, eD (normS (a1, a2)).2], [.bool (normS (a1, a2)).1, eD (normS (a1, a2)).2]]⟩ [] = some (0, ⟨[.undef, .str (nTxt (normS (a1, a2)) ++ List.replicate k 48), .int .i64 (k : Int)], [[.bool (normS (a1, a2)).1, eD (normS (a1, a2)).2], [.bool y'.1, eD y'.2]]⟩, []) := h1
  have h2' : L4_1 (polT TPow) n n ⟨[.int .i64 (k : Int), .int .i64 0], [[.bool (normS (a1, a2)).1, eD (normS (a1, a2)).2], [.bool y'.1, eD y'.2]]⟩ [] = some (0, ⟨[.undef], [[.bool (normS (a1, a2)).1, eD (normS (a1, a2)).2], [.bool y2.1, eD y2.2]]⟩, H2) := h2
  clear h1 h2 hL1 hL2 hx hy' hy2 htx hlen hxl hyl hy2l hXe hn2
  generalize nTxt (normS (a1, a2)) ++ List.replicate k 48 = Z at *
  generalize nTxt (normS (a1, a2)) = T at *
  generalize normS (a1, a2) = N at *
  generalize rnormS (a1, a2) = M at *
  obtain ⟨n1, n2⟩ := N
  obtain ⟨m1, m2⟩ := M
  obtain ⟨v1, v2⟩ := y'
  obtain ⟨u1, u2⟩ := y2
  dsimp only at k1 k2 k3 k4 k5 h1' h2' c0'
  generalize (k : Int) = K at *
  generalize (b : Int) = B at *
  simp [-q19, -A.bin_rem, S4, kAwake, A.ofList, A.fits, A.splice, A.field, len_eD, ca', k1, A.asG, guardB, A.pick, kn, k2, k3, cv_8_int, hw, hrem, h1', k4, sn, h2', k5]
end Go.Proofs.YtikkpecdkdgmfaaDoor

/- Numbers and their texts: what is written; what it says. -/
set_option maxRecDepth 100000
set_option maxHeartbeats 8000000
namespace Go.Proofs.YtikkpecdkdgmfaaDoor
open Go Go.Den Go.Lib
def allDig (s : List UInt8) : Bool := s.all fun b => decide (isDig b)
theorem allDig_iff {s : List UInt8} : allDig s = true ↔ ∀ b ∈ s, isDig b := by
  unfold allDig
  rw [List.all_eq_true]
  exact ⟨fun h b hb => of_decide_eq_true (h b hb), fun h b hb => decide_eq_true (h b hb)⟩
def okHead (d : List UInt8) (neg : Bool) : Bool := match d with
  | [] => false
  | b :: t => !(decide (b = 48) && (decide (t ≠ []) || neg))
theorem wrS_eq (s : List UInt8) : wrS s = (okHead (bodyS s) (negS s) && allDig (bodyS s)) := by
  unfold wrS
  rw [Bool.eq_iff_iff, Bool.and_eq_true, allDig_iff, decide_eq_true_eq]
  cases bodyS s with
  | nil => simp [okHead]
  | cons b t =>
    unfold okHead
    constructor
    · rintro ⟨-, h2, h3⟩
      refine ⟨?_, h3⟩
      by_cases hb : b = 48
      · cases t with
        | nil => cases hn : negS s <;> simp_all
        | cons c u => exact absurd ⟨by simp [hb], .inl (by simp)⟩ h2
      · simp [hb]
    · rintro ⟨h1, h3⟩
      refine ⟨by simp, fun h => ?_, h3⟩
      obtain ⟨h4, h5⟩ := h
      have hb : b = 48 := by simpa using h4
      subst hb
      rcases h5 with h5 | h5
      · cases t with
        | nil => simp at h5
        | cons c u => simp at h1
      · rw [h5] at h1
        simp at h1
theorem wr_loop {pol : FuncId → Pol} {s : List UInt8} (hl : s.length ≤ 1000000) (H : Heap) : ∀ (r : List UInt8) (i : Nat), s.drop i = r → i ≤ s.length →
    (allDig r = true → LDoes (qb5 pol) ⟨[.str s, .int .i64 (s.length : Int), .int .i64 (i : Int)], []⟩ H 0 ⟨[.undef], []⟩ H) ∧
    (allDig r = false → LDoes (qb5 pol) ⟨[.str s, .int .i64 (s.length : Int), .int .i64 (i : Int)], []⟩ H 1 ⟨[.bool false], []⟩ H) := by
  intro r
  induction r with
  | nil =>
    intro i hr hi
    have hi : i = s.length := by
      have := congrArg List.length hr
      rw [List.length_drop, List.length_nil] at this
      omega
    subst hi
    exact ⟨fun _ => LDoes.step (Evs.of fun n m => by simp [↓q00, ↓q01, q4j]), fun h => by simp [allDig] at h⟩
  | cons b r ih =>
    intro i hr hi
    have hlt : i < s.length := by
      have := congrArg List.length hr
      rw [List.length_drop, List.length_cons] at this
      omega
    have hd := List.drop_eq_getElem_cons hlt
    rw [hr] at hd
    injection hd with hd1 hd2
    have hlt' : (i : Int) < (s.length : Int) := by omega
    have x1 : A.index (.str s) (.int .i64 (i : Int)) = some (.int .u8 (b.toNat : Int)) := by rw [q3u hlt, hd1]
    have w3 : IntKind.wrap .i64 ((i : Int) + 1) = ((i + 1 : Nat) : Int) := by rw [q08 (by omega) (by omega)]; rfl
    have hcons : allDig (b :: r) = (decide (isDig b) && allDig r) := rfl
    obtain ⟨ih1, ih2⟩ := ih (i + 1) hd2.symm (by omega)
    rw [hcons]
    by_cases h1 : (b.toNat : Int) < 48
    · have hnd : decide (isDig b) = false := by simp only [decide_eq_false_iff_not]; unfold isDig; omega
      rw [hnd]
      refine ⟨fun h => by simp at h, fun _ => LDoes.step (Evs.of fun n m => ?_)⟩
      generalize (b.toNat : Int) = B at *
      generalize (s.length : Int) = N at *
      generalize (i : Int) = I at *
      simp [↓q00, ↓q01, ↓q04, ↓q05, q4j, hlt', x1, h1, A.asG, guardB, A.pick]
    · by_cases h2 : (b.toNat : Int) > 57
      · have hnd : decide (isDig b) = false := by simp only [decide_eq_false_iff_not]; unfold isDig; omega
        rw [hnd]
        refine ⟨fun h => by simp at h, fun _ => LDoes.step (Evs.of fun n m => ?_)⟩
        have h2' : 57 < (b.toNat : Int) := h2
        generalize (b.toNat : Int) = B at *
        generalize (s.length : Int) = N at *
        generalize (i : Int) = I at *
        simp [↓q00, ↓q01, ↓q04, ↓q05, q4j, hlt', x1, h1, h2', A.asG, guardB, A.pick]
      · have hnd : decide (isDig b) = true := by simp only [decide_eq_true_eq]; unfold isDig; omega
        rw [hnd, Bool.true_and]
        have h2' : ¬ 57 < (b.toNat : Int) := h2
        refine ⟨fun h => LDoes.step (Evs.withL (ih1 h) (Evs.of fun n m _ h3 => ?_)), fun h => LDoes.step (Evs.withL (ih2 h) (Evs.of fun n m _ h3 => ?_))⟩
        all_goals
          generalize ((i + 1 : Nat) : Int) = I1 at *
          generalize (b.toNat : Int) = B at *
          generalize (s.length : Int) = N at *
          generalize (i : Int) = I at *
          simp [↓q00, ↓q01, ↓q04, ↓q05, q4j, hlt', x1, h1, h2', A.asG, guardB, A.pick, w3, h3]
noncomputable def pWr : Pol := .still (p1 cS .bool (fun s => s.length ≤ 1000000) wrS)
theorem qcz (s : List UInt8) : (bodyS s).length ≤ s.length := by
  conv => rhs; rw [qg3 s]
  rw [List.length_append]
  omega
theorem okWr : PolOK base 32 pWr := still1 base_ok [(33, pCp)] ⟨okCp, trivial⟩ fun s hl => by
  have e1 : cS.enc s = .str s := rfl
  rw [e1, wrS_eq]
  have k1 : ∀ (R : Type) (H : Heap) (k : AV → Heap → Option R), polK pCp [.str s, .str [45]] H k = k (.tup [.str (bodyS s), .bool (negS s)]) H := fun R H k => kCp
  have hdl : (bodyS s).length ≤ 1000000 := Nat.le_trans (qcz s) hl
  have ht := fun h => (wr_loop (pol := polT [(33, pCp)]) hdl [] (bodyS s) 0 rfl (Nat.zero_le _)).1 h
  have hf := fun h => (wr_loop (pol := polT [(33, pCp)]) hdl [] (bodyS s) 0 rfl (Nat.zero_le _)).2 h
  generalize bodyS s = d at *
  generalize negS s = neg at *
  have l1 : A.lenStr (.str d) = some (.int .i64 (d.length : Int)) := rfl
  cases d with
  | nil => exact Evs.of fun n m => by simp [↓q00, ↓q03, ↓q01, ↓q04, ↓q05, S32, k1, qb1, A.asG, guardB, A.pick, okHead]
  | cons b t =>
    have h0 : ∀ H, A.bin base.P .eql 9 (.str (b :: t)) (.str []) true H = some (.bool false) := fun H => by
      rw [qb1]
      rfl
    have i0 : A.index (.str (b :: t)) (.int .i64 0) = some (.int .u8 (b.toNat : Int)) := q3u (s := b :: t) (i := 0) (k := .i64) (by simp)
    have hb : (b.toNat : Int) = 48 ↔ b = 48 := ⟨fun h => UInt8.toNat_inj.1 (by
      have : (48 : UInt8).toNat = 48 := rfl
      omega), fun h => by subst h; rfl⟩
    have hlen : ((b :: t).length : Int) > 1 ↔ t ≠ [] := by
      rw [← List.length_pos_iff, List.length_cons]
      omega
    unfold okHead
    dsimp only
    by_cases h1 : b = 48
    · have z1 := hb.2 h1
      by_cases h2 : t ≠ []
      · have z2 := hlen.2 h2
        have hd : (!(decide (b = 48) && (decide (t ≠ []) || neg)) && allDig (b :: t)) = false := by rw [decide_eq_true h1, decide_eq_true h2]; rfl
        rw [hd]
        have z2' : 1 < ((b :: t).length : Int) := z2
        refine Evs.of fun n m => ?_
        generalize b :: t = D at *
        generalize (b.toNat : Int) = B at *
        generalize (D.length : Int) = N at *
        rw [S32]
        simp [k1, h0, i0, z1, z2', l1, A.asG, guardB, A.pick]
      · have z2 : ¬ ((b :: t).length : Int) > 1 := fun h => h2 (hlen.1 h)
        have z2' : ¬ 1 < ((b :: t).length : Int) := z2
        cases neg with
        | true =>
          have hd : (!(decide (b = 48) && (decide (t ≠ []) || true)) && allDig (b :: t)) = false := by rw [decide_eq_true h1]; simp
          rw [hd]
          refine Evs.of fun n m => ?_
          generalize b :: t = D at *
          generalize (b.toNat : Int) = B at *
          generalize (D.length : Int) = N at *
          rw [S32]
          simp [k1, h0, i0, z1, z2', l1, A.asG, guardB, A.pick]
        | false =>
          have hd : (!(decide (b = 48) && (decide (t ≠ []) || false)) && allDig (b :: t)) = allDig (b :: t) := by rw [decide_eq_false h2]; simp
          rw [hd]
          cases ha : allDig (b :: t) with
          | true =>
            refine Evs.withL (ht ha) (Evs.of fun n m h3 _ => ?_)
            have h3' : qb5 (polT [(33, pCp)]) n n ⟨[.str (b :: t), .int .i64 ((b :: t).length : Int), .int .i64 0], []⟩ [] = some (0, ⟨[.undef], []⟩, []) := h3
            generalize b :: t = D at *
            generalize (b.toNat : Int) = B at *
            generalize (D.length : Int) = N at *
            rw [S32]
            simp [k1, h0, i0, z1, z2', l1, A.asG, guardB, A.pick, h3']
          | false =>
            refine Evs.withL (hf ha) (Evs.of fun n m h3 _ => ?_)
            have h3' : qb5 (polT [(33, pCp)]) n n ⟨[.str (b :: t), .int .i64 ((b :: t).length : Int), .int .i64 0], []⟩ [] = some (1, ⟨[.bool false], []⟩, []) := h3
            generalize b :: t = D at *
            generalize (b.toNat : Int) = B at *
            generalize (D.length : Int) = N at *
            rw [S32]
            simp [k1, h0, i0, z1, z2', l1, A.asG, guardB, A.pick, h3']
    · have z1 : ¬ (b.toNat : Int) = 48 := fun h => h1 (hb.1 h)
      have hd : (!(decide (b = 48) && (decide (t ≠ []) || neg)) && allDig (b :: t)) = allDig (b :: t) := by rw [decide_eq_false h1]; simp
      rw [hd]
      cases ha : allDig (b :: t) with
      | true =>
        refine Evs.withL (ht ha) (Evs.of fun n m h3 _ => ?_)
        have h3' : qb5 (polT [(33, pCp)]) n n ⟨[.str (b :: t), .int .i64 ((b :: t).length : Int), .int .i64 0], []⟩ [] = some (0, ⟨[.undef], []⟩, []) := h3
        generalize b :: t = D at *
        generalize (b.toNat : Int) = B at *
        generalize (D.length : Int) = N at *
        rw [S32]
        simp [k1, h0, i0, z1, l1, A.asG, guardB, A.pick, h3']
      | false =>
        refine Evs.withL (hf ha) (Evs.of fun n m h3 _ => ?_)
        have h3' : qb5 (polT [(33, pCp)]) n n ⟨[.str (b :: t), .int .i64 ((b :: t).length : Int), .int .i64 0], []⟩ [] = some (1, ⟨[.bool false], []⟩, []) := h3
        generalize b :: t = D at *
        generalize (b.toNat : Int) = B at *
        generalize (D.length : Int) = N at *
        rw [S32]
        simp [k1, h0, i0, z1, l1, A.asG, guardB, A.pick, h3']
theorem kWr {R : Type} {s : List UInt8} (h : s.length ≤ 1000000) {H : Heap} {k : AV → Heap → Option R} : polK pWr [.str s] H k = k (.bool (wrS s)) H := by
  simp [pWr, q0h, h]
end Go.Proofs.YtikkpecdkdgmfaaDoor

/- Numbers and their texts: what a text says. -/
set_option maxRecDepth 100000
set_option maxHeartbeats 8000000
namespace Go.Proofs.YtikkpecdkdgmfaaDoor
open Go Go.Den Go.Lib
def parS (s : List UInt8) : Nm × Nat :=
  if wrS s = false then ((false, none), 10) else if 620 < (bodyS s).length then ((false, none), 3) else
  if 64 < (lim (dv (bodyS s))).length then ((false, none), 3) else (madeS (negS s) (nz (lim (dv (bodyS s)))), 0)
abbrev eNI (r : Nm × Nat) : AV := .tup [eN r.1, .int .i64 (r.2 : Int)]
theorem qj3 (n : Int) (j : IntKind) : Go.Den.convert base 5 63 (.int j n) = some (.int .u64 (IntKind.wrap .u64 n)) := q38 qik qh7
theorem par_in {pol : FuncId → Pol} {c0 : List AV} {t4 t5 t24 t25 : AV} {v c : Nat} (hc : c ≤ 9) (hl : (lim v).length ≤ 1000000) {id ver : Nat} : ∀ (j k : Nat) (H : Heap), k + j = (lim v).length → H[id]? = some (.row ver 1 64 ((digs k (10 * v + c) ++ (lim v).drop k).map eu)) →
    ∃ H', LDoes (qeh pol) ⟨[t4, t5, .sl id ver 0 (lim v).length (lim v).length, .int .u64 (carT v c k : Nat), t24, t25, .int .i64 ((lim v).length : Int), .int .i64 (k : Int)], [c0]⟩ H 0 ⟨[t4, t5, .sl id ver 0 (lim v).length (lim v).length, .int .u64 (carT v c (lim v).length : Nat), t24, t25], [c0]⟩ H' ∧ H'[id]? = some (.row ver 1 64 ((digs (lim v).length (10 * v + c)).map eu)) := by
  intro j
  induction j with
  | zero =>
    intro k H hk h
    have hk : k = (lim v).length := by omega
    subst hk
    rw [List.drop_of_length_le (Nat.le_refl _), List.append_nil] at h
    exact ⟨H, LDoes.step (Evs.of fun n m => by simp [↓q00, ↓q01, q68]), h⟩
  | succ j ih =>
    intro k H hk h
    have hlt : k < (lim v).length := by omega
    have hlt' : (k : Int) < ((lim v).length : Int) := by omega
    obtain ⟨s1, s2⟩ := qix (v := v) (c := c) hlt
    have hc9 := qet (v := v) (i := k) hc
    have hx := ((lim v)[k]).toNat_lt
    have hol : (digs k (10 * v + c) ++ (lim v).drop k).length = (lim v).length := by rw [List.length_append, q0a, List.length_drop]; omega
    obtain ⟨r1, r2, r3⟩ := lrow (k := .i64) (n := (lim v).length) (j := k) (i := (k : Int)) h hol.symm (by omega) rfl
    have hget : (digs k (10 * v + c) ++ (lim v).drop k)[k]'(by omega) = (lim v)[k] := by
      rw [List.getElem_append_right (by rw [q0a]; omega)]
      simp [q0a]
    rw [hget] at r2
    have hset : (digs k (10 * v + c) ++ (lim v).drop k).set k (UInt32.ofNat (carT v c k + 10 * ((lim v)[k]).toNat)) = digs (k + 1) (10 * v + c) ++ (lim v).drop (k + 1) := by
      rw [s2, List.set_append_right _ _ (by rw [q0a]; omega), q0a, Nat.sub_self, List.drop_eq_getElem_cons hlt, List.set_cons_zero, q2z, List.append_assoc]
      rfl
    have r3' := r3 (UInt32.ofNat (carT v c k + 10 * ((lim v)[k]).toNat))
    rw [hset] at r3'
    have hil : id < H.length := (List.getElem?_eq_some_iff.1 h).1
    obtain ⟨H', hL, hr⟩ := ih (k + 1) _ (by omega) (List.getElem?_set_self (a := .row ver 1 64 ((digs (k + 1) (10 * v + c) ++ (lim v).drop (k + 1)).map eu)) hil)
    refine ⟨H', LDoes.step (Evs.withL hL (Evs.of fun n m _ h2 => ?_)), hr⟩
    rw [s1] at h2
    generalize (lim v)[k] = x at *
    generalize carT v c k = T at *
    generalize ((lim v).length : Int) = N at *
    have w1 : IntKind.wrap .u64 (x.toNat : Int) = (x.toNat : Int) := q0g (by omega) (by omega)
    have w2 : IntKind.wrap .u64 (10 * (x.toNat : Int)) = ((10 * x.toNat : Nat) : Int) := by rw [q0g (by omega) (by omega)]; rfl
    have w3 : IntKind.wrap .u64 ((T : Int) + ((10 * x.toNat : Nat) : Int)) = ((T + 10 * x.toNat : Nat) : Int) := by rw [q0g (by omega) (by omega)]; rfl
    have w4 : IntKind.wrap .u32 ((T + 10 * x.toNat : Nat) : Int) = ((UInt32.ofNat (T + 10 * x.toNat)).toNat : Int) := q0n _
    have w5 : IntKind.wrap .i64 ((k : Int) + 1) = ((k + 1 : Nat) : Int) := by rw [q08 (by omega) (by omega)]; rfl
    have sh : ∀ H, A.bin base.P .shr 63 (.int .u64 ((T + 10 * x.toNat : Nat) : Int)) (.int .u64 32) true H = some (.int .u64 (((T + 10 * x.toNat) / 4294967296 : Nat) : Int)) := fun H => q2r (a := T + 10 * x.toNat) (s := 32) (j := .u64) (by omega)
    have r3'' : A.store 1 (.ptr id ver k 0) (.int .u32 ((UInt32.ofNat (T + 10 * x.toNat)).toNat : Int)) H = _ := r3'
    have r2' : A.load false 1 (.ptr id ver k 0) H = some (.int .u32 (x.toNat : Int)) := r2
    clear r2 r3 r3' hL hr ih hset s1 s2 h
    generalize H.set id (.row ver 1 64 ((digs (k + 1) (10 * v + c) ++ (lim v).drop (k + 1)).map eu)) = H2 at *
    generalize (((T + 10 * x.toNat) / 4294967296 : Nat) : Int) = T2 at *
    generalize ((UInt32.ofNat (T + 10 * x.toNat)).toNat : Int) = X32 at *
    generalize ((T + 10 * x.toNat : Nat) : Int) = S at *
    generalize ((10 * x.toNat : Nat) : Int) = X10 at *
    generalize (x.toNat : Int) = X at *
    generalize ((k + 1 : Nat) : Int) = K1 at *
    generalize (T : Int) = T0 at *
    generalize (k : Int) = K at *
    simp [↓q00, ↓q01, ↓q0e, q68, hlt', r1, r2', q0x, q0p, w1, w2, w3, w4, w5, r3'', sh, h2]
theorem qez {s : List UInt8} {i : Nat} (h : i < s.length) : dv (s.take (i + 1)) = 10 * dv (s.take i) + (s[i].toNat - 48) := by
  rw [List.take_succ_eq_append_getElem h, qey]
theorem qam {s : List UInt8} (hd : ∀ b ∈ s, isDig b) (hl : s.length ≤ 1000) (i : Nat) : (lim (dv (s.take i))).length ≤ 1000 := by
  refine Nat.le_trans (lim_le.2 ?_) hl
  have h1 := dv_lt (s.take i) (fun b hb => hd b (List.mem_of_mem_take hb))
  have h2 : 10 ^ (s.take i).length ≤ 10 ^ s.length := Nat.pow_le_pow_right (by omega) (by rw [List.length_take]; omega)
  have h3 : ∀ k, 10 ^ k ≤ 4294967296 ^ k := fun k => Nat.pow_le_pow_left (by decide) k
  exact Nat.lt_of_lt_of_le h1 (Nat.le_trans h2 (h3 s.length))
theorem par_out {pol : FuncId → Pol} {c0 : List AV} {t5 : AV} {d : List UInt8} (hd : ∀ b ∈ d, isDig b) (hl : d.length ≤ 1000) : ∀ (j i : Nat) (t6 : AV) (H : Heap), i + j = d.length → Out eu 1 64 H t6 (lim (dv (d.take i))) →
    ∃ H' t', LDoes (qhc pol) ⟨[.str d, t5, t6, .int .i64 (d.length : Int), .int .i64 (i : Int)], [c0]⟩ H 0 ⟨[t5, t'], [c0]⟩ H' ∧ Out eu 1 64 H' t' (lim (dv d)) := by
  intro j
  induction j with
  | zero =>
    intro i t6 H hi hO
    have hi : i = d.length := by omega
    subst hi
    rw [List.take_of_length_le (Nat.le_refl _)] at hO
    exact ⟨H, t6, LDoes.step (Evs.of fun n m => by simp [↓q00, ↓q01, q67]), hO⟩
  | succ j ih =>
    intro i t6 H hi hO
    have hlt : i < d.length := by omega
    have hlt' : (i : Int) < (d.length : Int) := by omega
    have hdig := hd d[i] (List.getElem_mem hlt)
    have hstep := qez hlt
    have hll := qam hd hl i
    have x1 : A.index (.str d) (.int .i64 (i : Int)) = some (.int .u8 ((d[i]).toNat : Int)) := q3u hlt
    unfold isDig at hdig
    obtain ⟨c, hcb⟩ : ∃ c, (d[i]).toNat - 48 = c := ⟨_, rfl⟩
    have hc9 : c ≤ 9 := by omega
    rw [hcb] at hstep
    have w1 : IntKind.wrap .u8 (((d[i]).toNat : Int) - 48) = (c : Int) := by rw [wrap_u8 (by omega) (by omega)]; omega
    have w2 : IntKind.wrap .u64 (c : Int) = (c : Int) := q0g (by omega) (by omega)
    have w5 : IntKind.wrap .i64 ((i : Int) + 1) = ((i + 1 : Nat) : Int) := by rw [q08 (by omega) (by omega)]; rfl
    generalize d[i] = b at *
    generalize hv : dv (d.take i) = v at *
    -- the limbs, and what is carried
    have hin : ∃ H1, LDoes (qeh pol) ⟨[.str d, t5, t6, .int .u64 (c : Int), .int .i64 (d.length : Int), .int .i64 (i : Int), .int .i64 ((lim v).length : Int), .int .i64 0], [c0]⟩ H 0 ⟨[.str d, t5, t6, .int .u64 (carT v c (lim v).length : Nat), .int .i64 (d.length : Int), .int .i64 (i : Int)], [c0]⟩ H1 ∧ Out eu 1 64 H1 t6 (digs (lim v).length (10 * v + c)) ∧ A.len t6 H = some (.int .i64 ((lim v).length : Int)) := by
      rcases hO with ⟨e, rfl⟩ | ⟨id, ver, hne, rfl, hrow⟩
      · rw [e]
        refine ⟨H, LDoes.step (Evs.of fun n m => ?_), .inl ⟨rfl, rfl⟩, rfl⟩
        have : carT v c ([] : List UInt32).length = c := qd1 v c
        rw [this]
        simp [↓q00, ↓q01, q68]
      · obtain ⟨H1, hL, hr⟩ := par_in (pol := pol) (c0 := c0) (t4 := .str d) (t5 := t5) (t24 := .int .i64 (d.length : Int)) (t25 := .int .i64 (i : Int)) (v := v) hc9 (by omega) (lim v).length 0 H (by omega) (by simpa [digs] using hrow)
        rw [qd1] at hL
        have hdl := q0a (lim v).length (10 * v + c)
        refine ⟨H1, hL, .inr ⟨id, ver, fun e => hne (List.eq_nil_of_length_eq_zero (by rw [← hdl, e]; rfl)), by rw [hdl], hr⟩, by simp [A.len, A.alive, hrow]⟩
    obtain ⟨H1, hL1, hO1, hlen⟩ := hin
    have hcar := qet (v := v) (i := (lim v).length) hc9
    by_cases h0 : carT v c (lim v).length = 0
    · have hs := lim_same h0
      rw [← hs, ← hstep] at hO1
      rw [h0] at hL1
      obtain ⟨H', t', hL, hO2⟩ := ih (i + 1) t6 H1 (by omega) hO1
      refine ⟨H', t', LDoes.step (Evs.withL hL (Evs.withL hL1 (Evs.of fun n m h1 _ _ h2 => ?_))), hO2⟩
      have h1' : qeh pol n n ⟨[.str d, t5, t6, .int .u64 (c : Int), .int .i64 (d.length : Int), .int .i64 (i : Int), .int .i64 ((lim v).length : Int), .int .i64 0], [c0]⟩ H = some (0, ⟨[.str d, t5, t6, .int .u64 0, .int .i64 (d.length : Int), .int .i64 (i : Int)], [c0]⟩, H1) := h1
      clear h1 hL hL1 ih hO hO1 hO2 hs
      generalize ((lim v).length : Int) = NL at *
      generalize (d.length : Int) = N at *
      generalize ((i + 1 : Nat) : Int) = I1 at *
      generalize (i : Int) = I at *
      generalize (c : Int) = C at *
      generalize (b.toNat : Int) = B at *
      simp [↓q00, ↓q03, ↓q07, ↓q01, ↓q02, -q19, q67, hlt', x1, w1, qj3, w2, hlen, h1', w5, h2]
    · have hm := lim_more hc9 h0
      generalize carT v c (lim v).length = T at *
      obtain ⟨t7, H2, ha, hO2⟩ := hO1.push (bytes := 4) (UInt32.ofNat T) (by omega) (by rw [q0a]; omega)
      rw [← hm, ← hstep] at hO2
      obtain ⟨H', t', hL, hO3⟩ := ih (i + 1) t7 H2 (by omega) hO2
      have hfe : A.fillElems 1 [AV.int .u32 0] [(0, 1, .int .u32 ((UInt32.ofNat T).toNat : Int))] = some [eu (UInt32.ofNat T)] := by simp [A.fillElems]
      have hrd : A.read 1 (.sl H1.length 0 0 1 1) (H1 ++ [HObj.row 0 1 64 [eu (UInt32.ofNat T)]]) = some [eu (UInt32.ofNat T)] := q7v q2e rfl
      have w4 : IntKind.wrap .u32 (T : Int) = ((UInt32.ofNat T).toNat : Int) := q0n T
      have hpos : (0 : Int) < (T : Int) := by omega
      refine ⟨H', t', LDoes.step (Evs.withL hL (Evs.withL hL1 (Evs.of fun n m h1 _ _ h2 => ?_))), hO3⟩
      have h1' : qeh pol n n ⟨[.str d, t5, t6, .int .u64 (c : Int), .int .i64 (d.length : Int), .int .i64 (i : Int), .int .i64 ((lim v).length : Int), .int .i64 0], [c0]⟩ H = some (0, ⟨[.str d, t5, t6, .int .u64 (T : Int), .int .i64 (d.length : Int), .int .i64 (i : Int)], [c0]⟩, H1) := h1
      clear h1 hL hL1 ih hO hO1 hO2 hO3 hm
      generalize eu (UInt32.ofNat T) = E at *
      generalize ((UInt32.ofNat T).toNat : Int) = X32 at *
      generalize ((lim v).length : Int) = NL at *
      generalize (d.length : Int) = N at *
      generalize ((i + 1 : Nat) : Int) = I1 at *
      generalize (i : Int) = I at *
      generalize (c : Int) = C at *
      generalize (b.toNat : Int) = B at *
      generalize (T : Int) = TT at *
      simp [↓q00, ↓q03, ↓q07, ↓q0f, ↓q01, ↓q0w, ↓q0k, ↓q02, -q19, q67, hlt', x1, w1, qj3, w2, hlen, h1', hpos, q0p, w4, hfe, q20 q1m, hrd, ha, w5, h2]
noncomputable abbrev TPar : List (FuncId × Pol) := [(32, pWr), (33, pCp), (34, pMade)]
noncomputable def pPar : Pol := .still (p1 cS eNI (fun s => s.length ≤ 1000000) parS)
theorem q8m {H : Heap} {p : Bool} {d : Option (List UInt32)} {k : IntKind} {n : Int} : A.freezeB true 64 H (.tup [.agg [.bool p, eD d], .int k n]) = some (.tup [.agg [.bool p, eD d], .int k n]) := q54 (by simp)
theorem okPar : PolOK base 10 pPar := still1 base_ok TPar ⟨okWr, okCp, okMade, trivial⟩ fun s hs => by
  have e1 : cS.enc s = .str s := rfl
  rw [e1]
  have k1 : ∀ (R : Type) (H : Heap) (k : AV → Heap → Option R), polK pWr [.str s] H k = k (.bool (wrS s)) H := fun R H k => kWr hs
  have k2 : ∀ (R : Type) (H : Heap) (k : AV → Heap → Option R), polK pCp [.str s, .str [45]] H k = k (.tup [.str (bodyS s), .bool (negS s)]) H := fun R H k => kCp
  have frz : ∀ H, A.freezeB true 64 H (.tup [.agg [.bool false, .nils], .int .i64 10]) = some (.tup [.agg [.bool false, .nils], .int .i64 10]) := fun H => q8m (d := none)
  have frz3 : ∀ H, A.freezeB true 64 H (.tup [.agg [.bool false, .nils], .int .i64 3]) = some (.tup [.agg [.bool false, .nils], .int .i64 3]) := fun H => q8m (d := none)
  unfold parS
  cases hw : wrS s with
  | false =>
    rw [hw] at k1
    rw [if_pos rfl]
    refine Evs.of fun n m => ?_
    simp [↓q00, ↓q03, ↓q07, ↓q01, ↓q06, S10, k1, A.fill, A.fits, A.splice, A.ofList]
    exact frz _
  | true =>
    rw [hw] at k1
    rw [if_neg (by decide)]
    have hdg := wr_dig hw
    generalize bodyS s = d at *
    generalize negS s = neg at *
    have l1 : A.lenStr (.str d) = some (.int .i64 (d.length : Int)) := rfl
    by_cases h1 : 620 < d.length
    · rw [if_pos h1]
      have h1' : (620 : Int) < (d.length : Int) := by omega
      refine Evs.of fun n m => ?_
      generalize (d.length : Int) = N at *
      simp [↓q00, ↓q03, ↓q07, ↓q01, ↓q06, S10, k1, k2, l1, h1', A.fill, A.fits, A.splice, A.ofList]
      exact frz3 _
    · rw [if_neg h1]
      have h1' : ¬ (620 : Int) < (d.length : Int) := by omega
      obtain ⟨H1, t', hL, hO⟩ := par_out (pol := polT TPar) (c0 := [.bool false, .nils]) (t5 := .bool neg) hdg (by omega) d.length 0 .nils [] (by omega) (by rw [List.take_zero, show dv [] = 0 from rfl, q0o]; exact .nil)
      have hlen : A.len t' H1 = some (.int .i64 ((lim (dv d)).length : Int)) := by
        rcases hO with ⟨e, rfl⟩ | ⟨id, ver, hne, rfl, hrow⟩
        · rw [e]; rfl
        · simp [A.len, A.alive, hrow]
      have hfz := hO.frz (fun x => ⟨rfl, rfl⟩)
      have hll := qam hdg (by omega) d.length
      rw [List.take_of_length_le (Nat.le_refl _)] at hll
      have hone : (A.freezeB true 64 H1 t' = some (eD (nz (lim (dv d))))) := hfz
      have hfa : q0r H1 [.bool neg, t'] = some [.bool neg, eD (nz (lim (dv d)))] := q2b (q0m hone rfl)
      by_cases h2 : 64 < (lim (dv d)).length
      · rw [if_pos h2]
        have h2' : (64 : Int) < ((lim (dv d)).length : Int) := by omega
        refine Evs.withL hL (Evs.of fun n m h3 _ => ?_)
        have h3' : qhc (polT TPar) n n ⟨[.str d, .bool neg, .nils, .int .i64 (d.length : Int), .int .i64 0], [[.bool false, .nils]]⟩ [] = some (0, ⟨[.bool neg, t'], [[.bool false, .nils]]⟩, H1) := h3
        clear h3 hL
        generalize (d.length : Int) = N at *
        generalize ((lim (dv d)).length : Int) = M at *
        simp [↓q00, ↓q03, ↓q07, ↓q01, ↓q02, ↓q06, -q19, S10, k1, k2, l1, h1', h3', hlen, h2', A.fill, A.fits, A.splice, A.ofList]
        exact frz3 _
      · rw [if_neg h2]
        have h2' : ¬ (64 : Int) < ((lim (dv d)).length : Int) := by omega
        obtain ⟨G, hm⟩ : ∃ G : Heap, ∀ (k : AV → Heap → Option AV), polK pMade [.bool neg, t'] H1 k = k (eN (madeS neg (nz (lim (dv d))))) G := ⟨_, fun k => by
          unfold pMade
          rw [q2d hfa]
          have : p2 cB cD eN (fun _ d => few d) madeS [.bool neg, eD (nz (lim (dv d)))] = some (eN (madeS neg (nz (lim (dv d))))) := by
            have hf : few (nz (lim (dv d))) := by unfold few; rw [q2m]; omega
            simp [p2, hf]
          rw [this]
          rfl⟩
        refine Evs.withL hL (Evs.of fun n m h3 _ => ?_)
        have h3' : qhc (polT TPar) n n ⟨[.str d, .bool neg, .nils, .int .i64 (d.length : Int), .int .i64 0], [[.bool false, .nils]]⟩ [] = some (0, ⟨[.bool neg, t'], [[.bool false, .nils]]⟩, H1) := h3
        clear h3 hL
        generalize madeS neg (nz (lim (dv d))) = X at *
        obtain ⟨x1, x2⟩ := X
        generalize (d.length : Int) = N at *
        generalize ((lim (dv d)).length : Int) = M at *
        simp [↓q00, ↓q03, ↓q07, ↓q01, ↓q02, ↓q06, -q19, S10, k1, k2, l1, h1', h3', hlen, h2', hm, A.fill, A.fits, A.splice, A.ofList, q8m]
theorem kPar {R : Type} {s : List UInt8} (h : s.length ≤ 1000000) {H : Heap} {k : AV → Heap → Option R} : polK pPar [.str s] H k = k (eNI (parS s)) H := by
  simp [pPar, q0h, h]
end Go.Proofs.YtikkpecdkdgmfaaDoor

/- Numbers and their texts, the reference: a number's text. -/
set_option maxRecDepth 100000
set_option maxHeartbeats 8000000
namespace Go.Proofs.YtikkpecdkdgmfaaDoor
open Go Go.Den Go.Lib
theorem qif {pol : FuncId → Pol} {a : Option (List UInt32)} {id : Nat} (hf : (a.getD []).length ≤ 1000000) : ∀ (j : Nat) (o : List UInt32) (H : Heap), j ≤ (a.getD []).length → o.length = (a.getD []).length → o.drop j = digs ((a.getD []).length - j) (val ((a.getD []).drop j) / 10) →
    H[id]? = some (.row 0 1 64 (o.map eu)) →
    ∃ H', LDoes (L42_0 pol) ⟨[eD a, .int .u64 10, .sl id 0 0 (a.getD []).length (a.getD []).length, .int .u64 ((val ((a.getD []).drop j) % 10 : Nat) : Int), .int .i64 ((j : Int) - 1)], []⟩ H 0
      ⟨[.sl id 0 0 (a.getD []).length (a.getD []).length, .int .u64 ((val (a.getD []) % 10 : Nat) : Int)], []⟩ H' ∧ H'[id]? = some (.row 0 1 64 ((digs (a.getD []).length (val (a.getD []) / 10)).map eu)) := by
  intro j
  induction j with
  | zero =>
    intro o H hj ho hd hH
    simp only [List.drop_zero, Nat.sub_zero] at hd
    rw [hd] at hH
    refine ⟨H, LDoes.step (Evs.of fun n m => ?_), hH⟩
    simp [↓q00, ↓q01, qa4]
  | succ j ih =>
    intro o H hj ho hd hH
    have hlt : j < (a.getD []).length := by omega
    have hx := q1w (d := a) (H := H) (k := .i64) (i := j) (by omega)
    have h2 := q14 (a.getD [])[j]
    have hdr := List.drop_eq_getElem_cons hlt
    have hv : val ((a.getD []).drop j) = ((a.getD [])[j]).toNat + 4294967296 * val ((a.getD []).drop (j + 1)) := by rw [hdr, val]
    obtain ⟨s1, s2⟩ := qg4 (T := val ((a.getD []).drop (j + 1))) (b := 10) (x := ((a.getD [])[j]).toNat) (by omega)
    rw [← hv] at s1 s2
    have hr : val ((a.getD []).drop (j + 1)) % 10 < 10 := Nat.mod_lt _ (by omega)
    obtain ⟨r1, r2, r3⟩ := lrow (k := .i64) (n := (a.getD []).length) (j := j) (i := (j : Int)) hH ho.symm (by omega) rfl
    generalize hR : val ((a.getD []).drop (j + 1)) % 10 = R at *
    have hq : (4294967296 * R + ((a.getD [])[j]).toNat) / 10 < 4294967296 := Nat.div_lt_of_lt_mul (by
      have : 10 * 4294967296 = 4294967296 * 10 := Nat.mul_comm _ _
      omega)
    generalize hQ : (4294967296 * R + ((a.getD [])[j]).toNat) / 10 = Q at *
    have hd' : (o.set j (UInt32.ofNat Q)).drop j = digs ((a.getD []).length - j) (val ((a.getD []).drop j) / 10) := by
      rw [show (a.getD []).length - j = ((a.getD []).length - (j + 1)) + 1 by omega, digs, s1, List.drop_eq_getElem_cons (by rw [List.length_set]; omega)]
      rw [List.getElem_set_self, List.drop_set_of_lt (by omega), hd]
      congr 1
      · exact UInt32.toNat_inj.1 (by rw [q0v, q0v]; omega)
      · congr 1; omega
    obtain ⟨H', hL, hr'⟩ := ih (o.set j (UInt32.ofNat Q)) _ (by omega) (by rw [List.length_set, ho]) hd' (q1o hH)
    refine ⟨H', LDoes.step (Evs.withL hL (Evs.of fun n m _ h3 => ?_)), hr'⟩
    rw [s2] at h3
    have hsh : A.bin base.P .shl 63 (.int .u64 (R : Int)) (.int .u64 32) true H = some (.int .u64 ((2 ^ 32 * R : Nat) : Int)) := q74 (a := R) (s := 32) (j := .u64) (by omega) (by omega)
    have hor := (qdx (P := base.P) (t := 63) (c := false) (H := H) (x := ((a.getD [])[j]).toNat) (s := 32) (y := R) (by omega) (by omega)).2
    have hnum : ((a.getD [])[j]).toNat + 2 ^ 32 * R = 4294967296 * R + ((a.getD [])[j]).toNat := by omega
    rw [hnum] at hor
    have hquo := qca (P := base.P) (t := 63) (c := false) (H := H) (x := 4294967296 * R + ((a.getD [])[j]).toNat) (y := 10) (by decide) (by omega)
    have hrem := qcb (P := base.P) (t := 63) (c := false) (H := H.set id (.row 0 1 64 ((o.set j (UInt32.ofNat Q)).map eu))) (x := 4294967296 * R + ((a.getD [])[j]).toNat) (y := 10) (by decide)
    rw [hQ] at hquo
    have hst := r3 (UInt32.ofNat Q)
    have hw : IntKind.wrap .u32 (Q : Int) = (UInt32.ofNat Q).toNat := q0n Q
    have hge : (0 : Int) ≤ (j : Int) + 1 - 1 := by omega
    have hj1 : ((j + 1 : Nat) : Int) - 1 = j := by omega
    rw [hj1]
    have hj0 : (0 : Int) ≤ j := by omega
    have hquo' : A.bin base.P .quo 63 (.int .u64 ((4294967296 * R + ((a.getD [])[j]).toNat : Nat) : Int)) (.int .u64 10) false H = some (.int .u64 (Q : Int)) := hquo
    have hrem' : A.bin base.P .rem 63 (.int .u64 ((4294967296 * R + ((a.getD [])[j]).toNat : Nat) : Int)) (.int .u64 10) false (H.set id (.row 0 1 64 ((o.set j (UInt32.ofNat Q)).map eu))) = some (.int .u64 (((4294967296 * R + ((a.getD [])[j]).toNat) % 10 : Nat) : Int)) := hrem
    clear hquo hrem
    generalize UInt32.ofNat Q = dq at *
    generalize ((2 ^ 32 * R : Nat) : Int) = sh at *
    generalize 4294967296 * R + ((a.getD [])[j]).toNat = num at *
    generalize ((num % 10 : Nat) : Int) = rm at hrem' h3
    simp only [List.map_set] at h3 hrem' hst
    simp (disch := omega) [↓q00, ↓q01, ↓q0e, qa4, hj0, hx, q0x, q0p, q08, -A.bin_quo, -A.bin_rem, hsh, hor, hquo', r1, hw, hst, hrem', h3]
def shortS (d : Option (List UInt32)) : Option (List UInt32) × Nat := (nz (lim (val (d.getD []) / 10)), val (d.getD []) % 10)
noncomputable def pShort : Pol := .still (p2 cD (cI .u64) (fun r : Option (List UInt32) × Nat => .tup [eD r.1, .int .u64 (r.2 : Int)]) (fun d c => few d ∧ c = 10) fun d _ => shortS d)
theorem okShort : PolOK base 42 pShort := still2 base_ok [(18, pRnorm)] ⟨q5a, trivial⟩ fun a c ⟨ha, hc⟩ => by
  subst hc
  have ha' := ha
  unfold few at ha
  have e1 : cD.enc a = eD a := rfl
  have e2 : (cI .u64).enc 10 = .int .u64 10 := rfl
  rw [e1, e2]
  have hmk := q3y (H := []) (sz := 1) (ty := 64) (bytes := 4) (z := .int .u32 0) (l := ((a.getD []).length : Nat)) (by omega) (by omega) (by omega)
  simp only [List.length_nil, Int.toNat_natCast, List.nil_append] at hmk
  have hz : List.replicate (a.getD []).length (AV.int .u32 0) = (List.replicate (a.getD []).length (0 : UInt32)).map eu := by simp
  rw [hz] at hmk
  obtain ⟨H', hL, hr⟩ := qif (pol := polT [(18, pRnorm)]) (a := a) (id := 0) ha (a.getD []).length (List.replicate (a.getD []).length 0) [.row 0 1 64 ((List.replicate (a.getD []).length (0 : UInt32)).map eu)] (Nat.le_refl _) (by simp) (by simp [digs]) rfl
  rw [List.drop_length] at hL
  simp only [val, Nat.zero_mod, Int.cast_ofNat_Int] at hL
  have hlen : A.len (eD a) [] = some (.int .i64 ((a.getD []).length : Int)) := q19
  have hlen2 : ∀ H, A.len (eD a) H = some (.int .i64 ((a.getD []).length : Int)) := fun H => q19
  have hlt : val (a.getD []) / 10 < 4294967296 ^ (a.getD []).length := Nat.lt_of_le_of_lt (Nat.div_le_self _ _) (q1n _)
  obtain ⟨G, hm⟩ : ∃ G : Heap, ∀ (k : AV → Heap → Option AV), polK pRnorm [.agg [.bool false, .sl 0 0 0 (a.getD []).length (a.getD []).length]] H' k = k (eN (false, nz (lim (val (a.getD []) / 10)))) G := ⟨_, fun k => by
    unfold pRnorm
    have hz : q0r H' [.agg [.bool false, .sl 0 0 0 (a.getD []).length (a.getD []).length]] = some [.agg [.bool false, eD (some (digs (a.getD []).length (val (a.getD []) / 10)))]] := q0m (qbn hr (by rw [q0a])) rfl
    rw [q2d hz]
    simp only [p1_app, dec_cN, Option.bind_some]
    rw [if_pos (by unfold few; simp only [Option.getD_some, q0a]; omega)]
    have : rnormS (false, some (digs (a.getD []).length (val (a.getD []) / 10))) = (false, nz (lim (val (a.getD []) / 10))) := by
      unfold rnormS
      simp only [Option.getD_some, q11 hlt, Bool.false_and]
    rw [this]
    rfl⟩
  have w1 : IntKind.wrap .i64 (((a.getD []).length : Int) - 1) = ((a.getD []).length : Int) - 1 := q08 (by omega) (by omega)
  have frz : ∀ (H : Heap) (d : Option (List UInt32)) (n : Int), A.freezeB true 64 H (.tup [eD d, .int .u64 n]) = some (.tup [eD d, .int .u64 n]) := fun H d n => q54 (by simp)
  unfold shortS
  refine Evs.withL hL (Evs.of fun n m h1 _ => ?_)
  generalize nz (lim (val (a.getD []) / 10)) = D at *
  generalize ((val (a.getD []) % 10 : Nat) : Int) = X at *
  generalize (List.replicate (a.getD []).length (0 : UInt32)).map eu = Z at *
  generalize ((a.getD []).length : Int) = N at *
  generalize (a.getD []).length = nn at *
  simp [↓q03, ↓q01, ↓q0k, ↓q02, -q19, S42, hlen, hlen2, hmk, w1, h1, A.fill, A.field, A.ofList, A.splice, hm, frz]
theorem kShort {R : Type} {d : Option (List UInt32)} (ha : few d) {H : Heap} {k : AV → Heap → Option R} : polK pShort [eD d, .int .u64 10] H k = k (.tup [eD (shortS d).1, .int .u64 ((shortS d).2 : Int)]) H := by
  simp [pShort, q0h, ha]
theorem qj9 : ∀ r : Nat, r < 10 → A.sliceStr (.str [48, 49, 50, 51, 52, 53, 54, 55, 56, 57, 97, 98, 99, 100, 101, 102]) (some (.int .u64 (r : Int))) (some (.int .u64 ((r + 1 : Nat) : Int))) = some (.str [dg r]) := by
  intro r h
  match r, h with
  | 0, _ => rfl
  | 1, _ => rfl
  | 2, _ => rfl
  | 3, _ => rfl
  | 4, _ => rfl
  | 5, _ => rfl
  | 6, _ => rfl
  | 7, _ => rfl
  | 8, _ => rfl
  | 9, _ => rfl
  | r + 10, h => omega
noncomputable def pRdg : Pol := .still (p2 (cI .u64) (cI .u64) .str (fun r c => c = 10 ∧ 0 ≤ r ∧ r < 10) fun r _ => [dg r.toNat])
theorem okRdg : PolOK base 43 pRdg := still2 base_ok [] trivial fun r c ⟨hc, h0, h9⟩ => by
  subst hc
  obtain ⟨q, rfl⟩ := Int.eq_ofNat_of_zero_le h0
  have hq : q < 10 := by omega
  have e1 : (cI .u64).enc (q : Int) = .int .u64 (q : Int) := rfl
  have e2 : (cI .u64).enc 10 = .int .u64 10 := rfl
  rw [e1, e2]
  have e3 : (q : Int).toNat = q := by omega
  rw [e3]
  have hr : ∀ (c : Bool) (H : Heap), A.bin base.P .rem 63 (.int .u64 (q : Int)) (.int .u64 10) c H = some (.int .u64 (q : Int)) := fun c H => by
    have := qcb (P := base.P) (t := 63) (c := c) (H := H) (x := q) (y := 10) (by decide)
    rw [Nat.mod_eq_of_lt hq] at this
    exact this
  have hd : ∀ (c : Bool) (H : Heap), A.bin base.P .quo 63 (.int .u64 (q : Int)) (.int .u64 10) c H = some (.int .u64 0) := fun c H => by
    have := qca (P := base.P) (t := 63) (c := c) (H := H) (x := q) (y := 10) (by decide) (by omega)
    rw [Nat.div_eq_of_lt hq] at this
    exact this
  have w1 : IntKind.wrap .u64 ((q : Int) + 1) = ((q + 1 : Nat) : Int) := by rw [q0g (by omega) (by omega)]; rfl
  have hs := qj9 q hq
  have sa : ∀ H, A.bin base.P .add 9 (.str [dg q]) (.str []) false H = some (.str [dg q]) := fun H => qcj (by simp)
  have hL : ∀ H, LDoes (L43_0 (polT [])) ⟨[.int .u64 (q : Int), .int .u64 10, .str []], []⟩ H 0 ⟨[.str [dg q]], []⟩ H := fun H => LDoes.step (Evs.of fun n m => by
    generalize [dg q] = D at *
    generalize ((q + 1 : Nat) : Int) = Q1 at *
    generalize (q : Int) = Q at *
    simp [↓q00, ↓q01, qhe, -A.bin_rem, -A.bin_quo, hr, hd, w1, hs, sa])
  refine Evs.withL (hL []) (Evs.of fun n m h1 _ => ?_)
  generalize [dg q] = D at *
  generalize (q : Int) = Q at *
  simp [↓q03, ↓q02, S43, h1]
theorem kRdg {R : Type} {r : Nat} (h : r < 10) {H : Heap} {k : AV → Heap → Option R} : polK pRdg [.int .u64 (r : Int), .int .u64 10] H k = k (.str [dg r]) H := by
  have h1 : (r : Int) < 10 := by omega
  simp [pRdg, q0h, h1]
noncomputable abbrev TRtx : List (FuncId × Pol) := [(18, pRnorm), (42, pShort), (43, pRdg)]
noncomputable def pRtx : Pol := .still (p1 cN .str (fun a => mid a.2) nTxt)
theorem rtx_loop {c0 : List AV} : ∀ (v : Nat) (d : Option (List UInt32)) (s : List UInt8) (H : Heap), d.getD [] = lim v → (lim v).length ≤ 10000 → (decE v).length + s.length ≤ 1000000 →
    LDoes (L15_0 (polT TRtx)) ⟨[.str s, eD d], [c0]⟩ H 0 ⟨[.str (decE v ++ s)], [c0]⟩ H := by
  intro v
  induction v using Nat.strongRecOn with
  | _ v ih =>
    intro d s H hd hl hk
    have l1 : A.len (eD d) H = some (.int .i64 ((lim v).length : Int)) := by rw [← hd]; exact q19
    by_cases h0 : v = 0
    · subst h0
      rw [q18, List.nil_append]
      rw [q0o] at l1
      exact LDoes.step (Evs.of fun n m => by simp [↓q00, ↓q01, -q19, q9v, l1])
    · have hpos : (0 : Int) < ((lim v).length : Int) := by
        have := (not_congr lim_nil).2 h0
        have := List.length_pos_iff.2 this
        omega
      have hfew : few d := by unfold few; rw [hd]; omega
      have hval : val (d.getD []) = v := by rw [hd, q0q]
      have k1 : ∀ (R : Type) (H : Heap) (k : AV → Heap → Option R), polK pShort [eD d, .int .u64 10] H k = k (.tup [eD (nz (lim (v / 10))), .int .u64 ((v % 10 : Nat) : Int)]) H := fun R H k => by
        rw [kShort hfew]
        unfold shortS
        rw [hval]
      have k2 : ∀ (R : Type) (H : Heap) (k : AV → Heap → Option R), polK pRdg [.int .u64 ((v % 10 : Nat) : Int), .int .u64 10] H k = k (.str [dg v]) H := fun R H k => by
        rw [kRdg (Nat.mod_lt _ (by omega)), qj7]
      rw [q1k h0, List.length_append] at hk
      have hl2 : (lim (v / 10)).length ≤ 10000 := by
        rw [lim_le] at hl ⊢
        exact Nat.lt_of_le_of_lt (Nat.div_le_self _ _) hl
      have hL := ih (v / 10) (by omega) (nz (lim (v / 10))) (dg v :: s) H (q2m _) hl2 (by simp at hk ⊢; omega)
      have sa : ∀ H, A.bin base.P .add 9 (.str [dg v]) (.str s) false H = some (.str (dg v :: s)) := fun H => qcj (by simp at hk ⊢; omega)
      rw [q1k h0, List.append_assoc, List.singleton_append]
      refine LDoes.step (Evs.withL hL (Evs.of fun n m _ h2 => ?_))
      generalize decE (v / 10) ++ dg v :: s = X at *
      generalize dg v :: s = S2 at *
      generalize [dg v] = D at *
      generalize nz (lim (v / 10)) = Q at *
      generalize ((v % 10 : Nat) : Int) = M at *
      generalize ((lim v).length : Int) = N at *
      simp [↓q00, ↓q01, -q19, q9v, l1, hpos, k1, k2, sa, h2]
theorem okRtx : PolOK base 15 pRtx := still1 base_ok TRtx ⟨q5a, okShort, okRdg, trivial⟩ fun a ha => by
  have e1 : cN.enc a = eN a := rfl
  rw [e1]
  have hle : (lim (mag a)).length ≤ 10000 := Nat.le_trans (lim_le.2 (q1n _)) ha
  have hlp : decide (0 < (lim (mag a)).length) = decide (mag a ≠ 0) := by
    by_cases h0 : mag a = 0
    · rw [h0, q0o]; simp
    · have := List.length_pos_iff.2 ((not_congr lim_nil).2 h0)
      simp [h0, this]
  have k1 : ∀ (R : Type) (H : Heap) (k : AV → Heap → Option R), polK pRnorm [eN a] H k = k (eN ((a.1 && decide (mag a ≠ 0)), nz (lim (mag a)))) H := fun R H k => by
    rw [kRnorm ha.few]
    unfold rnormS
    have : val (a.2.getD []) = mag a := rfl
    rw [this, hlp]
  have hdl : (decE (mag a)).length ≤ 180000 := by
    obtain ⟨J, hJ⟩ : ∃ J, J = 10000 := ⟨_, rfl⟩
    have h3 : mag a < 4294967296 ^ J := lim_le.1 (by omega)
    have h4 : ∀ k : Nat, 4294967296 ^ k ≤ 10 ^ (18 * k) := fun k => by
      rw [Nat.pow_mul]
      exact Nat.pow_le_pow_left (by decide) k
    have h5 : (decE (mag a)).length ≤ 18 * J := decE_len.2 (Nat.lt_of_lt_of_le h3 (h4 J))
    omega
  have hL := fun H => rtx_loop (c0 := [.bool (a.1 && decide (mag a ≠ 0)), eD (nz (lim (mag a)))]) (mag a) (nz (lim (mag a))) [] H (q2m _) hle (by simp; omega)
  rw [List.append_nil] at hL
  unfold nTxt sgnT txt
  have se : ∀ H, A.bin base.P .eql 9 (.str (decE (mag a))) (.str []) true H = some (.bool (decide (decE (mag a) = []))) := fun H => qb1 _
  by_cases h0 : mag a = 0
  · have hb : (a.1 && decide (mag a ≠ 0)) = false := by simp [h0]
    have hde : decide (decE (mag a) = []) = true := by rw [h0, q18]; rfl
    rw [hde] at se
    rw [hb] at k1 hL
    rw [if_neg (by simp [h0]), if_pos h0]
    refine Evs.withL (hL []) (Evs.of fun n m h1 _ => ?_)
    generalize decE (mag a) = X at *
    generalize nz (lim (mag a)) = Q at *
    simp [↓q00, ↓q03, ↓q07, ↓q01, ↓q02, ↓q06, -q19, S15, k1, A.splice, A.fits, A.ofList, h1, se]
  · have hde : decide (decE (mag a) = []) = false := by simp only [decide_eq_false_iff_not]; exact qeu h0
    rw [hde] at se
    by_cases hs : a.1 = true
    · have hb : (a.1 && decide (mag a ≠ 0)) = true := by rw [hs]; simp [h0]
      rw [if_pos ⟨hs, h0⟩, if_neg h0]
      rw [hb] at k1 hL
      have sa : ∀ H, A.bin base.P .add 9 (.str [45]) (.str (decE (mag a))) false H = some (.str (45 :: decE (mag a))) := fun H => qcj (by simp; omega)
      refine Evs.withL (hL []) (Evs.of fun n m h1 _ => ?_)
      generalize decE (mag a) = X at *
      generalize nz (lim (mag a)) = Q at *
      simp [↓q00, ↓q03, ↓q07, ↓q01, ↓q02, ↓q06, -q19, S15, k1, A.splice, A.fits, A.ofList, h1, se, sa]
    · have hb : (a.1 && decide (mag a ≠ 0)) = false := by simp [hs]
      rw [if_neg (fun e => hs e.1), if_neg h0]
      rw [hb] at k1 hL
      refine Evs.withL (hL []) (Evs.of fun n m h1 _ => ?_)
      generalize decE (mag a) = X at *
      generalize nz (lim (mag a)) = Q at *
      simp [↓q00, ↓q03, ↓q07, ↓q01, ↓q02, ↓q06, -q19, S15, k1, A.splice, A.fits, A.ofList, h1, se]
theorem kRtx {R : Type} {a : Nm} (ha : mid a.2) {H : Heap} {k : AV → Heap → Option R} : polK pRtx [eN a] H k = k (.str (nTxt a)) H := by
  simp [pRtx, q0h, ha]
theorem qdt (a : Nm) : mag (rnormS a) = mag a := by rw [← qc1, ← qc1 a, q4g]
theorem rep_rmul {a b : Nm} (ha : (lim (mag a)).length ≤ 128) (hb : (lim (mag b)).length ≤ 128) (hp : (lim (mag a * mag b)).length ≤ 128) : (rmulS a b).2 = true ∧ Rep (rmulS a b).1 (toI a * toI b) := by
  unfold rmulS
  rw [if_neg (by omega), if_neg (by omega)]
  refine ⟨rfl, ?_⟩
  have h := q3l ((rnormS a).1 != (rnormS b).1, some (lim (mag a * mag b)))
  have e : toI ((rnormS a).1 != (rnormS b).1, some (lim (mag a * mag b))) = toI a * toI b := by
    rw [← q4g a, ← q4g b]
    have e1 := qdt a
    have e2 := qdt b
    generalize rnormS a = x at *
    generalize rnormS b = y at *
    unfold toI
    rw [e1, e2]
    have : mag (x.1 != y.1, some (lim (mag a * mag b))) = mag a * mag b := by unfold mag; exact q0q _
    rw [this]
    unfold sgn
    cases x.1 <;> cases y.1 <;> simp [Int.mul_neg, Int.neg_mul]
  rw [e] at h
  exact h
end Go.Proofs.YtikkpecdkdgmfaaDoor

/- Numbers and their texts, the reference: what a text says. -/
set_option maxRecDepth 100000
set_option maxHeartbeats 8000000
namespace Go.Proofs.YtikkpecdkdgmfaaDoor
open Go Go.Den Go.Lib
theorem qbv {v K : Nat} (hK : K = 620) (h : v < 10 ^ K) : (lim v).length ≤ 78 := by
  obtain ⟨M, hM⟩ : ∃ M, M = 78 := ⟨_, rfl⟩
  have h1 : ∀ k : Nat, 10 ^ (8 * k) ≤ 4294967296 ^ k := fun k => by
    rw [Nat.pow_mul]
    exact Nat.pow_le_pow_left (by decide) k
  have h2 : 10 ^ K ≤ 10 ^ (8 * M) := Nat.pow_le_pow_right (by omega) (by omega)
  have h3 : (lim v).length ≤ M := lim_le.2 (Nat.lt_of_lt_of_le h (Nat.le_trans h2 (h1 M)))
  omega
def rdvF (n : Nm) (c : Int) : Nm := raddS (rmulS n (rofS 10)).1 (rofS c)
def rdv (s : List UInt8) : Nm := s.foldl (fun n b => rdvF n ((b.toNat : Int) - 48)) (false, none)
theorem qgr {s : List UInt8} {i : Nat} (h : i < s.length) : rdv (s.take (i + 1)) = rdvF (rdv (s.take i)) ((s[i].toNat : Int) - 48) := by
  rw [List.take_succ_eq_append_getElem h]
  unfold rdv
  rw [List.foldl_append]
  rfl
theorem qjb {s : List UInt8} {K : Nat} (hd : ∀ b ∈ s, isDig b) (hl : s.length ≤ K) (i : Nat) : dv (s.take i) < 10 ^ K := by
  have h1 := dv_lt (s.take i) (fun b hb => hd b (List.mem_of_mem_take hb))
  exact Nat.lt_of_lt_of_le h1 (Nat.pow_le_pow_right (by omega) (by rw [List.length_take]; omega))
theorem mag_rep {a : Nm} {z : Int} (h : Rep a z) : mag a = z.natAbs := by unfold mag; rw [h.2, q0q]
theorem qgs {a : Nm} {v : Nat} (h : Rep a (v : Int)) : (a.2.getD []).length = (lim v).length := by rw [h.2]; rfl
theorem rep_ten : Rep (rofS 10) 10 := qcc (by decide) (by decide)
theorem lim_ten : (lim 10).length ≤ 1 := lim_le.2 (by decide)
theorem qgt {n : Nm} {v c K : Nat} (hK : K = 620) (h : Rep n (v : Int)) (hv : 10 * v + c < 10 ^ K) (hc : c ≤ 9) : Rep (rmulS n (rofS 10)).1 ((10 * v : Nat) : Int) ∧ Rep (rdvF n (c : Int)) ((10 * v + c : Nat) : Int) := by
  have m1 : mag n = v := by rw [mag_rep h]; rfl
  have m2 : mag (rofS 10) = 10 := by rw [mag_rep rep_ten]; rfl
  have h1 := (rep_rmul (a := n) (b := rofS 10) (by rw [m1]; have := qbv (v := v) hK (by omega); omega) (by rw [m2]; have := lim_ten; omega) (by rw [m1, m2]; have := qbv (v := v * 10) hK (by omega); omega)).2
  rw [h.toI, rep_ten.toI] at h1
  have e1 : (v : Int) * 10 = ((10 * v : Nat) : Int) := by omega
  rw [e1] at h1
  refine ⟨h1, ?_⟩
  have h2 := rep_radd (rmulS n (rofS 10)).1 (rofS (c : Int))
  rw [h1.toI, (qcc (z := (c : Int)) (by omega) (by omega)).toI] at h2
  exact h2
theorem rep_rdv {s : List UInt8} (hd : ∀ b ∈ s, isDig b) (hl : s.length ≤ 620) : ∀ i, i ≤ s.length → Rep (rdv (s.take i)) ((dv (s.take i) : Nat) : Int) := by
  obtain ⟨K, hK⟩ : ∃ K, K = 620 := ⟨_, rfl⟩
  have hlK : s.length ≤ K := by omega
  intro i
  induction i with
  | zero =>
    intro _
    rw [List.take_zero]
    exact qgu
  | succ i ih =>
    intro hi
    have hlt : i < s.length := by omega
    have hdig := hd s[i] (List.getElem_mem hlt)
    unfold isDig at hdig
    have hs := qez hlt
    have h6 := qjb hd hlK (i + 1)
    rw [hs] at h6
    rw [qgr hlt, hs]
    have e : ((s[i]).toNat : Int) - 48 = (((s[i]).toNat - 48 : Nat) : Int) := by omega
    rw [e]
    exact (qgt hK (ih (by omega)) h6 (by omega)).2
def rparS (s : List UInt8) : Nm × Nat :=
  if wrS s = false then ((false, none), 10) else if 620 < (bodyS s).length then ((false, none), 3) else
  if 64 < ((rdv (bodyS s)).2.getD []).length then ((false, none), 3) else ((negS s, (rdv (bodyS s)).2), 0)
theorem qgy {pol : FuncId → Pol} {s : List UInt8} {t4 : AV} (hl : s.length ≤ 1000000) (H : Heap) : ∀ (r : List UInt8) (i : Nat), s.drop i = r → i ≤ s.length →
    (allDig r = true → LDoes (q7m pol) ⟨[.str s, t4, .int .i64 (i : Int)], [[.bool false, .nils]]⟩ H 0 ⟨[.str s, .undef, t4], [[.bool false, .nils]]⟩ H) ∧
    (allDig r = false → LDoes (q7m pol) ⟨[.str s, t4, .int .i64 (i : Int)], [[.bool false, .nils]]⟩ H 1 ⟨[.str s, .int .i64 10, t4], [[.bool false, .nils]]⟩ H) := by
  have l1 : A.lenStr (.str s) = some (.int .i64 (s.length : Int)) := rfl
  intro r
  induction r with
  | nil =>
    intro i hr hi
    have hi : i = s.length := by
      have := congrArg List.length hr
      rw [List.length_drop, List.length_nil] at this
      omega
    subst hi
    exact ⟨fun _ => LDoes.step (Evs.of fun n m => by simp [↓q00, ↓q01, q4i, l1]), fun h => by simp [allDig] at h⟩
  | cons b r ih =>
    intro i hr hi
    have hlt : i < s.length := by
      have := congrArg List.length hr
      rw [List.length_drop, List.length_cons] at this
      omega
    have hd := List.drop_eq_getElem_cons hlt
    rw [hr] at hd
    injection hd with hd1 hd2
    have hlt' : (i : Int) < (s.length : Int) := by omega
    have x1 : A.index (.str s) (.int .i64 (i : Int)) = some (.int .u8 (b.toNat : Int)) := by rw [q3u hlt, hd1]
    have w3 : IntKind.wrap .i64 ((i : Int) + 1) = ((i + 1 : Nat) : Int) := by rw [q08 (by omega) (by omega)]; rfl
    have hcons : allDig (b :: r) = (decide (isDig b) && allDig r) := rfl
    obtain ⟨ih1, ih2⟩ := ih (i + 1) hd2.symm (by omega)
    rw [hcons]
    by_cases h1 : (b.toNat : Int) < 48
    · have hnd : decide (isDig b) = false := by simp only [decide_eq_false_iff_not]; unfold isDig; omega
      rw [hnd]
      refine ⟨fun h => by simp at h, fun _ => LDoes.step (Evs.of fun n m => ?_)⟩
      generalize (b.toNat : Int) = B at *
      generalize (s.length : Int) = N at *
      generalize (i : Int) = I at *
      simp [↓q00, ↓q07, ↓q01, ↓q04, ↓q05, ↓q06, q4i, l1, hlt', x1, h1, A.asG, guardB, A.pick, A.fill, A.fits, A.splice]
    · by_cases h2 : (b.toNat : Int) > 57
      · have hnd : decide (isDig b) = false := by simp only [decide_eq_false_iff_not]; unfold isDig; omega
        rw [hnd]
        refine ⟨fun h => by simp at h, fun _ => LDoes.step (Evs.of fun n m => ?_)⟩
        have h2' : 57 < (b.toNat : Int) := h2
        generalize (b.toNat : Int) = B at *
        generalize (s.length : Int) = N at *
        generalize (i : Int) = I at *
        simp [↓q00, ↓q07, ↓q01, ↓q04, ↓q05, ↓q06, q4i, l1, hlt', x1, h1, h2', A.asG, guardB, A.pick, A.fill, A.fits, A.splice]
      · have hnd : decide (isDig b) = true := by simp only [decide_eq_true_eq]; unfold isDig; omega
        rw [hnd, Bool.true_and]
        have h2' : ¬ 57 < (b.toNat : Int) := h2
        refine ⟨fun h => LDoes.step (Evs.withL (ih1 h) (Evs.of fun n m _ h3 => ?_)), fun h => LDoes.step (Evs.withL (ih2 h) (Evs.of fun n m _ h3 => ?_))⟩
        all_goals
          generalize ((i + 1 : Nat) : Int) = I1 at *
          generalize (b.toNat : Int) = B at *
          generalize (s.length : Int) = N at *
          generalize (i : Int) = I at *
          simp [↓q00, ↓q07, ↓q01, ↓q04, ↓q05, q4i, l1, hlt', x1, h1, h2', A.asG, guardB, A.pick, w3, h3]
theorem cv_8_i64 (n : Int) (j : IntKind) : Go.Den.convert base 5 2 (.int j n) = some (.int .i64 (IntKind.wrap .i64 n)) := q38 qik (by kernel_rfl)
noncomputable abbrev TRpr : List (FuncId × Pol) := [(17, pRof), (25, pRmul), (29, pRadd)]
theorem rpn_loop {s : List UInt8} {t4 : AV} {c0 : List AV} (hd : ∀ b ∈ s, isDig b) (hl : s.length ≤ 620) (H : Heap) : ∀ (j i : Nat), i + j = s.length →
    LDoes (qhd (polT TRpr)) ⟨[.str s, t4, .int .i64 (i : Int)], [c0, [.bool (rdv (s.take i)).1, eD (rdv (s.take i)).2]]⟩ H 0 ⟨[t4], [c0, [.bool (rdv s).1, eD (rdv s).2]]⟩ H := by
  have l1 : A.lenStr (.str s) = some (.int .i64 (s.length : Int)) := rfl
  obtain ⟨K, hK⟩ : ∃ K, K = 620 := ⟨_, rfl⟩
  have hlK : s.length ≤ K := by omega
  intro j
  induction j with
  | zero =>
    intro i hi
    have hi : i = s.length := by omega
    subst hi
    rw [List.take_of_length_le (Nat.le_refl _)]
    exact LDoes.step (Evs.of fun n m => by simp [↓q00, ↓q01, q9t, l1])
  | succ j ih =>
    intro i hi
    have hlt : i < s.length := by omega
    have hlt' : (i : Int) < (s.length : Int) := by omega
    have hdig := hd s[i] (List.getElem_mem hlt)
    unfold isDig at hdig
    have x1 : A.index (.str s) (.int .i64 (i : Int)) = some (.int .u8 ((s[i]).toNat : Int)) := q3u hlt
    have w1 : IntKind.wrap .u8 (((s[i]).toNat : Int) - 48) = ((s[i]).toNat : Int) - 48 := wrap_u8 (by omega) (by omega)
    have w2 : IntKind.wrap .i64 (((s[i]).toNat : Int) - 48) = ((s[i]).toNat : Int) - 48 := q08 (by omega) (by omega)
    have w5 : IntKind.wrap .i64 ((i : Int) + 1) = ((i + 1 : Nat) : Int) := by rw [q08 (by omega) (by omega)]; rfl
    have hrep := rep_rdv hd hl i (by omega)
    have h6 := qjb hd hlK (i + 1)
    rw [qez hlt] at h6
    have hlen := qgs hrep
    have hl78 := qbv (v := dv (s.take i)) hK (qjb hd hlK i)
    have hmul := (qgt (c := (s[i]).toNat - 48) hK hrep h6 (by omega)).1
    have hmlen := qgs hmul
    have hl78' := qbv (v := 10 * dv (s.take i)) hK (by omega)
    have hfew : few (rdv (s.take i)).2 := by unfold few; omega
    have hten : few (rofS 10).2 := by unfold few; rw [rep_ten.2]; have := lim_ten; show (lim 10).length ≤ 1000000; omega
    have hlotm : lot (rmulS (rdv (s.take i)) (rofS 10)).1.2 := by unfold lot; omega
    have hrc := qcc (z := ((s[i]).toNat : Int) - 48) (by omega) (by omega)
    have hlotc : lot (rofS (((s[i]).toNat : Int) - 48)).2 := by
      unfold lot
      rw [hrc.2]
      have := lim_le.2 (show (((s[i]).toNat : Int) - 48).natAbs < 4294967296 ^ 1 by omega)
      omega
    have k1 : ∀ (R : Type) (H : Heap) (k : AV → Heap → Option R), polQ pRof [.int .i64 10] H k = k (eN (rofS 10)) H := fun R H k => qRof (by decide) (by decide)
    have k2 : ∀ (R : Type) (H : Heap) (k : AV → Heap → Option R), polQ pRmul [eN (rdv (s.take i)), eN (rofS 10)] H k = k (.tup [eN (rmulS (rdv (s.take i)) (rofS 10)).1, .bool (rmulS (rdv (s.take i)) (rofS 10)).2]) H := fun R H k => qRmul hfew hten
    have k3 : ∀ (R : Type) (H : Heap) (k : AV → Heap → Option R), polQ pRof [.int .i64 (((s[i]).toNat : Int) - 48)] H k = k (eN (rofS (((s[i]).toNat : Int) - 48))) H := fun R H k => qRof (by omega) (by omega)
    have k4 : ∀ (R : Type) (H : Heap) (k : AV → Heap → Option R), polQ pRadd [eN (rmulS (rdv (s.take i)) (rofS 10)).1, eN (rofS (((s[i]).toNat : Int) - 48))] H k = k (eN (rdvF (rdv (s.take i)) (((s[i]).toNat : Int) - 48))) H := fun R H k => qRadd hlotm hlotc
    have hL := ih (i + 1) (by omega)
    rw [qgr hlt] at hL
    refine LDoes.step (Evs.withL hL (Evs.of fun n m _ h2 => ?_))
    clear hL ih hlotm hlotc hten hfew hmul hmlen hlen hrep hl78 hl78' hrc h6
    generalize rdv s = F at *
    generalize rdvF (rdv (s.take i)) (((s[i]).toNat : Int) - 48) = A1 at *
    generalize rmulS (rdv (s.take i)) (rofS 10) = A2 at *
    generalize rofS (((s[i]).toNat : Int) - 48) = A3 at *
    generalize rofS 10 = A4 at *
    generalize rdv (s.take i) = A5 at *
    generalize hC : ((s[i]).toNat : Int) - 48 = C at *
    obtain ⟨a1, a1'⟩ := A1
    obtain ⟨⟨a2, a2'⟩, a2''⟩ := A2
    obtain ⟨a3, a3'⟩ := A3
    obtain ⟨a4, a4'⟩ := A4
    obtain ⟨a5, a5'⟩ := A5
    generalize ((s[i]).toNat : Int) = B at *
    generalize (s.length : Int) = N at *
    generalize ((i + 1 : Nat) : Int) = I1 at *
    generalize (i : Int) = I at *
    dsimp only at k2 k4 h2 ⊢
    simp [↓q00, ↓q07, ↓q01, ↓q06, q9t, l1, hlt', x1, hC, w1, w2, w5, cv_8_i64, k1, k2, k3, k4, A.ofList, A.splice, A.fits, h2]
noncomputable def pRpr : Pol := .still (p1 cS eNI (fun s => s.length ≤ 1000000) rparS)
theorem first_of (s : List UInt8) : (s = [] ∧ bodyS s = s ∧ negS s = false) ∨ (∃ b t, s = b :: t ∧ b ≠ 45 ∧ bodyS s = s ∧ negS s = false) ∨ (∃ t, s = 45 :: t ∧ bodyS s = t ∧ negS s = true) := by
  unfold bodyS negS
  rcases q8c s with ⟨t, e, h⟩ | ⟨h0, h⟩
  · exact .inr (.inr ⟨t, e, by rw [h], by rw [h]⟩)
  · rw [h]
    cases s with
    | nil => exact .inl ⟨rfl, rfl, rfl⟩
    | cons b t => exact .inr (.inl ⟨b, t, rfl, fun e => h0 t (by rw [e]), rfl, rfl⟩)
theorem qhr {R : Type} {s : List UInt8} {H : Heap} (K : Nat → Live → Heap → Option R) : (bindC [(AV.bool false), AV.nils] fun c0 =>
  withV (A.lenStr (AV.str s)) fun t11 =>
  withV (A.bin base.P .gtr 3 t11 (AV.int .i64 0) true H) fun t12 =>
  withB (A.asG true t12) fun b4 => withP (guardB b4 true (
   some (AV.str s, H))
   (some (.tup [], H))) fun t14 H2 =>
  withB (A.asG true t12) fun b5 => withP (guardB b5 true (
   withV (A.index t14 (AV.int .i64 0)) fun t15 =>
   some (t15, H2))
   (some (.tup [], H2))) fun t15 H3 =>
  withB (A.asG true t12) fun b6 => withP (guardB b6 true (
   withV (A.bin base.P .eql 5 t15 (AV.int .u8 45) true H3) fun t16 =>
   some (t16, H3))
   (some (.tup [], H3))) fun t16 H4 =>
  withV (A.pick t12 t16 (AV.bool false)) fun t17 =>
  bindX (A.test t17 (
   withV (A.sliceStr (AV.str s) (some (AV.int .i64 1)) none) fun t20 =>
    some (0, ⟨[t20, t17], [c0]⟩, H4))
   (
   some (0, ⟨[AV.str s, t17], [c0]⟩, H4))) fun i5 l5 H5 => K i5 l5 H5) = K 0 ⟨[.str (bodyS s), .bool (negS s)], [[.bool false, .nils]]⟩ H := by
  have l0 : A.lenStr (.str s) = some (.int .i64 (s.length : Int)) := rfl
  rcases first_of s with ⟨e, h1, h2⟩ | ⟨b, t, e, hb, h1, h2⟩ | ⟨t, e, h1, h2⟩
  · rw [h1, h2]
    have f1 : (s.length : Int) = 0 := by rw [e]; rfl
    generalize (s.length : Int) = N0 at *
    simp [↓q00, ↓q07, ↓q01, ↓q04, ↓q05, ↓q02, l0, f1, A.asG, guardB, A.pick]
  · rw [h1, h2]
    have f1 : (0 : Int) < (s.length : Int) := by rw [e, List.length_cons]; omega
    have f2 : A.index (.str s) (.int .i64 0) = some (.int .u8 (b.toNat : Int)) := by rw [e]; exact q3u (s := b :: t) (i := 0) (k := .i64) (by simp)
    have f3 : ¬ (b.toNat : Int) = 45 := by
      intro h
      apply hb
      apply UInt8.toNat_inj.1
      have : (45 : UInt8).toNat = 45 := rfl
      omega
    generalize (s.length : Int) = N0 at *
    generalize (b.toNat : Int) = B at *
    simp [↓q00, ↓q07, ↓q01, ↓q04, ↓q05, ↓q02, l0, f1, f2, f3, A.asG, guardB, A.pick]
  · rw [h1, h2]
    have f1 : (0 : Int) < (s.length : Int) := by rw [e, List.length_cons]; omega
    have f2 : A.index (.str s) (.int .i64 0) = some (.int .u8 45) := by rw [e]; exact q3u (s := 45 :: t) (i := 0) (k := .i64) (by simp)
    have f3 : A.sliceStr (.str s) (some (.int .i64 1)) none = some (.str t) := by rw [e]; exact q99 (s := 45 :: t) (i := 1) (k := .i64) (by simp)
    generalize (s.length : Int) = N0 at *
    simp [↓q00, ↓q07, ↓q01, ↓q04, ↓q05, ↓q02, l0, f1, f2, f3, A.asG, guardB, A.pick]
theorem okRpr : PolOK base 11 pRpr := still1 base_ok TRpr ⟨okRof, okRmul, okRadd, trivial⟩ fun s hs => by
  have e1 : cS.enc s = .str s := rfl
  rw [e1]
  have hdl : (bodyS s).length ≤ 1000000 := Nat.le_trans (qcz s) hs
  have hw := wrS_eq s
  have htt := fun h => (qgy (pol := polT TRpr) (t4 := .bool (negS s)) hdl [] (bodyS s) 0 rfl (Nat.zero_le _)).1 h
  have hff := fun h => (qgy (pol := polT TRpr) (t4 := .bool (negS s)) hdl [] (bodyS s) 0 rfl (Nat.zero_le _)).2 h
  have hlp := fun (hd : ∀ b ∈ bodyS s, isDig b) (hl : (bodyS s).length ≤ 620) => rpn_loop (t4 := .bool (negS s)) (c0 := [.bool false, .nils]) hd hl [] (bodyS s).length 0 (by omega)
  have hfp := fun (n : Nat) => S11 (polT TRpr) n AV (fun v G => A.freezeB true 64 G v) (.str s) []
  have hfp' : ∀ n, callF (base.with (polT TRpr)) (n + 1) AV 11 [.str s] [] (fun v G => A.freezeB true 64 G v) = _ := fun n => (hfp n).trans (qhr _)
  clear hfp
  unfold rparS
  rw [hw]
  generalize bodyS s = d at *
  generalize negS s = neg at *
  have frz : ∀ H, A.freezeB true 64 H (.tup [.agg [.bool false, .nils], .int .i64 10]) = some (.tup [.agg [.bool false, .nils], .int .i64 10]) := fun H => q8m (d := none)
  have frz3 : ∀ H, A.freezeB true 64 H (.tup [.agg [.bool false, .nils], .int .i64 3]) = some (.tup [.agg [.bool false, .nils], .int .i64 3]) := fun H => q8m (d := none)
  have l1 : A.lenStr (.str d) = some (.int .i64 (d.length : Int)) := rfl
  cases ha : allDig d with
  | false =>
    rw [Bool.and_false, if_pos rfl]
    refine Evs.withL (hff ha) (Evs.of fun n m h1 _ => ?_)
    have h1' : q7m (polT TRpr) n n ⟨[.str d, .bool neg, .int .i64 0], [[.bool false, .nils]]⟩ [] = some (1, ⟨[.str d, .int .i64 10, .bool neg], [[.bool false, .nils]]⟩, []) := h1
    clear h1 htt hff hlp
    rw [hfp']
    simp [↓q03, ↓q07, ↓q01, ↓q02, h1', A.ofList]
    exact frz _
  | true =>
    rw [Bool.and_true]
    have ht := htt ha
    have hdg := allDig_iff.1 ha
    clear htt hff
    cases d with
    | nil =>
      rw [show okHead [] neg = false from rfl, if_pos rfl]
      refine Evs.withL ht (Evs.of fun n m h1 _ => ?_)
      have h1' : q7m (polT TRpr) n n ⟨[.str [], .bool neg, .int .i64 0], [[.bool false, .nils]]⟩ [] = some (0, ⟨[.str [], .undef, .bool neg], [[.bool false, .nils]]⟩, []) := h1
      rw [hfp']
      simp [↓q00, ↓q03, ↓q07, ↓q01, ↓q04, ↓q05, ↓q02, ↓q06, h1', qb1, A.asG, guardB, A.pick, A.fill, A.fits, A.splice, A.ofList]
      exact frz _
    | cons b t =>
      have h0 : ∀ H, A.bin base.P .eql 9 (.str (b :: t)) (.str []) true H = some (.bool false) := fun H => by
        rw [qb1]
        rfl
      have i0 : A.index (.str (b :: t)) (.int .i64 0) = some (.int .u8 (b.toNat : Int)) := q3u (s := b :: t) (i := 0) (k := .i64) (by simp)
      have hb : (b.toNat : Int) = 48 ↔ b = 48 := ⟨fun h => UInt8.toNat_inj.1 (by
        have : (48 : UInt8).toNat = 48 := rfl
        omega), fun h => by subst h; rfl⟩
      have hlen : ((b :: t).length : Int) > 1 ↔ t ≠ [] := by
        rw [← List.length_pos_iff, List.length_cons]
        omega
      -- the rest, where the head is in order
      have rest : okHead (b :: t) neg = true → (¬ (b.toNat : Int) = 48 ∨ ((b.toNat : Int) = 48 ∧ ¬ 1 < ((b :: t).length : Int) ∧ neg = false)) → Evs fun n _ => callF (base.with (polT TRpr)) (n + 1) AV 11 [.str s] [] (fun v G => A.freezeB true 64 G v) = some (eNI (if okHead (b :: t) neg = false then ((false, none), 10) else if 620 < (b :: t).length then ((false, none), 3) else if 64 < ((rdv (b :: t)).2.getD []).length then ((false, none), 3) else ((neg, (rdv (b :: t)).2), 0))) := fun hok hcase => by
        rw [hok, if_neg (by decide)]
        generalize b :: t = D at *
        by_cases h6 : 620 < D.length
        · rw [if_pos h6]
          have h6' : (620 : Int) < (D.length : Int) := by omega
          refine Evs.withL ht (Evs.of fun n m h1 _ => ?_)
          have h1' : q7m (polT TRpr) n n ⟨[.str D, .bool neg, .int .i64 0], [[.bool false, .nils]]⟩ [] = some (0, ⟨[.str D, .undef, .bool neg], [[.bool false, .nils]]⟩, []) := h1
          rw [hfp']
          generalize (b.toNat : Int) = B at *
          generalize (D.length : Int) = N at *
          rcases hcase with z1 | ⟨z1, z2, z3⟩
          · simp [↓q00, ↓q03, ↓q07, ↓q01, ↓q04, ↓q05, ↓q02, ↓q06, h1', h0, i0, z1, l1, h6', A.asG, guardB, A.pick, A.fill, A.fits, A.splice, A.ofList]
            exact frz3 _
          · subst z3
            simp [↓q00, ↓q03, ↓q07, ↓q01, ↓q04, ↓q05, ↓q02, ↓q06, h1', h0, i0, z1, z2, l1, h6', A.asG, guardB, A.pick, A.fill, A.fits, A.splice, A.ofList]
            exact frz3 _
        · rw [if_neg h6]
          have h6' : ¬ (620 : Int) < (D.length : Int) := by omega
          have hL := hlp hdg (by omega)
          rw [List.take_zero] at hL
          have hlen2 : A.len (eD (rdv D).2) [] = some (.int .i64 (((rdv D).2.getD []).length : Int)) := q19
          by_cases h64 : 64 < ((rdv D).2.getD []).length
          · rw [if_pos h64]
            have h64' : (64 : Int) < (((rdv D).2.getD []).length : Int) := by omega
            refine Evs.withL hL (Evs.withL ht (Evs.of fun n m h1 _ h2 _ => ?_))
            have h1' : q7m (polT TRpr) n n ⟨[.str D, .bool neg, .int .i64 0], [[.bool false, .nils]]⟩ [] = some (0, ⟨[.str D, .undef, .bool neg], [[.bool false, .nils]]⟩, []) := h1
            have h2' : qhd (polT TRpr) n n ⟨[.str D, .bool neg, .int .i64 0], [[.bool false, .nils], [.bool false, .nils]]⟩ [] = some (0, ⟨[.bool neg], [[.bool false, .nils], [.bool (rdv D).1, eD (rdv D).2]]⟩, []) := h2
            rw [hfp']
            clear h1 h2 hL ht
            generalize rdv D = X at *
            obtain ⟨x1, x2⟩ := X
            dsimp only at hlen2 h64' h2'
            generalize (b.toNat : Int) = B at *
            generalize (D.length : Int) = N at *
            generalize ((x2.getD []).length : Int) = M at *
            rcases hcase with z1 | ⟨z1, z2, z3⟩
            · simp [-q19, ↓q00, ↓q03, ↓q07, ↓q01, ↓q04, ↓q05, ↓q02, ↓q06, h1', h0, i0, z1, l1, h6', h2', hlen2, h64', A.asG, guardB, A.pick, A.fill, A.fits, A.splice, A.ofList]
              exact frz3 _
            · subst z3
              simp [-q19, ↓q00, ↓q03, ↓q07, ↓q01, ↓q04, ↓q05, ↓q02, ↓q06, h1', h0, i0, z1, z2, l1, h6', h2', hlen2, h64', A.asG, guardB, A.pick, A.fill, A.fits, A.splice, A.ofList]
              exact frz3 _
          · rw [if_neg h64]
            have h64' : ¬ (64 : Int) < (((rdv D).2.getD []).length : Int) := by omega
            refine Evs.withL hL (Evs.withL ht (Evs.of fun n m h1 _ h2 _ => ?_))
            have h1' : q7m (polT TRpr) n n ⟨[.str D, .bool neg, .int .i64 0], [[.bool false, .nils]]⟩ [] = some (0, ⟨[.str D, .undef, .bool neg], [[.bool false, .nils]]⟩, []) := h1
            have h2' : qhd (polT TRpr) n n ⟨[.str D, .bool neg, .int .i64 0], [[.bool false, .nils], [.bool false, .nils]]⟩ [] = some (0, ⟨[.bool neg], [[.bool false, .nils], [.bool (rdv D).1, eD (rdv D).2]]⟩, []) := h2
            rw [hfp']
            clear h1 h2 hL ht
            generalize rdv D = X at *
            obtain ⟨x1, x2⟩ := X
            dsimp only at hlen2 h64' h2'
            generalize (b.toNat : Int) = B at *
            generalize (D.length : Int) = N at *
            generalize ((x2.getD []).length : Int) = M at *
            rcases hcase with z1 | ⟨z1, z2, z3⟩
            · simp [-q19, ↓q00, ↓q03, ↓q07, ↓q01, ↓q04, ↓q05, ↓q02, ↓q06, h1', h0, i0, z1, l1, h6', h2', hlen2, h64', A.asG, guardB, A.pick, A.fill, A.fits, A.splice, A.ofList, q8m]
            · subst z3
              simp [-q19, ↓q00, ↓q03, ↓q07, ↓q01, ↓q04, ↓q05, ↓q02, ↓q06, h1', h0, i0, z1, z2, l1, h6', h2', hlen2, h64', A.asG, guardB, A.pick, A.fill, A.fits, A.splice, A.ofList, q8m]
      by_cases h1 : b = 48
      · have z1 := hb.2 h1
        by_cases h2 : t ≠ []
        · have z2 : 1 < ((b :: t).length : Int) := hlen.2 h2
          have hd : okHead (b :: t) neg = false := by
            unfold okHead
            dsimp only
            rw [decide_eq_true h1, decide_eq_true h2]
            rfl
          rw [hd, if_pos rfl]
          refine Evs.withL ht (Evs.of fun n m h1 _ => ?_)
          have h1' : q7m (polT TRpr) n n ⟨[.str (b :: t), .bool neg, .int .i64 0], [[.bool false, .nils]]⟩ [] = some (0, ⟨[.str (b :: t), .undef, .bool neg], [[.bool false, .nils]]⟩, []) := h1
          rw [hfp']
          generalize b :: t = D at *
          generalize (b.toNat : Int) = B at *
          generalize (D.length : Int) = N at *
          simp [↓q00, ↓q03, ↓q07, ↓q01, ↓q04, ↓q05, ↓q02, ↓q06, h1', h0, i0, z1, z2, l1, A.asG, guardB, A.pick, A.fill, A.fits, A.splice, A.ofList]
          exact frz _
        · have z2 : ¬ 1 < ((b :: t).length : Int) := fun h => h2 (hlen.1 h)
          cases neg with
          | true =>
            have hd : okHead (b :: t) true = false := by
              unfold okHead
              dsimp only
              rw [decide_eq_true h1]
              simp
            rw [hd, if_pos rfl]
            refine Evs.withL ht (Evs.of fun n m h1 _ => ?_)
            have h1' : q7m (polT TRpr) n n ⟨[.str (b :: t), .bool true, .int .i64 0], [[.bool false, .nils]]⟩ [] = some (0, ⟨[.str (b :: t), .undef, .bool true], [[.bool false, .nils]]⟩, []) := h1
            rw [hfp']
            generalize b :: t = D at *
            generalize (b.toNat : Int) = B at *
            generalize (D.length : Int) = N at *
            simp [↓q00, ↓q03, ↓q07, ↓q01, ↓q04, ↓q05, ↓q02, ↓q06, h1', h0, i0, z1, z2, l1, A.asG, guardB, A.pick, A.fill, A.fits, A.splice, A.ofList]
            exact frz _
          | false =>
            exact rest (by
              unfold okHead
              dsimp only
              rw [decide_eq_false h2]
              simp) (.inr ⟨z1, z2, rfl⟩)
      · have z1 : ¬ (b.toNat : Int) = 48 := fun h => h1 (hb.1 h)
        exact rest (by
          unfold okHead
          dsimp only
          rw [decide_eq_false h1]
          rfl) (.inl z1)
theorem kRpr {R : Type} {s : List UInt8} (h : s.length ≤ 1000000) {H : Heap} {k : AV → Heap → Option R} : polK pRpr [.str s] H k = k (eNI (rparS s)) H := by
  simp [pRpr, q0h, h]
end Go.Proofs.YtikkpecdkdgmfaaDoor

/- The law on texts of numbers: what its function answers. -/
set_option maxRecDepth 100000
set_option maxHeartbeats 8000000
namespace Go.Proofs.YtikkpecdkdgmfaaDoor
open Go Go.Den
theorem sameS_iff {a b : Nm} : sameS a b = true ↔ a.1 = b.1 ∧ a.2.getD [] = b.2.getD [] := by unfold sameS; exact decide_eq_true_iff
theorem qgl (p : Bool) (v : Nat) : madeS p (nz (lim v)) = (p && decide (v ≠ 0), some (lim v)) ∨ (v = 0 ∧ madeS p (nz (lim v)) = (false, none)) := by
  unfold madeS cutS nz
  by_cases h : v = 0
  · right
    refine ⟨h, ?_⟩
    rw [h, q0o, if_pos rfl]
    simp
  · left
    have hne := (not_congr lim_nil).2 h
    rw [if_neg hne]
    simp [h, hne, q0q, List.length_pos_iff]
theorem made_1 (p : Bool) (v : Nat) : (madeS p (nz (lim v))).1 = (p && decide (v ≠ 0)) := by
  rcases qgl p v with h | ⟨h0, h⟩
  · rw [h]
  · rw [h, h0]; simp
theorem qgk (p : Bool) (v : Nat) : (madeS p (nz (lim v))).2.getD [] = lim v := by
  rcases qgl p v with h | ⟨h0, h⟩
  · rw [h]; rfl
  · rw [h, h0, q0o]; rfl
theorem qgo (s : List UInt8) : (parS s).2 = (rparS s).2 ∧ sameS (parS s).1 (rparS s).1 = true := by
  unfold parS rparS
  cases hw : wrS s with
  | false => rw [if_pos rfl, if_pos rfl]; exact ⟨rfl, sameS_iff.2 ⟨rfl, rfl⟩⟩
  | true =>
    rw [if_neg (show ¬ (true = false) by decide), if_neg (show ¬ (true = false) by decide)]
    by_cases h6 : 620 < (bodyS s).length
    · rw [if_pos h6, if_pos h6]; exact ⟨rfl, sameS_iff.2 ⟨rfl, rfl⟩⟩
    · rw [if_neg h6, if_neg h6]
      have hr := rep_rdv (wr_dig hw) (by omega) (bodyS s).length (Nat.le_refl _)
      rw [List.take_of_length_le (Nat.le_refl _)] at hr
      have h2 : (rdv (bodyS s)).2.getD [] = lim (dv (bodyS s)) := hr.2
      rw [h2]
      by_cases h64 : 64 < (lim (dv (bodyS s))).length
      · rw [if_pos h64, if_pos h64]; exact ⟨rfl, sameS_iff.2 ⟨rfl, rfl⟩⟩
      · rw [if_neg h64, if_neg h64]
        refine ⟨rfl, sameS_iff.2 ⟨?_, ?_⟩⟩
        · rw [made_1]
          have := (wr_txt hw).2
          cases hn : negS s
          · rfl
          · simp [this hn]
        · rw [qgk, h2]
theorem par_mid (s : List UInt8) : mid (parS s).1.2 ∧ few (rparS s).1.2 := by
  have h := sameS_iff.1 (qgo s).2
  have hm : mid (parS s).1.2 := by
    unfold parS mid
    split
    · simp
    · split
      · simp
      · split
        · simp
        · rw [qgk]; omega
  refine ⟨hm, ?_⟩
  unfold few
  rw [← h.2]
  unfold mid at hm
  omega
theorem par_txt {a : Nm} (h : ((rnormS a).2.getD []).length ≤ 64) : (parS (nTxt a)).2 = 0 ∧ sameS (parS (nTxt a)).1 (rnormS a) = true := by
  have h2 : (rnormS a).2.getD [] = lim (mag a) := q2m _
  rw [h2] at h
  unfold parS nTxt
  rw [sgnT_wr, qea, qh3, dv_txt, if_neg (by decide), if_neg (by have := txt_len (n := mag a) (lim_le.1 h); omega), if_neg (by omega)]
  refine ⟨rfl, sameS_iff.2 ⟨?_, ?_⟩⟩
  · rw [made_1]
    have : (rnormS a).1 = (a.1 && decide (0 < (lim (mag a)).length)) := rfl
    rw [this]
    by_cases h0 : mag a = 0
    · rw [h0, q0o]; simp
    · have := List.length_pos_iff.2 ((not_congr lim_nil).2 h0)
      simp [h0, this]
  · rw [qgk, h2]
theorem txt_par {s : List UInt8} (h : (parS s).2 = 0) : nTxt (parS s).1 = s := by
  unfold parS at h ⊢
  split at h
  · cases h
  · rename_i hw
    have hw : wrS s = true := by simpa using hw
    rw [if_neg (by rw [hw]; decide)]
    split at h
    · cases h
    · rename_i h6
      rw [if_neg h6]
      split at h
      · cases h
      · rename_i h64
        rw [if_neg h64]
        unfold nTxt mag
        rw [made_1, qgk, q0q]
        refine Eq.trans ?_ (sgnT_of hw)
        unfold sgnT
        by_cases h0 : dv (bodyS s) = 0
        · rw [if_neg (fun e => e.2 h0), if_neg (fun e => e.2 h0)]
        · have : (negS s && decide (dv (bodyS s) ≠ 0)) = negS s := by simp [h0]
          rw [this]
theorem nTxt_len {a : Nm} (h : mid a.2) : (nTxt a).length ≤ 1000000 := by
  have hle : (lim (mag a)).length ≤ 10000 := Nat.le_trans (lim_le.2 (q1n _)) h
  have hdl : (decE (mag a)).length ≤ 180000 := by
    obtain ⟨J, hJ⟩ : ∃ J, J = 10000 := ⟨_, rfl⟩
    have h3 : mag a < 4294967296 ^ J := lim_le.1 (by omega)
    have h4 : ∀ k : Nat, 4294967296 ^ k ≤ 10 ^ (18 * k) := fun k => by
      rw [Nat.pow_mul]
      exact Nat.pow_le_pow_left (by decide) k
    have h5 : (decE (mag a)).length ≤ 18 * J := decE_len.2 (Nat.lt_of_lt_of_le h3 (h4 J))
    omega
  have ht : (txt (mag a)).length ≤ 180000 := by
    unfold txt
    split
    · simp
    · exact hdl
  unfold nTxt sgnT
  split
  · rw [List.length_cons]; omega
  · omega
theorem str_neq {t : TypeId} {c : Bool} {H : Heap} (s : List UInt8) : A.bin base.P .neq t (.str s) (.str s) c H = some (.bool false) := by simp [A.bin, A.binStr]
theorem str_eq2 {t : TypeId} {c : Bool} {H : Heap} (s : List UInt8) : A.bin base.P .eql t (.str s) (.str s) c H = some (.bool true) := by simp [A.bin, A.binStr]
noncomputable abbrev TTexts : List (FuncId × Pol) := [(9, pAwake), (14, pNum), (10, pPar), (11, pRpr), (12, pSame3), (13, pTxt), (15, pRtx), (16, pOf), (17, pRof), (18, pRnorm)]
theorem okTTexts : TabOK base TTexts := ⟨okAwake, okNum, okPar, okRpr, okSame3, okTxt, okRtx, okOf, okRof, q5a, trivial⟩
theorem law_texts (s : List UInt8) (a : Nm) {z : Int} (z1 : -9223372036854775808 ≤ z) (z2 : z ≤ 9223372036854775807) : Evs fun n _ => callF (base.with (polT TTexts)) (n + 1) AV 3 [.str s, eN a, .int .i64 z] [] (fun v _ => some v) = some (.bool true) := by
  refine Evs.of fun n m => ?_
  have hB0 : ∀ r : List HObj, Go.Den.Box (.row 0 2 24 [eN a] :: r) 0 2 24 [.bool a.1, eD a.2] := fun r => rfl
  have p1 := fun r => (hB0 r).fa (o := 1)
  have p2 := fun r => (hB0 r).load (o := 1)
  have p5 := fun r => qb9 (hB0 r) rfl
  simp only [List.getElem?_cons_succ, List.getElem?_cons_zero] at p2
  have len_eD : ∀ (d : Option (List UInt32)) (H : Heap), A.len (eD d) H = some (.int .i64 ((d.getD []).length : Nat)) := fun d H => by simp
  have l0 : A.lenStr (.str s) = some (.int .i64 (s.length : Int)) := rfl
  by_cases cs : 1000 < s.length
  · have cs' : (1000 : Int) < (s.length : Int) := by omega
    generalize (s.length : Int) = N at *
    simp [↓q00, ↓q03, ↓q07, ↓q0f, ↓q01, ↓q04, ↓q05, ↓q06, S3, kAwake, l0, cs', A.asG, guardB, A.pick]
  have cs' : ¬ (1000 : Int) < (s.length : Int) := by omega
  by_cases ca : 80 < (a.2.getD []).length
  · have ca' : (80 : Int) < ((a.2.getD []).length : Int) := by omega
    generalize (s.length : Int) = N at *
    simp [↓q00, ↓q03, ↓q07, ↓q0f, ↓q01, ↓q04, ↓q05, ↓q06, S3, kAwake, l0, cs', p1, p2, len_eD, ca', A.asG, guardB, A.pick]
  have ca' : ¬ (80 : Int) < ((a.2.getD []).length : Int) := by omega
  have hmid : mid a.2 := by unfold mid; omega
  obtain ⟨e1, e2⟩ := qgo s
  obtain ⟨m1, m2⟩ := par_mid s
  have k1 : ∀ (R : Type) (H : Heap) (k : AV → Heap → Option R), polK pPar [.str s] H k = k (eNI (parS s)) H := fun R H k => kPar (by omega)
  have k2 : ∀ (R : Type) (H : Heap) (k : AV → Heap → Option R), polK pRpr [.str s] H k = k (eNI (rparS s)) H := fun R H k => kRpr (by omega)
  have k3 : ∀ (R : Type) (H : Heap) (k : AV → Heap → Option R), polK pSame3 [eN (parS s).1, eN (rparS s).1] H k = k (.bool true) H := fun R H k => by rw [kSame3 m1.few m2, e2]
  have k4 : ∀ (R : Type) (H : Heap) (k : AV → Heap → Option R), polK pTxt [eN a] H k = k (.str (nTxt a)) H := fun R H k => kTxt hmid
  have k5 : ∀ (R : Type) (H : Heap) (k : AV → Heap → Option R), polK pRtx [eN a] H k = k (.str (nTxt a)) H := fun R H k => kRtx hmid
  have k6 : ∀ (R : Type) (H : Heap) (k : AV → Heap → Option R), polK pOf [.int .i64 z] H k = k (eN (ofS z)) H := fun R H k => kOf z1 z2
  have k7 : ∀ (R : Type) (H : Heap) (k : AV → Heap → Option R), polK pRof [.int .i64 z] H k = k (eN (rofS z)) H := fun R H k => kRof z1 z2
  have hz := rep_of z1 z2
  have hz' := qcc z1 z2
  have f1 : few (ofS z).2 := by unfold few; rw [hz.2]; have := lim_le.2 (show z.natAbs < 4294967296 ^ 2 by omega); omega
  have f2 : few (rofS z).2 := by unfold few; rw [hz'.2]; have := lim_le.2 (show z.natAbs < 4294967296 ^ 2 by omega); omega
  have k8 : ∀ (R : Type) (H : Heap) (k : AV → Heap → Option R), polK pSame3 [eN (ofS z), eN (rofS z)] H k = k (.bool true) H := fun R H k => by rw [kSame3 f1 f2, hz.same hz']
  have k9 : ∀ (R : Type) (H : Heap) (k : AV → Heap → Option R), polK pPar [.str (nTxt a)] H k = k (eNI (parS (nTxt a))) H := fun R H k => kPar (nTxt_len hmid)
  have q1 : ∀ (R : Type) (H : Heap) (k : AV → Heap → Option R), polQ pRnorm [eN a] H k = k (eN (rnormS a)) H := fun R H k => qRnorm hmid.few
  have q2 : ∀ (R : Type) (H : Heap) (k : AV → Heap → Option R), polK pRnorm [eN a] H k = k (eN (rnormS a)) H := fun R H k => kRnorm hmid.few
  have kn : ∀ (R : Type) (H : Heap) (k : AV → Heap → Option R), polK pNum [eN a] H k = k (eN a) H := fun R H k => kNum
  have m3 := (par_mid (nTxt a)).1
  have f3 : few (rnormS a).2 := by
    unfold few
    have : (rnormS a).2.getD [] = lim (mag a) := q2m _
    rw [this]
    have := lim_le.2 (q1n (a.2.getD []))
    unfold mag
    omega
  have hpt := fun h => par_txt (a := a) h
  have htp := fun h => txt_par (s := s) h
  have k10 : ∀ (R : Type) (H : Heap) (k : AV → Heap → Option R), polK pTxt [eN (parS s).1] H k = k (.str (nTxt (parS s).1)) H := fun R H k => kTxt m1
  have k11 : ∀ (R : Type) (H : Heap) (k : AV → Heap → Option R), polK pSame3 [eN (parS (nTxt a)).1, eN (rnormS a)] H k = k (.bool (sameS (parS (nTxt a)).1 (rnormS a))) H := fun R H k => kSame3 m3.few f3
  clear hz hz' f1 f2 f3 m1 m2 m3 e2 hmid
  generalize nTxt a = T at *
  generalize hX : parS s = X at *
  generalize parS T = Y at *
  generalize rparS s = W at *
  generalize ofS z = O at *
  generalize rofS z = O' at *
  generalize rnormS a = M at *
  obtain ⟨⟨x1, x2⟩, xe⟩ := X
  obtain ⟨⟨y1, y2⟩, ye⟩ := Y
  obtain ⟨⟨w1, w2⟩, we⟩ := W
  obtain ⟨o1, o2⟩ := O
  obtain ⟨o1', o2'⟩ := O'
  obtain ⟨g1, g2⟩ := M
  dsimp only at e1 hpt htp k1 k2 k3 k6 k7 k8 k9 k10 k11 q1 q2
  subst e1
  have sn := fun (t : TypeId) (c : Bool) (H : Heap) => str_neq (t := t) (c := c) (H := H) T
  have hlg : ((g2.getD []).length ≤ 64 → ye = 0 ∧ sameS (y1, y2) (g1, g2) = true) := hpt
  clear hpt
  by_cases c64 : 64 < (g2.getD []).length
  · have c64' : (64 : Int) < ((g2.getD []).length : Int) := by omega
    by_cases cx : xe = 0
    · subst cx
      have ht := htp rfl
      rw [ht] at k10
      have se := fun (t : TypeId) (c : Bool) (H : Heap) => str_eq2 (t := t) (c := c) (H := H) s
      generalize AV.str s = S0 at *
      generalize (s.length : Int) = N at *
      simp [↓q00, ↓q03, ↓q07, ↓q0f, ↓q01, ↓q04, ↓q05, ↓q06, S3, kAwake, l0, cs', p1, p2, p5, len_eD, ca', k1, k2, k3, k4, k5, k6, k7, k8, k9, k10, q1, kn, sn, se, c64', A.asG, guardB, A.pick, A.fits, A.splice, A.ofList, A.field]
    · have cx' : ¬ (xe : Int) = 0 := by omega
      generalize AV.str s = S0 at *
      generalize (s.length : Int) = N at *
      simp [↓q00, ↓q03, ↓q07, ↓q0f, ↓q01, ↓q04, ↓q05, ↓q06, S3, kAwake, l0, cs', p1, p2, p5, len_eD, ca', k1, k2, k3, k4, k5, k6, k7, k8, k9, q1, kn, sn, c64', cx, A.asG, guardB, A.pick, A.fits, A.splice, A.ofList, A.field]
  · have c64' : ¬ (64 : Int) < ((g2.getD []).length : Int) := by omega
    obtain ⟨he, hs⟩ := hlg (by omega)
    subst he
    rw [hs] at k11
    by_cases cx : xe = 0
    · subst cx
      have ht := htp rfl
      rw [ht] at k10
      have se := fun (t : TypeId) (c : Bool) (H : Heap) => str_eq2 (t := t) (c := c) (H := H) s
      generalize AV.str s = S0 at *
      generalize (s.length : Int) = N at *
      simp [↓q00, ↓q03, ↓q07, ↓q0f, ↓q01, ↓q04, ↓q05, ↓q06, S3, kAwake, l0, cs', p1, p2, p5, len_eD, ca', k1, k2, k3, k4, k5, k6, k7, k8, k9, k10, k11, q1, q2, kn, sn, se, c64', A.asG, guardB, A.pick, A.fits, A.splice, A.ofList, A.field]
    · have cx' : ¬ (xe : Int) = 0 := by omega
      generalize AV.str s = S0 at *
      generalize (s.length : Int) = N at *
      simp [↓q00, ↓q03, ↓q07, ↓q0f, ↓q01, ↓q04, ↓q05, ↓q06, S3, kAwake, l0, cs', p1, p2, p5, len_eD, ca', k1, k2, k3, k4, k5, k6, k7, k8, k9, k11, q1, q2, kn, sn, c64', cx, A.asG, guardB, A.pick, A.fits, A.splice, A.ofList, A.field]
end Go.Proofs.YtikkpecdkdgmfaaDoor
