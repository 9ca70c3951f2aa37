/- DEN, part V: what an operation's result hangs on. -/
import Derived.Test.YtikkpecdkdgmfaaDoorDenX
namespace Go.Den
open Go.RowKit

/-! ### slots that there are -/
namespace Tr
variable {α β : Type} {z : α}
def has : Tr α → Nat → Bool
  | .lf, _ => false
  | .nd l _ r, n => bif Nat.beq n 0 then true else bif Nat.beq (n % 2) 1 then has l (n / 2) else has r (n / 2 - 1)
theorem has_set : ∀ {t : Tr α} {i j : Nat} {x : α}, has (set t i x) j = has t j
  | .lf, _, _, _ => rfl
  | .nd l v r, i, j, x => by
    unfold set
    cases hi : Nat.beq i 0
    · simp only [cond_false]
      cases hm : Nat.beq (i % 2) 1
      · simp only [cond_false, has, has_set]
      · simp only [cond_true, has, has_set]
    · simp only [cond_true, has]
theorem get_set_has : ∀ {t : Tr α} {i : Nat} {x : α}, get z (set t i x) i = bif has t i then x else z
  | .lf, _, _ => rfl
  | .nd l v r, i, x => by
    unfold set
    cases hi : Nat.beq i 0
    · simp only [cond_false]
      cases hm : Nat.beq (i % 2) 1
      · simp only [cond_false, get, has, hi, hm]
        exact get_set_has
      · simp only [cond_true, get, has, hi, hm, cond_false]
        exact get_set_has
    · simp only [cond_true, get, has, hi]
end Tr

section
variable {E : Env} {cf : CallFn} {st st2 : St} {o : Oper} {site : Option Nat} {R : Type} {x : SV} {st' : St} {H' : Heap}

theorem eval_eq {y : Operand} (h : ∀ t, y = .tmp t → st2.get t = st.get t) : st2.eval E y = st.eval E y := by
  cases y with
  | tmp t => simp only [St.eval, h t rfl]
  | _ => rfl

theorem evals_eq : ∀ {ys : List Operand}, (∀ t, Operand.tmp t ∈ ys → st2.get t = st.get t) → evals E st2 ys = evals E st ys
  | [], _ => rfl
  | y :: ys, h => by
    unfold evals
    rw [eval_eq (fun t e => h t (by rw [← e]; exact List.mem_cons_self)), evals_eq (fun t ht => h t (List.mem_cons_of_mem _ ht))]

theorem parts_eq {pl : Nat → Option (Nat × Nat)} : ∀ {ps : List (Nat × Operand)}, (∀ t, Operand.tmp t ∈ ps.map (·.2) → st2.get t = st.get t) → parts E st2 pl ps = parts E st pl ps
  | [], _ => rfl
  | (i, y) :: ps, h => by
    unfold parts
    rw [eval_eq (fun t e => h t (by rw [← e]; exact List.mem_cons_self)), parts_eq (fun t ht => h t (List.mem_cons_of_mem _ ht))]

/-- The operation's result hangs on the slots that it looks at. -/
theorem opK_eq {H : Heap} {k k2 : SV → St → Heap → Option R} (ha : ∀ t, Operand.tmp t ∈ o.op.operands.toList → st2.get t = st.get t) (hv : ∀ s w, touchOf st site o = some (s, w) → w = false ∧ st2.var s = st.var s)
    (hk : ∀ x G, k2 x st2 G = k x st G) : opK E cf site o st2 H k2 = opK E cf site o st H k := by
  unfold opK
  unfold touchOf at hv
  cases ho : o.op <;> simp only [ho, Op.operands] at ha hv ⊢
  case move y => cases y <;> simp_all [St.eval]
  case assign y => cases y <;> simp_all [St.eval]
  case pick c a b =>
    rw [eval_eq (y := c) (fun t e => ha t (by simp [e])), eval_eq (y := a) (fun t e => ha t (by simp [e])), eval_eq (y := b) (fun t e => ha t (by simp [e]))]
    simp only [hk]
  case alloc t =>
    cases site with
    | none => simp only [hk]
    | some s => exact absurd (hv s true rfl).1 (by simp)
  case box t y =>
    rw [eval_eq (y := y) (fun t e => ha t (by simp [e]))]
    cases site with
    | none => simp only [hk]
    | some s => exact absurd (hv s true rfl).1 (by simp)
  case build t ps =>
    simp only [parts_eq (ps := ps.toList) (fun t ht => ha t (by simpa using ht)), hk]
  case buildSlice t n ps =>
    simp only [parts_eq (ps := ps.toList) (fun t ht => ha t (by simpa using ht)), hk]
  case load t y =>
    cases y with
    | tmp q =>
      simp only [ha q (by simp)]
      cases hq : st.get q with
      | val v => simp only [hk]
      | no => rfl
      | lp s off =>
        simp only [hq] at hv
        simp only [(hv s false rfl).2, hk]
    | _ => simp only [St.eval, hk]
  case store t y z =>
    rw [eval_eq (y := z) (fun t e => ha t (by simp [e]))]
    cases y with
    | tmp q =>
      simp only [ha q (by simp)]
      cases hq : st.get q with
      | val v => simp only [hk]
      | no => rfl
      | lp s off =>
        simp only [hq] at hv
        exact absurd (hv s true rfl).1 (by simp)
    | _ => rfl
  case nilCheck y =>
    cases y with
    | tmp q => simp only [ha q (by simp), hk]
    | _ => rfl
  case binOp op t y z s =>
    rw [eval_eq (y := y) (fun t e => ha t (by simp [e])), eval_eq (y := z) (fun t e => ha t (by simp [e]))]
    simp only [hk]
  case unOp op t y =>
    rw [eval_eq (y := y) (fun t e => ha t (by simp [e]))]
    simp only [hk]
  case convert s d y =>
    rw [eval_eq (y := y) (fun t e => ha t (by simp [e]))]
    simp only [hk]
  case makeInterface t y =>
    rw [eval_eq (y := y) (fun t e => ha t (by simp [e]))]
    simp only [hk]
  case makeFunc f ys zs =>
    rw [evals_eq (ys := ys.toList) (fun t ht => ha t (by simp at ht ⊢; exact .inl ht)), evals_eq (ys := zs.toList) (fun t ht => ha t (by simp at ht ⊢; exact .inr ht))]
    simp only [hk]
  case makeSlice t y z =>
    rw [eval_eq (y := y) (fun t e => ha t (by simp [e])), eval_eq (y := z) (fun t e => ha t (by simp [e]))]
    simp only [hk]
  case slice t y lo hi mx =>
    rw [eval_eq (y := y) (fun t e => ha t (by simp [e])), evals_eq (ys := lo.toList) (fun t ht => ha t (by simp at ht ⊢; simp [ht])), evals_eq (ys := hi.toList) (fun t ht => ha t (by simp at ht ⊢; simp [ht])),
      evals_eq (ys := mx.toList) (fun t ht => ha t (by simp at ht ⊢; simp [ht]))]
    simp only [hk]
  case fieldAddr s y i =>
    cases y with
    | tmp q => simp only [ha q (by simp), hk]
    | _ => simp only [St.eval, hk]
  case field t y i =>
    rw [eval_eq (y := y) (fun t e => ha t (by simp [e]))]
    simp only [hk]
  case indexAddr t y z =>
    rw [eval_eq (y := z) (fun t e => ha t (by simp [e])), eval_eq (y := y) (fun t e => ha t (by simp [e]))]
    cases st.eval E z with
    | none => rfl
    | some i =>
      dsimp only
      cases E.P.underlying t with
      | none => rfl
      | some d =>
        cases d <;> dsimp only
        case slice e => simp only [hk]
        case array n e =>
          cases E.size e with
          | none => rfl
          | some sz =>
            cases y with
            | tmp q => dsimp only; rw [ha q (by simp)]; simp only [hk]
            | _ => simp only [St.eval, hk]
  case index t y z =>
    rw [eval_eq (y := y) (fun t e => ha t (by simp [e])), eval_eq (y := z) (fun t e => ha t (by simp [e]))]
    simp only [hk]
  case range t y =>
    rw [eval_eq (y := y) (fun t e => ha t (by simp [e]))]
    simp only [hk]
  case next y b =>
    cases b
    · rfl
    · dsimp only
      rw [eval_eq (y := y) (fun t e => ha t (by simp [e]))]
      simp only [hk]
  case typeAssert y xt t ok =>
    rw [eval_eq (y := y) (fun t e => ha t (by simp [e]))]
    simp only [hk]
  case extract y i =>
    rw [eval_eq (y := y) (fun t e => ha t (by simp [e]))]
    simp only [hk]
  case call c =>
    unfold Call.operands at ha
    rw [evals_eq (ys := c.args.toList) (fun t ht => ha t (by
      cases hc : c.callee <;> simp only [hc] <;> simp at ht ⊢ <;> simp [ht]))]
    cases evals E st c.args.toList with
    | none => rfl
    | some args =>
    dsimp only
    cases hc : c.callee with
    | value f =>
      simp only [hc] at ha
      dsimp only
      rw [eval_eq (y := f) (fun t e => ha t (by simp [e]))]
      simp only [hk]
    | builtin b => simp only [hk]
    | invoke r m =>
      simp only [hc] at ha
      dsimp only
      rw [eval_eq (y := r) (fun t e => ha t (by simp [e]))]
      simp only [hk]

theorem var_setVar {s : Nat} {cs : List AV} : (st.setVar s cs).var s = bif st.L.has s then some cs else none := Tr.get_set_has

theorem lay_some {s : Nat} {cs : List AV} {H : Heap} (h : layK s cs st H (fun x s G => some (x, s, G)) = some (x, st', H')) :
    st' = st.setVar s cs ∧ H' = H ∧ ∀ (st2 : St) (G : Heap), st2.var s = st.var s → st2.L.has s = st.L.has s → layK s cs st2 G (fun x s G => some (x, s, G)) = some (x, st2.setVar s cs, G) := by
  unfold layK at h
  split at h
  · rename_i hn
    split at h
    · rename_i ds hds
      simp only [Option.some.injEq, Prod.mk.injEq] at h
      obtain ⟨rfl, rfl, rfl⟩ := h
      refine ⟨rfl, rfl, fun st2 G h1 h2 => ?_⟩
      unfold layK
      have : (st2.setVar s cs).var s = some ds := by rw [var_setVar, h2, ← var_setVar]; exact hds
      rw [h1, hn, this]
    · cases h
  · cases h

/-- A variable of the frame's own is laid or written. -/
theorem write_ok {H : Heap} {s : Nat} (ht : touchOf st site o = some (s, true)) (h : opK E cf site o st H (fun x s G => some (x, s, G)) = some (x, st', H')) :
    ∃ cs, st' = st.setVar s cs ∧ H' = H ∧ ∀ (st2 : St) (G : Heap), (∀ t, Operand.tmp t ∈ o.op.operands.toList → st2.get t = st.get t) → st2.var s = st.var s → st2.L.has s = st.L.has s →
      opK E cf site o st2 G (fun x s G => some (x, s, G)) = some (x, st2.setVar s cs, G) := by
  unfold opK at h
  unfold touchOf at ht
  cases ho : o.op <;> simp only [ho, Op.operands] at ht h ⊢
  case alloc t =>
    cases site with
    | none => cases ht
    | some s1 =>
      simp only [Option.map_some, Option.some.injEq, Prod.mk.injEq, and_true] at ht
      subst ht
      split at h
      · rename_i z sz hz hsz
        obtain ⟨g1, g2, g3⟩ := lay_some (bif_some h)
        refine ⟨_, g1, g2, fun st2 G _ h1 h2 => ?_⟩
        unfold opK
        simp only [ho, hz, hsz]
        rw [g3 st2 G h1 h2]
        cases hb : (z.cells.length == sz && decide (0 < sz))
        · simp only [hb, cond_false] at h
          cases h
        · rfl
      · cases h
  case box t y =>
    cases site with
    | none => cases ht
    | some s1 =>
      simp only [Option.map_some, Option.some.injEq, Prod.mk.injEq, and_true] at ht
      subst ht
      split at h
      · rename_i z sz hz hsz
        obtain ⟨g1, g2, g3⟩ := lay_some (bif_some h)
        refine ⟨_, g1, g2, fun st2 G ha h1 h2 => ?_⟩
        unfold opK
        simp only [ho, hsz]
        rw [eval_eq (y := y) (st := st) (fun t e => ha t (by simp [e])), hz]
        dsimp only
        rw [g3 st2 G h1 h2]
        cases hb : (z.cells.length == sz && z.isDef && decide (0 < sz))
        · simp only [hb, cond_false] at h
          cases h
        · rfl
      · cases h
  case store t y z =>
    cases y with
    | tmp q =>
      dsimp only at ht h
      split at h
      · rename_i v sz hv hsz
        cases hq : st.get q with
        | val w => simp [hq] at ht
        | no => simp [hq] at ht
        | lp s1 off =>
          simp only [hq, Option.some.injEq, Prod.mk.injEq, and_true] at ht h
          subst ht
          split at h
          · rename_i cs hcs
            have hb : (A.fits sz v && decide (off + v.cells.length ≤ cs.length)) = true := by
              cases hb : (A.fits sz v && decide (off + v.cells.length ≤ cs.length))
              · rw [hb] at h; cases h
              · rfl
            rw [hb] at h
            simp only [cond_true, Option.some.injEq, Prod.mk.injEq] at h
            obtain ⟨rfl, rfl, rfl⟩ := h
            refine ⟨_, rfl, rfl, fun st2 G ha h1 h2 => ?_⟩
            unfold opK
            simp only [ho, hsz]
            rw [eval_eq (y := z) (st := st) (fun t e => ha t (by simp [e])), hv]
            simp only [ha q (by simp), hq, h1, hcs, hb, cond_true]
          · cases h
      · cases h
    | _ => cases ht
  case load t y =>
    cases y with
    | tmp q =>
      dsimp only at ht
      cases hq : st.get q <;> simp [hq] at ht
    | _ => cases ht
  all_goals cases ht

/-- Nothing but the small heap's reading. -/
def quietK (E : Env) (site : Option Nat) (o : Oper) (st : St) (H : Heap) : Option SV := opK E noCalls site o st H fun x _ _ => some x

theorem quietV {R : Type} {v : Option AV} {f : AV → SV} {k : SV → Option R} : withV v (fun v => k (f v)) = (withV v fun v => some (f v)).bind k := by
  cases v <;> rfl

theorem callQ_quiet {f : FuncId} {args : List AV} {H : Heap} {k : AV → Heap → Option R} : callQ E f args H k = (callQ E f args H fun w _ => some w).bind fun w => k w H := by
  unfold callQ
  split
  · cases args.all AV.imm
    · rfl
    · simp only [cond_true]
      split <;> rfl
  · rfl

/-- An operation that is not loud and writes nothing only reads. -/
theorem quiet_ok {H : Heap} {k : SV → St → Heap → Option R} (hl : isLoud E site o = false) (ht : ∀ s, touchOf st site o ≠ some (s, true)) : opK E cf site o st H k = (quietK E site o st H).bind fun x => k x st H := by
  unfold quietK opK
  unfold isLoud at hl
  unfold touchOf at ht
  cases ho : o.op <;> simp only [ho] at hl ht ⊢
  case alloc t =>
    cases site with
    | none => cases hl
    | some s => exact absurd rfl (ht s)
  case box t y =>
    cases site with
    | none => cases hl
    | some s => exact absurd rfl (ht s)
  case call c =>
    cases hc : c.callee with
    | value f =>
      rw [hc] at hl
      cases site with
      | none => cases hl
      | some s =>
        cases evals E st c.args.toList with
        | none => rfl
        | some args =>
          cases f with
          | func g =>
            dsimp only
            rw [callQ_quiet, callQ_quiet (k := fun w _ => some (SV.val w))]
            cases callQ E g args H fun w _ => some w <;> rfl
          | _ => rfl
    | invoke r m => rw [hc] at hl; cases hl
    | builtin b =>
      rw [hc] at hl
      cases evals E st c.args.toList with
      | none => rfl
      | some args =>
        dsimp only
        unfold builtinK
        split
        · split
          · exact withV_to fun v => rfl
          · exact withV_to fun v => rfl
          · rfl
        · exact withV_to fun v => rfl
        · exact withV_to fun v => rfl
        · cases hl
        · cases hl
        · cases hl
        · cases hl
        · cases hl
        · cases hl
        · rfl
  case convert s d y =>
    cases st.eval E y with
    | none => rfl
    | some v =>
      have e : ∀ K : Heap, convN E s d v K = none := fun K => by
        unfold convN
        split at hl <;> first | (cases hl; done) | simp only [*]
      dsimp only
      unfold convertK
      split
      · rfl
      · split
        · rfl
        · simp only [e]
          rfl
  case store => cases hl
  case buildSlice => cases hl
  case makeSlice => cases hl
  case range => cases hl
  case next => cases hl
  case mapUpdate => cases hl
  case insert => cases hl
  case makeMap => cases hl
  case typeAssert y xt t ok =>
    split
    · split
      · rfl
      · cases ok
        · simp only [cond_false]
          split <;> rfl
        · simp only [cond_true]
          split
          · rfl
          · split <;> rfl
    · rfl
  all_goals repeat' (first | split | (with_reducible exact (Option.bind_none _).symm) | (with_reducible apply bif_to) | (with_reducible exact withV_to fun v => rfl) | rfl)

section still
variable {v w : AV} {H G : Heap}
theorem load_still {ag : Bool} {sz : Nat} (h : v.heapy = false) : A.load ag sz v H = A.load ag sz v G := by cases v <;> first | rfl | cases h
theorem nilCheck_still (h : v.heapy = false) : A.nilCheck v H = A.nilCheck v G := by
  cases v
  case fn f a b => cases f <;> rfl
  all_goals first | rfl | cases h
theorem fa_still {off : Nat} (h : v.heapy = false) : A.fa off v H = A.fa off v G := by cases v <;> first | rfl | cases h
theorem idx_still {sz : Nat} (h : v.heapy = false) : A.idx sz v w H = A.idx sz v w G := by
  cases v
  case sh z es => cases w <;> rfl
  all_goals first | rfl | cases h
theorem idxArr_still {sz n : Nat} (h : v.heapy = false) : A.idxArr sz n v w H = A.idxArr sz n v w G := by
  unfold A.idxArr
  cases w <;> dsimp only
  rw [fa_still h]
theorem slice_still {sz : Nat} {lo hi mx : Option AV} (h : v.heapy = false) : A.slice sz v lo hi mx H = A.slice sz v lo hi mx G := by cases v <;> first | rfl | cases h
theorem len_still (h : v.heapy = false) : A.len v H = A.len v G := by cases v <;> first | rfl | cases h
theorem eqNilH_still {d : Option TypeDesc} (h : v.heapy = false) : A.eqNilH d v w H = A.eqNilH d v w G := by
  unfold A.eqNilH
  split
  all_goals try (cases v <;> first | rfl | cases h)
theorem eqPtr_still {P : Program} {d : Option TypeDesc} (h : v.heapy = false) : A.eqPtr P d v w H = A.eqPtr P d v w G := by
  unfold A.eqPtr
  split
  all_goals try (cases v <;> first | rfl | cases h)
theorem bin_still {P : Program} {op : BinOp} {t : TypeId} {yc : Bool} (h : v.heapy = false) : A.bin P op t v w yc H = A.bin P op t v w yc G := by
  unfold A.bin
  split
  · rfl
  · rfl
  · rfl
  · rfl
  · rw [eqNilH_still (G := G) h, eqPtr_still (G := G) h]
end still

theorem mapM_mem {α β : Type} {f : α → Option β} : ∀ {l : List α} {m : List β}, l.mapM f = some m → ∀ {y : β}, y ∈ m → ∃ x ∈ l, f x = some y
  | [], m, h, y, hy => by
    simp only [List.mapM_nil, Option.pure_def, Option.some.injEq] at h
    subst h
    cases hy
  | x :: l, m, h, y, hy => by
    rw [List.mapM_cons] at h
    simp only [Option.pure_def, Option.bind_eq_bind, Option.bind_eq_some_iff, Option.some.injEq] at h
    obtain ⟨z, h1, r, h2, rfl⟩ := h
    rcases List.mem_cons.1 hy with rfl | hy
    · exact ⟨x, List.mem_cons_self, h1⟩
    · obtain ⟨w, g1, g2⟩ := mapM_mem h2 hy
      exact ⟨w, List.mem_cons_of_mem _ g1, g2⟩
theorem ofConst_leaf {n : Nat} {u : Value} {v : AV} (h : ofConst n u = some v) (ho : v.one = true) : v.leaf = true := by
  cases n with
  | zero => cases h
  | succ n =>
    unfold ofConst at h
    split at h
    all_goals first
      | (simp only [Option.some.injEq] at h; subst h; rfl)
      | skip
    · split at h
      · rename_i vs _
        cases hb : vs.all AV.one
        · rw [hb] at h; cases h
        · rw [hb] at h
          simp only [cond_true, Option.some.injEq] at h
          subst h
          cases ho
      · cases h
    · cases h
theorem ofConst_heapy {n : Nat} {u : Value} {v : AV} (h : ofConst n u = some v) : v.heapy = false := by
  cases n with
  | zero => cases h
  | succ n =>
    unfold ofConst at h
    split at h
    all_goals first
      | (simp only [Option.some.injEq] at h; subst h; rfl)
      | skip
    · split at h
      · rename_i vs hm
        cases hb : vs.all AV.one
        · rw [hb] at h; cases h
        · rw [hb] at h
          simp only [cond_true, Option.some.injEq] at h
          subst h
          have : vs.all AV.leaf = true := List.all_eq_true.2 fun y hy => by
            obtain ⟨x, _, hx⟩ := mapM_mem hm hy
            exact ofConst_leaf hx (List.all_eq_true.1 hb y hy)
          show (!(vs.all AV.leaf)) = false
          rw [this]
          rfl
      · cases h
    · cases h

theorem evals_mem : ∀ {ys : List Operand} {vs : List AV}, evals E st ys = some vs → ∀ {v : AV}, v ∈ vs → ∃ y ∈ ys, st.eval E y = some v
  | [], vs, h, v, hv => by
    simp only [evals, Option.some.injEq] at h
    subst h
    cases hv
  | y :: ys, vs, h, v, hv => by
    unfold evals at h
    split at h
    · rename_i w hw
      split at h
      · rename_i ws hws
        simp only [Option.some.injEq] at h
        subst h
        rcases List.mem_cons.1 hv with rfl | hv
        · exact ⟨y, List.mem_cons_self, hw⟩
        · obtain ⟨y', h1, h2⟩ := evals_mem hws hv
          exact ⟨y', List.mem_cons_of_mem _ h1, h2⟩
      · cases h
    · cases h

theorem eval_heapy (hh : heapy st o = false) {y : Operand} (hy : y ∈ o.op.operands.toList) {v : AV} (h : st.eval E y = some v) : v.heapy = false := by
  cases y with
  | tmp t =>
    unfold heapy at hh
    have := List.any_eq_false.1 hh _ hy
    dsimp only at this
    unfold St.eval at h
    dsimp only at h
    split at h
    · rename_i w hw
      rw [hw] at this
      simp only [Option.some.injEq] at h
      subst h
      simpa using this
    · cases h
  | const u => exact ofConst_heapy h
  | func f => simp only [St.eval, Option.some.injEq] at h; subst h; rfl
  | global g =>
    simp only [St.eval, Option.map_eq_some_iff] at h
    obtain ⟨cs, _, rfl⟩ := h
    rfl

/-- What reads the small heap lays nothing. -/
theorem site_reads {H : Heap} {k : SV → St → Heap → Option R} (hr : reads o = true) : opK E cf site o st H k = opK E cf none o st H k := by
  unfold reads at hr
  unfold opK
  cases ho : o.op <;> simp only [ho] at hr ⊢
  all_goals first | (cases hr; done) | skip
  case call c =>
    cases hc : c.callee with
    | builtin b => rfl
    | value f => rw [hc] at hr; cases hr
    | invoke r m => rfl

theorem quiet_still {H G : Heap} (hl : isLoud E site o = false) (ht : ∀ s, touchOf st site o ≠ some (s, true)) (hh : reads o = false ∨ heapy st o = false) : quietK E site o st G = quietK E site o st H := by
  have hev : ∀ {y : Operand}, y ∈ o.op.operands.toList → reads o = true → ∀ {v : AV}, st.eval E y = some v → v.heapy = false := fun hy hr v hv => by
    rcases hh with hh | hh
    · rw [hr] at hh; cases hh
    · exact eval_heapy hh hy hv
  unfold quietK opK
  unfold isLoud at hl
  unfold touchOf at ht
  unfold reads at hev
  cases ho : o.op <;> simp only [ho, Op.operands] at hl ht hev ⊢
  case alloc t =>
    cases site with
    | none => cases hl
    | some s => exact absurd rfl (ht s)
  case box t y =>
    cases site with
    | none => cases hl
    | some s => exact absurd rfl (ht s)
  case store => cases hl
  case buildSlice => cases hl
  case makeSlice => cases hl
  case range => cases hl
  case next => cases hl
  case load t y =>
    cases y with
    | tmp q =>
      dsimp only
      cases hq : st.get q with
      | val v => 
        have := hev (y := .tmp q) (by simp) trivial (v := v) (by simp [St.eval, hq])
        simp only [load_still (G := H) (H := G) this]
      | no => rfl
      | lp s off => rfl
    | _ =>
      dsimp only
      split
      · split
        · rename_i v hv
          rw [load_still (G := H) (hev (by simp) trivial hv)]
        · rfl
      · rfl
  case nilCheck y =>
    cases y with
    | tmp q =>
      dsimp only
      cases hq : st.get q with
      | val v => 
        have := hev (y := .tmp q) (by simp) trivial (v := v) (by simp [St.eval, hq])
        simp only [nilCheck_still (G := H) (H := G) this]
      | no => rfl
      | lp s off => rfl
    | _ => rfl
  case binOp op t y z s =>
    split
    · rename_i v w hv hw
      rw [bin_still (G := H) (hev (by simp) trivial hv)]
    · rfl
  case fieldAddr s y i =>
    split
    · cases y with
      | tmp q =>
        dsimp only
        cases hq : st.get q with
        | val v => 
          have := hev (y := .tmp q) (by simp) trivial (v := v) (by simp [St.eval, hq])
          simp only [fa_still (G := H) (H := G) this]
        | no => rfl
        | lp s off => rfl
      | _ =>
        dsimp only
        split
        · rename_i v hv
          rw [fa_still (G := H) (hev (by simp) trivial hv)]
        · rfl
    · rfl
  case indexAddr t y z =>
    split
    · split
      · split
        · rename_i v hsz hv
          rw [idx_still (G := H) (hev (by simp) trivial hv)]
        · rfl
      · split
        · rename_i q hsz
          cases hq : st.get q with
          | val v => 
            have := hev (y := .tmp q) (by simp) trivial (v := v) (by simp [St.eval, hq])
            simp only [idxArr_still (G := H) (H := G) this]
          | no => rfl
          | lp s off => rfl
        · split
          · rename_i v hv
            rw [idxArr_still (G := H) (hev (by simp) trivial hv)]
          · rfl
        · rfl
      · rfl
    · rfl
  case slice t y lo hi mx =>
    split
    · rename_i v l h m hv _ _ _
      split
      · rfl
      · split
        · rw [slice_still (G := H) (hev (by simp) trivial hv)]
        · rfl
      · rfl
    · rfl
  case call c =>
    cases hc : c.callee with
    | value f =>
      rw [hc] at hl
      cases site with
      | none => cases hl
      | some s =>
        cases evals E st c.args.toList with
        | none => rfl
        | some args =>
          cases f with
          | func g =>
            simp only [callQ]
          | _ => rfl
    | invoke r m => rw [hc] at hl; cases hl
    | builtin b =>
      rw [hc] at hl
      cases hargs : evals E st c.args.toList with
      | none => rfl
      | some args =>
        dsimp only
        unfold builtinK
        split
        · rename_i x hts
          split
          · rfl
          · obtain ⟨y, hy, hyv⟩ := evals_mem hargs (v := x) (by simp)
            rw [len_still (G := H) (hev (y := y) (by unfold Call.operands; simp only [Array.toList_append]; exact List.mem_append_right _ hy) (by rw [hc]) hyv)]
          · rfl
        · rfl
        · rfl
        · cases hl
        · cases hl
        · cases hl
        · cases hl
        · cases hl
        · cases hl
        · rfl
  case convert s d y =>
    cases st.eval E y with
    | none => rfl
    | some v =>
      have e : ∀ K : Heap, convH E s d v K = none := fun K => by
        unfold convH
        split at hl <;> first | (cases hl; done) | simp only [*]
      have e2 : ∀ K : Heap, convN E s d v K = none := fun K => by
        unfold convN
        split at hl <;> first | (cases hl; done) | simp only [*]
      dsimp only
      unfold convertK
      simp only [e, e2]
  all_goals rfl

end
end Go.Den
