/- Texts put together: DenV, DenW, DenY, DenZ, DenZa, DenZb, DenZc, DenZo, DenZd, DenZp, DenZe, DenZf, DenZl, DenPu, DenZg, DenZh, DenZi, DenZk. -/
import Derived.Test.YtikkpecdkdgmfaaDoorMc
import Derived.Orders
import Derived.Lib.BytesEntry
import Derived.Laws.Externs
import Derived.ProofKit
import Derived.OpenShut
import Derived.ChangeArms
import Derived.ChangeOld
import Derived.WalkKit
import Derived.Lay
import Derived.Handed
import Derived.Stop.Joined

/- DEN, part V: what an operation's result hangs on. -/
namespace Go.Den
open Go.RowKit
/-! ### slots that there are -/
namespace Tr
variable {α β : Type} {z : α}
def has : Tr α → Nat → Bool
  | .lf, _ => false
  | .nd l _ r, n => bif Nat.beq n 0 then true else bif Nat.beq (n % 2) 1 then has l (n / 2) else has r (n / 2 - 1)
theorem has_set : ∀ {t : Tr α} {i j : Nat} {x : α}, has (set t i x) j = has t j
  | .lf, _, _, _ => rfl
  | .nd l v r, i, j, x => by
    unfold set
    cases hi : Nat.beq i 0
    · simp only [cond_false]
      cases hm : Nat.beq (i % 2) 1
      · simp only [cond_false, has, has_set]
      · simp only [cond_true, has, has_set]
    · simp only [cond_true, has]
theorem get_set_has : ∀ {t : Tr α} {i : Nat} {x : α}, get z (set t i x) i = bif has t i then x else z
  | .lf, _, _ => rfl
  | .nd l v r, i, x => by
    unfold set
    cases hi : Nat.beq i 0
    · simp only [cond_false]
      cases hm : Nat.beq (i % 2) 1
      · simp only [cond_false, get, has, hi, hm]
        exact get_set_has
      · simp only [cond_true, get, has, hi, hm, cond_false]
        exact get_set_has
    · simp only [cond_true, get, has, hi]
end Tr
section
variable {E : Env} {cf : CallFn} {st st2 : St} {o : Oper} {site : Option Nat} {R : Type} {x : SV} {st' : St} {H' : Heap}
theorem q0i {y : Operand} (h : ∀ t, y = .tmp t → st2.get t = st.get t) : st2.eval E y = st.eval E y := by
  cases y with
  | tmp t => simp only [St.eval, h t rfl]
  | _ => rfl
theorem q3s : ∀ {ys : List Operand}, (∀ t, Operand.tmp t ∈ ys → st2.get t = st.get t) → evals E st2 ys = evals E st ys
  | [], _ => rfl
  | y :: ys, h => by
    unfold evals
    rw [q0i (fun t e => h t (by rw [← e]; exact List.mem_cons_self)), q3s (fun t ht => h t (List.mem_cons_of_mem _ ht))]
theorem qc8 {pl : Nat → Option (Nat × Nat)} : ∀ {ps : List (Nat × Operand)}, (∀ t, Operand.tmp t ∈ ps.map (·.2) → st2.get t = st.get t) → parts E st2 pl ps = parts E st pl ps
  | [], _ => rfl
  | (i, y) :: ps, h => by
    unfold parts
    rw [q0i (fun t e => h t (by rw [← e]; exact List.mem_cons_self)), qc8 (fun t ht => h t (List.mem_cons_of_mem _ ht))]
theorem opK_eq {H : Heap} {k k2 : SV → St → Heap → Option R} (ha : ∀ t, Operand.tmp t ∈ o.op.operands.toList → st2.get t = st.get t) (hv : ∀ s w, q0j st site o = some (s, w) → w = false ∧ st2.var s = st.var s)
    (hk : ∀ x G, k2 x st2 G = k x st G) : opK E cf site o st2 H k2 = opK E cf site o st H k := by
  unfold opK
  unfold q0j at hv
  cases ho : o.op <;> simp only [ho, Op.operands] at ha hv ⊢
  case move y => cases y <;> simp_all [St.eval]
  case assign y => cases y <;> simp_all [St.eval]
  case pick c a b =>
    rw [q0i (y := c) (fun t e => ha t (by simp [e])), q0i (y := a) (fun t e => ha t (by simp [e])), q0i (y := b) (fun t e => ha t (by simp [e]))]
    simp only [hk]
  case alloc t =>
    cases site with
    | none => simp only [hk]
    | some s => exact absurd (hv s true rfl).1 (by simp)
  case box t y =>
    rw [q0i (y := y) (fun t e => ha t (by simp [e]))]
    cases site with
    | none => simp only [hk]
    | some s =>
      cases hs : Nat.ble 1000 s
      · exact absurd (hv s true (by simp only [hs, cond_false])).1 (by simp)
      · simp only [hs, cond_true, hk]
  case build t ps =>
    simp only [qc8 (ps := ps.toList) (fun t ht => ha t (by simpa using ht)), hk]
  case buildSlice t n ps =>
    simp only [qc8 (ps := ps.toList) (fun t ht => ha t (by simpa using ht)), hk]
  case load t y =>
    cases y with
    | tmp q =>
      simp only [ha q (by simp)]
      cases hq : st.get q with
      | val v => simp only [hk]
      | no => rfl
      | lp s off =>
        simp only [hq] at hv
        simp only [(hv s false rfl).2, hk]
    | _ => simp only [St.eval, hk]
  case store t y z =>
    rw [q0i (y := z) (fun t e => ha t (by simp [e]))]
    cases y with
    | tmp q =>
      simp only [ha q (by simp)]
      cases hq : st.get q with
      | val v => simp only [hk]
      | no => rfl
      | lp s off =>
        simp only [hq] at hv
        exact absurd (hv s true rfl).1 (by simp)
    | _ => rfl
  case nilCheck y =>
    cases y with
    | tmp q => simp only [ha q (by simp), hk]
    | _ => rfl
  case binOp op t y z s =>
    rw [q0i (y := y) (fun t e => ha t (by simp [e])), q0i (y := z) (fun t e => ha t (by simp [e]))]
    simp only [hk]
  case unOp op t y =>
    rw [q0i (y := y) (fun t e => ha t (by simp [e]))]
    simp only [hk]
  case lookup t y z ok =>
    rw [q0i (y := y) (fun t e => ha t (by simp [e])), q0i (y := z) (fun t e => ha t (by simp [e]))]
    simp only [hk]
  case mapUpdate t m y z =>
    rw [q0i (y := m) (fun t e => ha t (by simp [e])), q0i (y := y) (fun t e => ha t (by simp [e])), q0i (y := z) (fun t e => ha t (by simp [e]))]
    simp only [hk]
  case insert t m y z =>
    rw [q0i (y := m) (fun t e => ha t (by simp [e])), q0i (y := y) (fun t e => ha t (by simp [e])), q0i (y := z) (fun t e => ha t (by simp [e]))]
    simp only [hk]
  case mapEntry t m y =>
    rw [q0i (y := m) (fun t e => ha t (by simp [e])), q0i (y := y) (fun t e => ha t (by simp [e]))]
    simp only [hk]
  case entryStore t m y z =>
    rw [q0i (y := m) (fun t e => ha t (by simp [e])), q0i (y := y) (fun t e => ha t (by simp [e])), q0i (y := z) (fun t e => ha t (by simp [e]))]
    simp only [hk]
  case makeMap t r =>
    cases r with
    | none => simp only [hk]
    | some y =>
      dsimp only
      rw [q0i (y := y) (fun t e => ha t (by simp [e]))]
      simp only [hk]
  case convert s d y =>
    rw [q0i (y := y) (fun t e => ha t (by simp [e]))]
    simp only [hk]
  case makeInterface t y =>
    rw [q0i (y := y) (fun t e => ha t (by simp [e]))]
    simp only [hk]
  case makeFunc f ys zs =>
    rw [q3s (ys := ys.toList) (fun t ht => ha t (by simp at ht ⊢; exact .inl ht)), q3s (ys := zs.toList) (fun t ht => ha t (by simp at ht ⊢; exact .inr ht))]
    simp only [hk]
  case makeSlice t y z =>
    rw [q0i (y := y) (fun t e => ha t (by simp [e])), q0i (y := z) (fun t e => ha t (by simp [e]))]
    simp only [hk]
  case slice t y lo hi mx =>
    rw [q0i (y := y) (fun t e => ha t (by simp [e])), q3s (ys := lo.toList) (fun t ht => ha t (by simp at ht ⊢; simp [ht])), q3s (ys := hi.toList) (fun t ht => ha t (by simp at ht ⊢; simp [ht])),
      q3s (ys := mx.toList) (fun t ht => ha t (by simp at ht ⊢; simp [ht]))]
    simp only [hk]
  case fieldAddr s y i =>
    cases y with
    | tmp q => simp only [ha q (by simp), hk]
    | _ => simp only [St.eval, hk]
  case field t y i =>
    rw [q0i (y := y) (fun t e => ha t (by simp [e]))]
    simp only [hk]
  case indexAddr t y z =>
    rw [q0i (y := z) (fun t e => ha t (by simp [e])), q0i (y := y) (fun t e => ha t (by simp [e]))]
    cases st.eval E z with
    | none => rfl
    | some i =>
      dsimp only
      cases E.P.underlying t with
      | none => rfl
      | some d =>
        cases d <;> dsimp only
        case slice e => simp only [hk]
        case array n e =>
          cases E.size e with
          | none => rfl
          | some sz =>
            cases y with
            | tmp q => dsimp only; rw [ha q (by simp)]; simp only [hk]
            | _ => simp only [St.eval, hk]
  case index t y z =>
    rw [q0i (y := y) (fun t e => ha t (by simp [e])), q0i (y := z) (fun t e => ha t (by simp [e]))]
    simp only [hk]
  case range t y =>
    rw [q0i (y := y) (fun t e => ha t (by simp [e]))]
    simp only [hk]
  case next y b =>
    cases b
    · rfl
    · dsimp only
      rw [q0i (y := y) (fun t e => ha t (by simp [e]))]
      simp only [hk]
  case typeAssert y xt t ok =>
    rw [q0i (y := y) (fun t e => ha t (by simp [e]))]
    simp only [hk]
  case extract y i =>
    rw [q0i (y := y) (fun t e => ha t (by simp [e]))]
    simp only [hk]
  case call c =>
    unfold Call.operands at ha
    rw [q3s (ys := c.args.toList) (fun t ht => ha t (by
      cases hc : c.callee <;> simp only [hc] <;> simp at ht ⊢ <;> simp [ht]))]
    cases evals E st c.args.toList with
    | none => rfl
    | some args =>
    dsimp only
    cases hc : c.callee with
    | value f =>
      simp only [hc] at ha
      dsimp only
      rw [q0i (y := f) (fun t e => ha t (by simp [e]))]
      simp only [hk]
    | builtin b => simp only [hk]
    | invoke r m =>
      simp only [hc] at ha
      dsimp only
      rw [q0i (y := r) (fun t e => ha t (by simp [e]))]
      simp only [hk]
theorem q4w {s : Nat} {cs : List AV} : (st.setVar s cs).var s = bif st.L.has s then some cs else none := Tr.get_set_has
theorem qgd {s : Nat} {cs : List AV} {H : Heap} (h : layK s cs st H (fun x s G => some (x, s, G)) = some (x, st', H')) :
    st' = st.setVar s cs ∧ H' = H ∧ ∀ (st2 : St) (G : Heap), st2.var s = st.var s → st2.L.has s = st.L.has s → layK s cs st2 G (fun x s G => some (x, s, G)) = some (x, st2.setVar s cs, G) := by
  unfold layK at h
  split at h
  · rename_i hn
    split at h
    · rename_i ds hds
      simp only [Option.some.injEq, Prod.mk.injEq] at h
      obtain ⟨rfl, rfl, rfl⟩ := h
      refine ⟨rfl, rfl, fun st2 G h1 h2 => ?_⟩
      unfold layK
      have : (st2.setVar s cs).var s = some ds := by rw [q4w, h2, ← q4w]; exact hds
      rw [h1, hn, this]
    · cases h
  · cases h
theorem qcr {H : Heap} {s : Nat} (ht : q0j st site o = some (s, true)) (h : opK E cf site o st H (fun x s G => some (x, s, G)) = some (x, st', H')) :
    ∃ cs, st' = st.setVar s cs ∧ H' = H ∧ ∀ (st2 : St) (G : Heap), (∀ t, Operand.tmp t ∈ o.op.operands.toList → st2.get t = st.get t) → st2.var s = st.var s → st2.L.has s = st.L.has s →
      opK E cf site o st2 G (fun x s G => some (x, s, G)) = some (x, st2.setVar s cs, G) := by
  unfold opK at h
  unfold q0j at ht
  cases ho : o.op <;> simp only [ho, Op.operands] at ht h ⊢
  case alloc t =>
    cases site with
    | none => cases ht
    | some s1 =>
      simp only [Option.map_some, Option.some.injEq, Prod.mk.injEq, and_true] at ht
      subst ht
      split at h
      · rename_i z sz hz hsz
        obtain ⟨g1, g2, g3⟩ := qgd (q1d h)
        refine ⟨_, g1, g2, fun st2 G _ h1 h2 => ?_⟩
        unfold opK
        simp only [ho, hz, hsz]
        rw [g3 st2 G h1 h2]
        cases hb : (z.cells.length == sz && (decide (0 < sz) || Nat.beq sz 0))
        · simp only [hb, cond_false] at h
          cases h
        · rfl
      · cases h
  case box t y =>
    cases site with
    | none => cases ht
    | some s1 =>
      dsimp only at ht
      have hs : Nat.ble 1000 s1 = false := by
        cases hs : Nat.ble 1000 s1
        · rfl
        · rw [hs] at ht
          cases ht
      rw [hs] at ht
      simp only [cond_false, Option.some.injEq, Prod.mk.injEq, and_true] at ht
      subst ht
      split at h
      · rename_i z sz hz hsz
        simp only [hs, cond_false] at h
        obtain ⟨g1, g2, g3⟩ := qgd (q1d h)
        refine ⟨_, g1, g2, fun st2 G ha h1 h2 => ?_⟩
        unfold opK
        simp only [ho, hsz]
        rw [q0i (y := y) (st := st) (fun t e => ha t (by simp [e])), hz]
        dsimp only
        simp only [hs, cond_false]
        rw [g3 st2 G h1 h2]
        cases hb : (z.cells.length == sz && z.isDef && (decide (0 < sz) || Nat.beq sz 0))
        · simp only [hb, cond_false] at h
          cases h
        · rfl
      · cases h
  case store t y z =>
    cases y with
    | tmp q =>
      dsimp only at ht h
      split at h
      · rename_i v sz hv hsz
        cases hq : st.get q with
        | val w => simp [hq] at ht
        | no => simp [hq] at ht
        | lp s1 off =>
          simp only [hq, Option.some.injEq, Prod.mk.injEq, and_true] at ht h
          subst ht
          split at h
          · rename_i cs hcs
            have hb : (A.fits sz v && decide (off + v.cells.length ≤ cs.length)) = true := by
              cases hb : (A.fits sz v && decide (off + v.cells.length ≤ cs.length))
              · rw [hb] at h; cases h
              · rfl
            rw [hb] at h
            simp only [cond_true, Option.some.injEq, Prod.mk.injEq] at h
            obtain ⟨rfl, rfl, rfl⟩ := h
            refine ⟨_, rfl, rfl, fun st2 G ha h1 h2 => ?_⟩
            unfold opK
            simp only [ho, hsz]
            rw [q0i (y := z) (st := st) (fun t e => ha t (by simp [e])), hv]
            simp only [ha q (by simp), hq, h1, hcs, hb, cond_true]
          · cases h
      · cases h
    | _ => cases ht
  case load t y =>
    cases y with
    | tmp q =>
      dsimp only at ht
      cases hq : st.get q <;> simp [hq] at ht
    | _ => cases ht
  all_goals cases ht
def quietK (E : Env) (site : Option Nat) (o : Oper) (st : St) (H : Heap) : Option SV := opK E qc3 site o st H fun x _ _ => some x
theorem q88 {f : FuncId} {args : List AV} {H : Heap} {k : AV → Heap → Option R} : callQ E f args H k = (callQ E f args H fun w _ => some w).bind fun w => k w H := by
  unfold callQ
  split
  · cases args.all AV.imm
    · rfl
    · simp only [cond_true]
      split <;> rfl
  · rfl
theorem q7u {H : Heap} {k : SV → St → Heap → Option R} (hl : isLoud E site o = false) (ht : ∀ s, q0j st site o ≠ some (s, true)) : opK E cf site o st H k = (quietK E site o st H).bind fun x => k x st H := by
  unfold quietK opK
  unfold isLoud at hl
  unfold q0j at ht
  cases ho : o.op <;> simp only [ho] at hl ht ⊢
  case alloc t =>
    cases site with
    | none => cases hl
    | some s => exact absurd rfl (ht s)
  case box t y =>
    cases site with
    | none => cases hl
    | some s =>
      cases hs : Nat.ble 1000 s
      · exact absurd (by simp only [hs, cond_false]) (ht s)
      · simp only [hs, cond_true]
        split
        · with_reducible apply q1v
          · rfl
          · rfl
        · rfl
  case call c =>
    cases hc : c.callee with
    | value f =>
      rw [hc] at hl
      cases site with
      | none => cases hl
      | some s =>
        cases evals E st c.args.toList with
        | none => rfl
        | some args =>
          cases f with
          | func g =>
            dsimp only
            rw [q88, q88 (k := fun w _ => some (SV.val w))]
            cases callQ E g args H fun w _ => some w <;> rfl
          | _ => rfl
    | invoke r m => rw [hc] at hl; cases hl
    | builtin b =>
      rw [hc] at hl
      cases evals E st c.args.toList with
      | none => rfl
      | some args =>
        dsimp only
        unfold q17
        split
        · split
          · exact q2i fun v => rfl
          · exact q2i fun v => rfl
          · exact q2i fun v => rfl
          · rfl
        · exact q2i fun v => rfl
        · exact q2i fun v => rfl
        · cases hl
        · cases hl
        · cases hl
        · cases hl
        · cases hl
        · cases hl
        · rfl
  case convert s d y =>
    cases st.eval E y with
    | none => rfl
    | some v =>
      have e : ∀ K : Heap, convN E s d v K = none := fun K => by
        unfold convN
        split at hl <;> first | (cases hl; done) | simp only [*]
      dsimp only
      unfold q0u
      split
      · rfl
      · split
        · rfl
        · simp only [e]
          rfl
  case store => cases hl
  case buildSlice t n ps =>
    cases site with
    | none => cases hl
    | some s' => repeat' (first | (exact absurd ‹some s' = none› (by simp)) | split | (with_reducible exact (Option.bind_none _).symm) | (with_reducible apply q1v) | rfl)
  case makeSlice => cases hl
  case range => cases hl
  case next => cases hl
  case mapUpdate => cases hl
  case insert => cases hl
  case mapEntry => cases hl
  case entryStore => cases hl
  case makeMap => cases hl
  case typeAssert y xt t ok =>
    split
    · split
      · rfl
      · cases ok
        · simp only [cond_false]
          split <;> rfl
        · simp only [cond_true]
          split
          · rfl
          · split <;> rfl
    · rfl
  case slice t y lo hi mx =>
    split
    · split
      · split
        · exact q2i fun v => rfl
        · rfl
      · split
        · with_reducible apply q1v
          · exact q2i fun v => rfl
          · rfl
        · rfl
      · rename_i ht'
        rw [ht'] at hl
        cases hl
      · rfl
    · rfl
  all_goals repeat' (first | split | (with_reducible exact (Option.bind_none _).symm) | (with_reducible apply q1v) | (with_reducible exact q2i fun v => rfl) | rfl)
section still
variable {v w : AV} {H G : Heap}
theorem qan {ag : Bool} {sz : Nat} (h : v.heapy = false) : A.load ag sz v H = A.load ag sz v G := by cases v <;> first | rfl | cases h
theorem q9r (h : v.heapy = false) : A.nilCheck v H = A.nilCheck v G := by
  cases v
  case fn f a b => cases f <;> rfl
  all_goals first | rfl | cases h
theorem qi2 {P : Program} (h : v.heapy = false) : nilC P v H = nilC P v G := by
  unfold nilC
  rw [q9r (G := G) h]
theorem qbk {off : Nat} (h : v.heapy = false) : A.fa off v H = A.fa off v G := by cases v <;> first | rfl | cases h
theorem idx_still {sz : Nat} (h : v.heapy = false) : A.idx sz v w H = A.idx sz v w G := by
  cases v
  case sh z es => cases w <;> rfl
  all_goals first | rfl | cases h
theorem q7g {sz n : Nat} (h : v.heapy = false) : A.idxArr sz n v w H = A.idxArr sz n v w G := by
  unfold A.idxArr
  cases w <;> dsimp only
  rw [qbk h]
theorem qfv {sz : Nat} {lo hi mx : Option AV} (h : v.heapy = false) : A.slice sz v lo hi mx H = A.slice sz v lo hi mx G := by cases v <;> first | rfl | cases h
theorem len_still (h : v.heapy = false) : A.len v H = A.len v G := by cases v <;> first | rfl | cases h
theorem qdm (h : v.heapy = false) : A.lenMap v H = A.lenMap v G := by cases v <;> first | rfl | cases h
theorem qbi (h : v.heapy = false) : A.entries v H = A.entries v G := by cases v <;> first | rfl | cases h
theorem qdb {d : Option TypeDesc} (h : v.heapy = false) : A.eqNilH d v w H = A.eqNilH d v w G := by
  unfold A.eqNilH
  split
  all_goals try (cases v <;> first | rfl | cases h)
theorem qf1 {P : Program} {d : Option TypeDesc} (h : v.heapy = false) : A.eqPtr P d v w H = A.eqPtr P d v w G := by
  unfold A.eqPtr
  split
  all_goals try (cases v <;> first | rfl | cases h)
theorem qiu {P : Program} {op : BinOp} {t : TypeId} {yc : Bool} (h : v.heapy = false) : A.bin P op t v w yc H = A.bin P op t v w yc G := by
  unfold A.bin
  split
  · rfl
  · rfl
  · rfl
  · rfl
  · rw [qdb (G := G) h, qf1 (G := G) h]
end still
theorem qgm {α β : Type} {f : α → Option β} : ∀ {l : List α} {m : List β}, l.mapM f = some m → ∀ {y : β}, y ∈ m → ∃ x ∈ l, f x = some y
  | [], m, h, y, hy => by
    simp only [List.mapM_nil, Option.pure_def, Option.some.injEq] at h
    subst h
    cases hy
  | x :: l, m, h, y, hy => by
    rw [List.mapM_cons] at h
    simp only [Option.pure_def, Option.bind_eq_bind, Option.bind_eq_some_iff, Option.some.injEq] at h
    obtain ⟨z, h1, r, h2, rfl⟩ := h
    rcases List.mem_cons.1 hy with rfl | hy
    · exact ⟨x, List.mem_cons_self, h1⟩
    · obtain ⟨w, g1, g2⟩ := qgm h2 hy
      exact ⟨w, List.mem_cons_of_mem _ g1, g2⟩
theorem qdw {n : Nat} {u : Value} {v : AV} (h : q21 n u = some v) (ho : v.one = true) : v.leaf = true := by
  cases n with
  | zero => cases h
  | succ n =>
    unfold q21 at h
    split at h
    all_goals first
      | (simp only [Option.some.injEq] at h; subst h; rfl)
      | skip
    · split at h
      · rename_i vs _
        cases hb : vs.all AV.one
        · rw [hb] at h; cases h
        · rw [hb] at h
          simp only [cond_true, Option.some.injEq] at h
          subst h
          cases ho
      · cases h
    · cases h
theorem qc4 {n : Nat} {u : Value} {v : AV} (h : q21 n u = some v) : v.heapy = false := by
  cases n with
  | zero => cases h
  | succ n =>
    unfold q21 at h
    split at h
    all_goals first
      | (simp only [Option.some.injEq] at h; subst h; rfl)
      | skip
    · split at h
      · rename_i vs hm
        cases hb : vs.all AV.one
        · rw [hb] at h; cases h
        · rw [hb] at h
          simp only [cond_true, Option.some.injEq] at h
          subst h
          have : vs.all AV.leaf = true := List.all_eq_true.2 fun y hy => by
            obtain ⟨x, _, hx⟩ := qgm hm hy
            exact qdw hx (List.all_eq_true.1 hb y hy)
          show (!(vs.all AV.leaf)) = false
          rw [this]
          rfl
      · cases h
    · cases h
theorem q8e : ∀ {ys : List Operand} {vs : List AV}, evals E st ys = some vs → ∀ {v : AV}, v ∈ vs → ∃ y ∈ ys, st.eval E y = some v
  | [], vs, h, v, hv => by
    simp only [evals, Option.some.injEq] at h
    subst h
    cases hv
  | y :: ys, vs, h, v, hv => by
    unfold evals at h
    split at h
    · rename_i w hw
      split at h
      · rename_i ws hws
        simp only [Option.some.injEq] at h
        subst h
        rcases List.mem_cons.1 hv with rfl | hv
        · exact ⟨y, List.mem_cons_self, hw⟩
        · obtain ⟨y', h1, h2⟩ := q8e hws hv
          exact ⟨y', List.mem_cons_of_mem _ h1, h2⟩
      · cases h
    · cases h
theorem qhq (hh : heapy st o = false) {y : Operand} (hy : y ∈ o.op.operands.toList) {v : AV} (h : st.eval E y = some v) : v.heapy = false := by
  cases y with
  | tmp t =>
    unfold heapy at hh
    have := List.any_eq_false.1 hh _ hy
    dsimp only at this
    unfold St.eval at h
    dsimp only at h
    split at h
    · rename_i w hw
      rw [hw] at this
      simp only [Option.some.injEq] at h
      subst h
      simpa using this
    · cases h
  | const u => exact qc4 h
  | func f => simp only [St.eval, Option.some.injEq] at h; subst h; rfl
  | global g =>
    simp only [St.eval, Option.map_eq_some_iff] at h
    obtain ⟨cs, _, rfl⟩ := h
    rfl
theorem qig {H : Heap} {k : SV → St → Heap → Option R} (hr : reads o = true) : opK E cf site o st H k = opK E cf none o st H k := by
  unfold reads at hr
  unfold opK
  cases ho : o.op <;> simp only [ho] at hr ⊢
  all_goals first | (cases hr; done) | skip
  case call c =>
    cases hc : c.callee with
    | builtin b => rfl
    | value f => rw [hc] at hr; cases hr
    | invoke r m => rfl
theorem q91 {H G : Heap} (hl : isLoud E site o = false) (ht : ∀ s, q0j st site o ≠ some (s, true)) (hh : reads o = false ∨ heapy st o = false) : quietK E site o st G = quietK E site o st H := by
  have hev : ∀ {y : Operand}, y ∈ o.op.operands.toList → reads o = true → ∀ {v : AV}, st.eval E y = some v → v.heapy = false := fun hy hr v hv => by
    rcases hh with hh | hh
    · rw [hr] at hh; cases hh
    · exact qhq hh hy hv
  unfold quietK opK
  unfold isLoud at hl
  unfold q0j at ht
  unfold reads at hev
  cases ho : o.op <;> simp only [ho, Op.operands] at hl ht hev ⊢
  case alloc t =>
    cases site with
    | none => cases hl
    | some s => exact absurd rfl (ht s)
  case box t y =>
    cases site with
    | none => cases hl
    | some s =>
      cases hs : Nat.ble 1000 s
      · exact absurd (by simp only [hs, cond_false]) (ht s)
      · rfl
  case store => cases hl
  case buildSlice t n ps =>
    cases site with
    | none => cases hl
    | some s' => rfl
  case makeSlice => cases hl
  case range => cases hl
  case next => cases hl
  case mapUpdate => cases hl
  case insert => cases hl
  case mapEntry => cases hl
  case entryStore => cases hl
  case makeMap => cases hl
  case lookup t y z ok =>
    split
    · rename_i v w hv hw
      rw [qbi (G := H) (hev (by simp) trivial hv)]
    · rfl
  case load t y =>
    cases y with
    | tmp q =>
      dsimp only
      cases hq : st.get q with
      | val v => 
        have := hev (y := .tmp q) (by simp) trivial (v := v) (by simp [St.eval, hq])
        simp only [qan (G := H) (H := G) this]
      | no => rfl
      | lp s off => rfl
    | _ =>
      dsimp only
      split
      · split
        · rename_i v hv
          rw [qan (G := H) (hev (by simp) trivial hv)]
        · rfl
      · rfl
  case nilCheck y =>
    cases y with
    | tmp q =>
      dsimp only
      cases hq : st.get q with
      | val v => 
        have := hev (y := .tmp q) (by simp) trivial (v := v) (by simp [St.eval, hq])
        simp only [qi2 (G := H) (H := G) this]
      | no => rfl
      | lp s off => rfl
    | _ => rfl
  case binOp op t y z s =>
    split
    · rename_i v w hv hw
      rw [qiu (G := H) (hev (by simp) trivial hv)]
    · rfl
  case fieldAddr s y i =>
    split
    · cases y with
      | tmp q =>
        dsimp only
        cases hq : st.get q with
        | val v => 
          have := hev (y := .tmp q) (by simp) trivial (v := v) (by simp [St.eval, hq])
          simp only [qbk (G := H) (H := G) this]
        | no => rfl
        | lp s off => rfl
      | _ =>
        dsimp only
        split
        · rename_i v hv
          rw [qbk (G := H) (hev (by simp) trivial hv)]
        · rfl
    · rfl
  case indexAddr t y z =>
    split
    · split
      · split
        · rename_i v hsz hv
          rw [idx_still (G := H) (hev (by simp) trivial hv)]
        · rfl
      · split
        · rename_i q hsz
          cases hq : st.get q with
          | val v => 
            have := hev (y := .tmp q) (by simp) trivial (v := v) (by simp [St.eval, hq])
            simp only [q7g (G := H) (H := G) this]
          | no => rfl
          | lp s off => rfl
        · split
          · rename_i v hv
            rw [q7g (G := H) (hev (by simp) trivial hv)]
          · rfl
        · rfl
      · rfl
    · rfl
  case slice t y lo hi mx =>
    split
    · rename_i v l h m hv _ _ _
      split
      · rfl
      · split
        · rw [qfv (G := H) (hev (by simp) trivial hv)]
        · rfl
      · rename_i ht'
        rw [ht'] at hl
        cases hl
      · rfl
    · rfl
  case call c =>
    cases hc : c.callee with
    | value f =>
      rw [hc] at hl
      cases site with
      | none => cases hl
      | some s =>
        cases evals E st c.args.toList with
        | none => rfl
        | some args =>
          cases f with
          | func g =>
            simp only [callQ]
          | _ => rfl
    | invoke r m => rw [hc] at hl; cases hl
    | builtin b =>
      rw [hc] at hl
      cases hargs : evals E st c.args.toList with
      | none => rfl
      | some args =>
        dsimp only
        unfold q17
        split
        · rename_i x hts
          split
          · rfl
          · obtain ⟨y, hy, hyv⟩ := q8e hargs (v := x) (by simp)
            rw [len_still (G := H) (hev (y := y) (by unfold Call.operands; simp only [Array.toList_append]; exact List.mem_append_right _ hy) (by rw [hc]) hyv)]
          · obtain ⟨y, hy, hyv⟩ := q8e hargs (v := x) (by simp)
            rw [qdm (G := H) (hev (y := y) (by unfold Call.operands; simp only [Array.toList_append]; exact List.mem_append_right _ hy) (by rw [hc]) hyv)]
          · rfl
        · rfl
        · rfl
        · cases hl
        · cases hl
        · cases hl
        · cases hl
        · cases hl
        · cases hl
        · rfl
  case convert s d y =>
    cases hy : st.eval E y with
    | none => rfl
    | some v =>
      have hv : v.heapy = false := hev (by simp) trivial hy
      have hrd : A.read 1 v G = A.read 1 v H := by cases v <;> first | rfl | cases hv
      have e : convH E s d v G = convH E s d v H := by
        unfold convH
        rw [hrd]
        split at hl <;> first | (cases hl; done) | simp only [*]
      have e2 : ∀ K : Heap, convN E s d v K = none := fun K => by
        unfold convN
        split at hl <;> first | (cases hl; done) | simp only [*]
      dsimp only
      unfold q0u
      simp only [e, e2]
  all_goals rfl
end
end Go.Den

/- DEN, part W: regions whose order is open. -/
namespace Go.Den
open Go.RowKit
mutual
theorem AV.beq_eq : ∀ (a b : AV), AV.beq a b = true → a = b
  | .undef, b, h | .nilp, b, h | .nils, b, h | .nilf, b, h | .nili, b, h | .nilm, b, h => by cases b <;> first | rfl | cases h
  | .bool x, b, h => by cases b <;> first | (cases h; done) | (simp only [AV.beq, beq_iff_eq] at h; rw [h])
  | .int k x, b, h => by cases b <;> first | (cases h; done) | (simp only [AV.beq, Bool.and_eq_true, decide_eq_true_eq] at h; rw [h.1, h.2])
  | .str x, b, h => by cases b <;> first | (cases h; done) | (simp only [AV.beq, decide_eq_true_eq] at h; rw [h])
  | .ptr x y z w, b, h => by cases b <;> first | (cases h; done) | (simp only [AV.beq, Bool.and_eq_true, decide_eq_true_eq] at h; obtain ⟨⟨⟨rfl, rfl⟩, rfl⟩, rfl⟩ := h; rfl)
  | .sl x y z w v, b, h => by cases b <;> first | (cases h; done) | (simp only [AV.beq, Bool.and_eq_true, decide_eq_true_eq] at h; obtain ⟨⟨⟨⟨rfl, rfl⟩, rfl⟩, rfl⟩, rfl⟩ := h; rfl)
  | .rop x, b, h => by cases b <;> first | (cases h; done) | (rw [AV.beqs_eq x _ h])
  | .sh z x, b, h => by cases b <;> first | (cases h; done) | (simp only [AV.beq, Bool.and_eq_true, decide_eq_true_eq] at h; rw [h.1, AV.beqs_eq x _ h.2])
  | .lit z x, b, h => by cases b <;> first | (cases h; done) | (simp only [AV.beq, Bool.and_eq_true, decide_eq_true_eq] at h; rw [h.1, AV.beqs_eq x _ h.2])
  | .agg x, b, h => by cases b <;> first | (cases h; done) | (rw [AV.beqs_eq x _ h])
  | .tup x, b, h => by cases b <;> first | (cases h; done) | (rw [AV.beqs_eq x _ h])
  | .fn f x y, b, h => by cases b <;> first | (cases h; done) | (simp only [AV.beq, Bool.and_eq_true, decide_eq_true_eq] at h; rw [h.1.1, AV.beqs_eq x _ h.1.2, AV.beqs_eq y _ h.2])
  | .iface t x, b, h => by cases b <;> first | (cases h; done) | (simp only [AV.beq, Bool.and_eq_true, decide_eq_true_eq] at h; rw [h.1, AV.beq_eq x _ h.2])
  | .mp x, b, h => by cases b <;> first | (cases h; done) | (simp only [AV.beq, decide_eq_true_eq] at h; rw [h])
  | .it x, b, h => by cases b <;> first | (cases h; done) | (simp only [AV.beq, decide_eq_true_eq] at h; rw [h])
  | .yl x, b, h => by cases b <;> first | (cases h; done) | (simp only [AV.beq, decide_eq_true_eq] at h; rw [h])
theorem AV.beqs_eq : ∀ (a b : List AV), AV.beqs a b = true → a = b
  | [], b, h => by cases b <;> first | rfl | cases h
  | x :: xs, b, h => by
    cases b with
    | nil => cases h
    | cons y ys =>
      simp only [AV.beqs, Bool.and_eq_true] at h
      rw [AV.beq_eq x y h.1, AV.beqs_eq xs ys h.2]
end
section
variable {E : Env} {cf : CallFn} {C C' : Ctx} {lam : Nat → Nat} {st st2 : St} {o : Oper} {site : Option Nat} {x : SV} {st' : St} {H H' G : Heap}
theorem qau (hcn : CNat cf) (hl : isLoud E site o = false) (ht : ∀ s, q0j st site o ≠ some (s, true)) (h : opK E cf site o st H (fun x s G => some (x, s, G)) = some (x, st', H'))
    (hG : (reads o = false ∨ heapy st o = false) ∨ sameAt E o ⟨st, H, x, st', H'⟩ G = true ∨ G = H)
    (ha : ∀ t, Operand.tmp t ∈ o.op.operands.toList → st2.get t = st.get t) (hv : ∀ s, q0j st site o = some (s, false) → st2.var s = st.var s) :
    st' = st ∧ H' = H ∧ opK E cf site o st2 G (fun x s G => some (x, s, G)) = some (x, st2, G) := by
  have h0 := h
  rw [q7u hl ht] at h
  simp only [Option.bind_eq_some_iff, Option.some.injEq, Prod.mk.injEq] at h
  obtain ⟨x0, hq, rfl, rfl, rfl⟩ := h
  refine ⟨rfl, rfl, ?_⟩
  have hqG : quietK E site o st G = some x0 := by
    rcases hG with hG | hG | rfl
    · rw [q91 (G := G) (H := H) hl ht hG]; exact hq
    · cases hrd : reads o
      · rw [q91 (G := G) (H := H) hl ht (.inl hrd)]; exact hq
      unfold sameAt at hG
      dsimp only at hG
      rw [← qig (site := site) hrd, show opK E qc3 site o st G (fun x _ _ => some x) = quietK E site o st G from rfl] at hG
      split at hG
      · rename_i w hw
        split at hG
        · rename_i v
          rw [hw, AV.beq_eq _ _ hG]
        · cases hG
      · cases hG
    · exact hq
  have key : opK E cf site o st2 G (fun x s G => some (x, s, G)) = opK E cf site o st G (fun x _ G => some (x, st2, G)) := opK_eq ha (fun s w e => by
    cases w with
    | true => exact absurd e (ht s)
    | false => exact ⟨rfl, hv s e⟩) (fun _ _ => rfl)
  rw [key, q7u hl ht, hqG]
  rfl
theorem qdq (hcn : CNat cf) (ht : ∀ s, q0j st site o ≠ some (s, true)) (h : opK E cf site o st H (fun x s G => some (x, s, G)) = some (x, st', H'))
    (ha : ∀ t, Operand.tmp t ∈ o.op.operands.toList → st2.get t = st.get t) (hv : ∀ s, q0j st site o = some (s, false) → st2.var s = st.var s) :
    st' = st ∧ opK E cf site o st2 H (fun x s G => some (x, s, G)) = some (x, st2, H') := by
  have h1 := q5w hcn ht h
  subst h1
  refine ⟨rfl, ?_⟩
  have key : opK E cf site o st2 H (fun x s G => some (x, s, G)) = opK E cf site o st' H (fun x _ G => some (x, st2, G)) := opK_eq ha (fun s w e => by
    cases w with
    | true => exact absurd e (ht s)
    | false => exact ⟨rfl, hv s e⟩) (fun _ _ => rfl)
  rw [key, q6y hcn, h]
  rfl
end
end Go.Den

/- DEN, part Y: regions whose order is open: every order comes to the same. -/
namespace Go.Den
open Go.RowKit
inductive TextStep (E : Env) (cf : CallFn) (sites : List (Nat × Nat × Nat)) (rid : Nat) (ops : Array Oper) (i : Nat) (o : Oper) (r : Rec) : Prop
  | plain (st' : St) (hg : o.guard = none) (h : opK E cf (siteOf sites rid i) o r.st r.H (fun x s G => some (x, s, G)) = some (r.x, st', r.H1)) (h1 : r.st1 = stPut st' o.dst r.x)
  | on (j : Nat) (want : Bool) (v : AV) (hg : o.guard = some (j, want)) (hb : q32 ops r.st j want = some want) (hk : keepsL r.st o = true) (hx : r.x = .val v)
      (h : opK E cf none o r.st r.H (fun x s G => some (x, s, G)) = some (r.x, r.st, r.H1)) (h1 : r.st1 = stPut r.st o.dst r.x)
  | off (j : Nat) (want b : Bool) (hg : o.guard = some (j, want)) (hb : q32 ops r.st j want = some b) (hne : (b == want) = false) (hx : r.x = .val (.tup [])) (hH : r.H1 = r.H) (h1 : r.st1 = stPut r.st o.dst r.x)
inductive Run (E : Env) (cf : CallFn) (sites : List (Nat × Nat × Nat)) (rid : Nat) (ops : Array Oper) : Nat → List Oper → St → Heap → List Rec → St → Heap → Prop
  | nil (i : Nat) (st : St) (H : Heap) : Run E cf sites rid ops i [] st H [] st H
  | cons (i : Nat) (o : Oper) (os : List Oper) (r : Rec) (rs : List Rec) (st' : St) (H' : Heap) : TextStep E cf sites rid ops i o r → Run E cf sites rid ops (i + 1) os r.st1 r.H1 rs st' H' →
      Run E cf sites rid ops i (o :: os) r.st r.H (r :: rs) st' H'
section
variable {E : Env} {cf : CallFn} {sites : List (Nat × Nat × Nat)} {rid : Nat} {ops : Array Oper} {d : DInfo} {st' : St} {H' : Heap}
theorem q7h {st : St} {o : Oper} (hk : keepsL st o = true) (s : Nat) : q0j st none o ≠ some (s, true) := fun e => by
  unfold q0j at e
  unfold keepsL at hk
  cases ho : o.op <;> simp only [ho] at e hk
  case store t y z =>
    cases y with
    | tmp q =>
      dsimp only at e hk
      cases hq : st.get q <;> simp only [hq] at e hk <;> first | (cases hk; done) | (cases e; done)
    | _ => cases e
  case load t y =>
    cases y with
    | tmp q =>
      dsimp only at e
      cases hq : st.get q <;> simp [hq] at e
    | _ => cases e
  all_goals cases e
theorem qc7 (hcn : CNat cf) (H0 : Heap) : ∀ (l : List Oper) (i : Nat) (tr : List Rec) (st : St) (H : Heap), opsD E cf sites d rid ops H0 l i tr st H (fun s G => some (s, G)) = some (st', H') →
    ∃ rs, Run E cf sites rid ops i l st H rs st' H' ∧ drawOk E sites d rid ops H0 (tr.reverse ++ rs) = true
  | [], i, tr, st, H, h => by
    unfold opsD at h
    cases hd : drawOk E sites d rid ops H0 tr.reverse
    · rw [hd] at h; cases h
    · rw [hd] at h
      simp only [cond_true, Option.some.injEq, Prod.mk.injEq] at h
      obtain ⟨rfl, rfl⟩ := h
      exact ⟨[], .nil _ _ _, by rw [List.append_nil]; exact hd⟩
  | o :: l, i, tr, st, H, h => by
    unfold opsD at h
    split at h
    · rename_i hg
      rw [q6y hcn] at h
      simp only [Option.bind_eq_some_iff] at h
      obtain ⟨⟨x, st1, H1⟩, h1, h2⟩ := h
      obtain ⟨rs, k1, k2⟩ := qc7 hcn H0 l _ _ _ _ h2
      refine ⟨⟨st, H, x, stPut st1 o.dst x, H1⟩ :: rs, .cons i o l ⟨st, H, x, stPut st1 o.dst x, H1⟩ rs _ _ (.plain st1 hg h1 rfl) k1, ?_⟩
      simpa using k2
    · rename_i j want hg
      split at h
      · rename_i b hb
        split at h
        · rename_i p hp
          unfold qbr at hp
          obtain ⟨rs, k1, k2⟩ := qc7 hcn H0 l _ _ _ _ h
          refine ⟨⟨st, H, .val p.1, stPut st o.dst (.val p.1), p.2⟩ :: rs, .cons i o l ⟨st, H, .val p.1, stPut st o.dst (.val p.1), p.2⟩ rs _ _ ?_ k1, by simpa using k2⟩
          cases hbw : (b == want)
          · rw [hbw] at hp
            simp only [cond_false, Option.some.injEq] at hp
            subst hp
            exact .off j want b hg hb hbw rfl rfl rfl
          · rw [hbw] at hp
            simp only [cond_true] at hp
            have hbe : b = want := by simpa using hbw
            subst hbe
            refine .on j b p.1 hg hb ?_ rfl (qal hcn hp) rfl
            unfold q5o at hp
            cases hk : keepsL st o
            · rw [hk] at hp; cases hp
            · rfl
        · cases h
      · cases h
def q1s (rs : List Rec) (st' : St) (k : Nat) : St := match rs[k]? with | some r => r.st | none => st'
def heapAt (rs : List Rec) (H' : Heap) (k : Nat) : Heap := match rs[k]? with | some r => r.H | none => H'
def valAt (rs : List Rec) (k : Nat) : SV := match rs[k]? with | some r => r.x | none => .no
theorem qe5 {i : Nat} {l : List Oper} {st : St} {H : Heap} {rs : List Rec} (h : Run E cf sites rid ops i l st H rs st' H') : q1s rs st' 0 = st ∧ heapAt rs H' 0 = H ∧ rs.length = l.length := by
  induction h with
  | nil => exact ⟨rfl, rfl, rfl⟩
  | cons i o os r rs st' H' h1 h2 ih => exact ⟨rfl, rfl, by simp [ih.2.2]⟩
theorem run_at {i : Nat} {l : List Oper} {st : St} {H : Heap} {rs : List Rec} (h : Run E cf sites rid ops i l st H rs st' H') : ∀ {k : Nat} {o : Oper}, l[k]? = some o →
    rs[k]? = some ⟨q1s rs st' k, heapAt rs H' k, valAt rs k, q1s rs st' (k + 1), heapAt rs H' (k + 1)⟩ ∧ TextStep E cf sites rid ops (i + k) o ⟨q1s rs st' k, heapAt rs H' k, valAt rs k, q1s rs st' (k + 1), heapAt rs H' (k + 1)⟩ := by
  induction h with
  | nil => intro k o hk; simp at hk
  | cons i o os r rs st' H' h1 h2 ih =>
    intro k q hk
    cases k with
    | zero =>
      obtain ⟨e1, e2, _⟩ := qe5 h2
      simp only [List.getElem?_cons_zero, Option.some.injEq] at hk
      subst hk
      have hr : (⟨q1s (r :: rs) st' 0, heapAt (r :: rs) H' 0, valAt (r :: rs) 0, q1s (r :: rs) st' 1, heapAt (r :: rs) H' 1⟩ : Rec) = r := by
        have a1 : q1s (r :: rs) st' 1 = r.st1 := e1
        have a2 : heapAt (r :: rs) H' 1 = r.H1 := e2
        rw [a1, a2]
        rfl
      rw [hr]
      exact ⟨rfl, h1⟩
    | succ k =>
      have := ih (k := k) (o := q) (by simpa using hk)
      have e : (i + 1 + k) = i + (k + 1) := by omega
      rw [e] at this
      exact this
end
end Go.Den

/- DEN, part Z: regions whose order is open (on): what their text says, and the walk in any order. -/
namespace Go.Den
open Go.RowKit
section
variable {E : Env} {cf : CallFn} {sites : List (Nat × Nat × Nat)} {rid : Nat} {ops : Array Oper} {d : DInfo} {st' : St} {H' : Heap}
def loudAt (E : Env) (sites : List (Nat × Nat × Nat)) (rid : Nat) (ops : Array Oper) (j : Nat) : Bool :=
  match ops[j]? with
  | some o => isLoud E (siteAt sites rid j o) o
  | none => false
structure TextOK (E : Env) (sites : List (Nat × Nat × Nat)) (rid : Nat) (ops : Array Oper) (d : DInfo) : Prop where
  edge : ∀ (i j : Nat) (o q : Oper), ops[i]? = some o → ops[j]? = some q → bef d i j = true → ∃ e ∈ o.after.toList, Region.binds .any e = true ∧ e.on < i ∧ (e.on = j ∨ bef d e.on j = true)
  back : ∀ (i : Nat) (o : Oper), ops[i]? = some o → ∀ e ∈ o.after.toList, Region.binds .any e = true → e.on < i
  loud : ∀ (i j : Nat) (o q : Oper), ops[i]? = some o → ops[j]? = some q → j < i → loudAt E sites rid ops i = true → loudAt E sites rid ops j = true → bef d i j = true ∨ d.swap = some (j, i)
  slots : ∀ (i j : Nat) (o q : Oper) (t : Tmp), ops[i]? = some o → ops[j]? = some q → i ≠ j → q.dst = some t → t ∈ looks ops o → bef d i j = true ∨ bef d j i = true
  dsts : ∀ (i j : Nat) (o q : Oper) (t : Tmp), ops[i]? = some o → ops[j]? = some q → i ≠ j → o.dst = some t → q.dst ≠ some t
  wins : ∀ (i : Nat) (o : Oper), ops[i]? = some o → loudAt E sites rid ops i = false → reads o = true →
    (q0c E sites rid ops fun j => !bef d j i) ≤ (q0c E sites rid ops fun j => bef d i j) ∨
      ∃ l h, winOf i d.wins = some (l, h) ∧ l ≤ (q0c E sites rid ops fun j => bef d i j) ∧ (q0c E sites rid ops fun j => !bef d j i) ≤ h
  swap : ∀ a b, d.swap = some (a, b) → a < b ∧ b < ops.size ∧ loudAt E sites rid ops a = true ∧ loudAt E sites rid ops b = true ∧ (q0c E sites rid ops fun j => decide (j < b)) = (q0c E sites rid ops fun j => decide (j < a)) + 1
theorem textOK (h : q1f E sites rid ops d = true) : TextOK E sites rid ops d := by
  have hop : ∀ (i : Nat) (o : Oper), ops[i]? = some o → opOk E sites rid ops d i = true := fun i o ho => by
    unfold q1f at h
    simp only [Bool.and_eq_true] at h
    exact List.all_eq_true.1 h.1 i (List.mem_range.2 (Array.getElem?_eq_some_iff.1 ho).1)
  have hpair : ∀ (i j : Nat) (o q : Oper), ops[i]? = some o → ops[j]? = some q → pairOk E sites rid ops d i o j = true := fun i j o q hi hj => by
    have := hop i o hi
    unfold opOk at this
    rw [hi] at this
    simp only [Bool.and_eq_true] at this
    exact List.all_eq_true.1 this.1.1 j (List.mem_range.2 (Array.getElem?_eq_some_iff.1 hj).1)
  have hl : ∀ (i : Nat) (o : Oper), ops[i]? = some o → loudAt E sites rid ops i = isLoud E (siteAt sites rid i o) o := fun i o ho => by
    unfold loudAt; rw [ho]
  refine ⟨?_, ?_, ?_, ?_, ?_, ?_, ?_⟩
  · intro i j o q hi hj hb
    have := hpair i j o q hi hj
    unfold pairOk at this
    rw [hj] at this
    simp only [Bool.and_eq_true, hb, Bool.not_true, Bool.false_or] at this
    obtain ⟨e, he, h1⟩ := Array.any_eq_true'.1 this.1.1.1
    simp only [Bool.and_eq_true, decide_eq_true_eq, Bool.or_eq_true] at h1
    exact ⟨e, by simpa using he, h1.1.1, h1.1.2, h1.2.imp (fun h => Nat.eq_of_beq_eq_true h) id⟩
  · intro i o hi e he hb
    have := hop i o hi
    unfold opOk at this
    rw [hi] at this
    simp only [Bool.and_eq_true] at this
    have := Array.all_eq_true'.1 this.1.2 e (by simpa using he)
    simpa [hb] using this
  · intro i j o q hi hj hlt h1 h2
    have := hpair i j o q hi hj
    rw [hl i o hi] at h1
    rw [hl j q hj] at h2
    unfold pairOk at this
    rw [hj] at this
    simp only [Bool.and_eq_true, hlt, h1, h2, decide_true, Bool.true_and, Bool.and_self, Bool.not_true, Bool.false_or, Bool.or_eq_true] at this
    refine this.1.1.2.imp id fun h3 => ?_
    unfold swapped at h3
    split at h3
    · rename_i x y hs
      simp only [Bool.and_eq_true] at h3
      rw [hs, Nat.eq_of_beq_eq_true h3.1, Nat.eq_of_beq_eq_true h3.2]
    · cases h3
  · intro i j o q t hi hj hne hd ht
    have := hpair i j o q hi hj
    unfold pairOk at this
    rw [hj] at this
    simp only [Bool.and_eq_true] at this
    have h1 := this.1.2
    have hs : q75 o q ops = false := by
      unfold q75
      rw [hd]
      simpa using ht
    have hb : Nat.beq i j = false := by
      cases hb : Nat.beq i j
      · rfl
      · exact absurd (Nat.eq_of_beq_eq_true hb) hne
    rw [hs, hb] at h1
    simpa using h1
  · intro i j o q t hi hj hne hd
    have := hpair i j o q hi hj
    unfold pairOk at this
    rw [hj] at this
    simp only [Bool.and_eq_true] at this
    have h1 := this.2
    have hb : Nat.beq i j = false := by
      cases hb : Nat.beq i j
      · rfl
      · exact absurd (Nat.eq_of_beq_eq_true hb) hne
    rw [hb, hd] at h1
    intro e
    rw [e] at h1
    simp at h1
  · intro i o hi h1 h2
    have := hop i o hi
    rw [hl i o hi] at h1
    unfold opOk at this
    rw [hi] at this
    simp only [Bool.and_eq_true, h1, h2, Bool.false_or, Bool.not_true, Bool.or_eq_true, Nat.ble_eq] at this
    rcases this.2 with h3 | h3
    · exact .inl h3
    · split at h3
      · rename_i l h hw
        simp only [Bool.and_eq_true, Nat.ble_eq] at h3
        exact .inr ⟨l, h, hw, h3.1, h3.2⟩
      · cases h3
  · intro a b hs
    unfold q1f at h
    simp only [Bool.and_eq_true] at h
    have h2 := h.2
    unfold qh5 at h2
    rw [hs] at h2
    dsimp only at h2
    split at h2
    · rename_i oa ob ha hb
      simp only [Bool.and_eq_true] at h2
      exact ⟨Nat.le_of_ble_eq_true h2.1.1.1, (Array.getElem?_eq_some_iff.1 hb).1, by rw [hl a oa ha]; exact h2.1.1.2, by rw [hl b ob hb]; exact h2.1.2, Nat.eq_of_beq_eq_true h2.2⟩
    · cases h2
theorem TextOK.lt (hT : TextOK E sites rid ops d) : ∀ (i j : Nat) (o q : Oper), ops[i]? = some o → ops[j]? = some q → bef d i j = true → j < i := by
  intro i
  induction i using Nat.strongRecOn with
  | _ i ih =>
    intro j o q hi hj hb
    obtain ⟨e, he, h1, h2, h3⟩ := hT.edge i j o q hi hj hb
    rcases h3 with rfl | h3
    · exact h2
    · have hlt := (Array.getElem?_eq_some_iff.1 hi).1
      have := ih e.on h2 j _ q (Array.getElem?_eq_getElem (by omega)) hj h3
      omega
def Closed (ops : Array Oper) (M : Nat → Prop) : Prop := ∀ (i : Nat) (o : Oper), ops[i]? = some o → M i → ∀ e ∈ o.after.toList, Region.binds .any e = true → M e.on
theorem Closed.bef (hT : TextOK E sites rid ops d) {M : Nat → Prop} (hc : Closed ops M) : ∀ (i j : Nat) (o q : Oper), ops[i]? = some o → ops[j]? = some q → bef d i j = true → (∀ e ∈ o.after.toList, Region.binds .any e = true → M e.on) → M j := by
  intro i
  induction i using Nat.strongRecOn with
  | _ i ih =>
    intro j o q hi hj hb hr
    obtain ⟨e, he, h1, h2, h3⟩ := hT.edge i j o q hi hj hb
    rcases h3 with rfl | h3
    · exact hr e he h1
    · have hlt := (Array.getElem?_eq_some_iff.1 hi).1
      have hg : ops[e.on]? = some _ := Array.getElem?_eq_getElem (show e.on < ops.size by omega)
      exact ih e.on h2 j _ q hg hj h3 (hc e.on _ hg (hr e he h1))
/-! ### what the text's order touched, and the versions of the small heap -/
theorem q9g {j s : Nat} {w : Bool} : ∀ {l : List (Nat × Nat × Bool)}, qcn d j s w l = true → ∀ {i : Nat} {w' : Bool}, (i, s, w') ∈ l → (w || w') = true → bef d i j = true
  | [], _, i, w', hm, _ => by cases hm
  | (i0, s0, w0) :: l, h, i, w', hm, hw => by
    unfold qcn at h
    simp only [Bool.and_eq_true] at h
    rcases List.mem_cons.1 hm with e | hm
    · injection e with e1 e2
      injection e2 with e2 e3
      subst e1 e2 e3
      have h1 := h.1
      rw [hw] at h1
      simpa using h1
    · exact q9g h.2 hm hw
theorem q9i : ∀ {l : List Oper} {i : Nat} {rs : List Rec} {k : Nat} {o : Oper} {r : Rec} {s : Nat} {w : Bool}, l[k]? = some o → rs[k]? = some r → q0j r.st (siteAt sites rid (i + k) o) o = some (s, w) → (i + k, s, w) ∈ q3d sites rid l i rs
  | [], _, _, _, _, _, _, _, h, _, _ => by simp at h
  | _ :: _, _, [], _, _, _, _, _, _, h, _ => by simp at h
  | o0 :: l, i, r0 :: rs, 0, o, r, s, w, h1, h2, h3 => by
    simp only [List.getElem?_cons_zero, Option.some.injEq] at h1 h2
    subst h1 h2
    unfold q3d
    rw [show i + 0 = i from rfl] at h3
    rw [h3]
    exact List.mem_cons_self
  | o0 :: l, i, r0 :: rs, k + 1, o, r, s, w, h1, h2, h3 => by
    have := q9i (i := i + 1) (k := k) (l := l) (rs := rs) (by simpa using h1) (by simpa using h2) (by rw [show i + 1 + k = i + (k + 1) by omega]; exact h3)
    rw [show i + 1 + k = i + (k + 1) by omega] at this
    unfold q3d
    split
    · exact List.mem_cons_of_mem _ this
    · exact this
theorem qij : ∀ (l : List Oper) (i : Nat) (rs : List Rec), q3p d (q3d sites rid l i rs) = true → ∀ (k k' : Nat) (o o' : Oper) (r r' : Rec) (s : Nat) (w w' : Bool), k < k' → l[k]? = some o → l[k']? = some o' → rs[k]? = some r → rs[k']? = some r' →
    q0j r.st (siteAt sites rid (i + k) o) o = some (s, w) → q0j r'.st (siteAt sites rid (i + k') o') o' = some (s, w') → (w || w') = true → bef d (i + k') (i + k) = true := by
  intro l
  induction l with
  | nil => intro i rs _ k k' o o' r r' s w w' _ h; simp at h
  | cons o0 l ih =>
    intro i rs h k k' o o' r r' s w w' hlt h1 h2 h3 h4 h5 h6 hw
    cases rs with
    | nil => simp at h3
    | cons r0 rs =>
      obtain ⟨k', rfl⟩ : ∃ n, k' = n + 1 := ⟨k' - 1, by omega⟩
      have e' : i + 1 + k' = i + (k' + 1) := by omega
      rw [← e'] at h6 ⊢
      cases k with
      | zero =>
        simp only [List.getElem?_cons_zero, Option.some.injEq] at h1 h3
        subst h1 h3
        unfold q3d at h
        rw [show i + 0 = i from rfl] at h5
        rw [h5] at h
        unfold q3p at h
        simp only [Bool.and_eq_true] at h
        have hm := q9i (sites := sites) (rid := rid) (i := i + 1) (k := k') (l := l) (rs := rs) (o := o') (r := r') (s := s) (w := w') (by simpa using h2) (by simpa using h4) h6
        exact q9g h.1 hm hw
      | succ k =>
        have e : i + 1 + k = i + (k + 1) := by omega
        rw [← e] at h5 ⊢
        have h' : q3p d (q3d sites rid l (i + 1) rs) = true := by
          unfold q3d at h
          split at h
          · unfold q3p at h
            simp only [Bool.and_eq_true] at h
            exact h.2
          · exact h
        exact ih (i + 1) rs h' k k' o o' r r' s w w' (by omega) (by simpa using h1) (by simpa using h2) (by simpa using h3) (by simpa using h4) h5 h6 hw
theorem qg5 {α : Type} : ∀ (n : Nat) (l : List α), dropK n l = l.drop n
  | 0, l => rfl
  | n + 1, [] => rfl
  | n + 1, _ :: l => qg5 n l
theorem qcv {ok : Heap → Bool} : ∀ {n : Nat} {l : List Heap}, allOk ok n l = true → ∀ {m : Nat} {G : Heap}, m < n → l[m]? = some G → ok G = true
  | 0, _, _, _, _, h, _ => by omega
  | n + 1, [], _, _, _, _, h => by simp at h
  | n + 1, G0 :: l, h, m, G, hm, hg => by
    unfold allOk at h
    simp only [Bool.and_eq_true] at h
    cases m with
    | zero =>
      simp only [List.getElem?_cons_zero, Option.some.injEq] at hg
      subst hg
      exact h.1
    | succ m => exact qcv h.2 (show m < n by omega) (by simpa using hg)
theorem qim {wins : List (Nat × Nat × Nat)} {vers : List Heap} : ∀ (l : List Oper) (i : Nat) (rs : List Rec), winsOk E sites wins rid ops vers l i rs = true → ∀ (k : Nat) (o : Oper) (r : Rec) (lo hi m : Nat) (G : Heap), l[k]? = some o → rs[k]? = some r → winOf (i + k) wins = some (lo, hi) →
    isLoud E (siteAt sites rid (i + k) o) o = false → reads o = true → acts ops r.st o = true → heapy r.st o = true → lo ≤ m → m ≤ hi → vers[m]? = some G → sameAt E o r G = true := by
  intro l
  induction l with
  | nil => intro i rs _ k o r lo hi m G h; simp at h
  | cons o0 l ih =>
    intro i rs h k o r lo hi m G h1 h2 h3 h4 h5 h6 h7 h8 h9 hG
    cases rs with
    | nil => simp at h2
    | cons r0 rs =>
      unfold winsOk at h
      simp only [Bool.and_eq_true] at h
      cases k with
      | zero =>
        simp only [List.getElem?_cons_zero, Option.some.injEq] at h1 h2
        subst h1 h2
        have := h.1
        rw [show i + 0 = i from rfl] at h3 h4
        rw [h3] at this
        simp only [h4, h5, h6, h7, Bool.not_false, Bool.and_self, cond_true] at this
        refine qcv this (m := m - lo) (by omega) ?_
        rw [qg5, List.getElem?_drop, show lo + (m - lo) = m by omega]
        exact hG
      | succ k =>
        have e : i + 1 + k = i + (k + 1) := by omega
        rw [← e] at h3 h4
        exact ih (i + 1) rs h.2 k o r lo hi m G (by simpa using h1) (by simpa using h2) h3 h4 h5 h6 h7 h8 h9 hG
def louds (E : Env) (sites : List (Nat × Nat × Nat)) (rid : Nat) (ops : Array Oper) (k : Nat) : Nat := ((List.range k).filter fun j => loudAt E sites rid ops j).length
theorem q6v {k : Nat} : louds E sites rid ops (k + 1) = louds E sites rid ops k + (if loudAt E sites rid ops k = true then 1 else 0) := by
  unfold louds
  rw [List.range_succ, List.filter_append, List.length_append]
  congr 1
  cases h : loudAt E sites rid ops k <;> simp [h]
end
end Go.Den

/- DEN, part Za: regions whose order is open (on): one operation, in whatever order. -/
namespace Go.Den
open Go.RowKit
section
variable {E : Env} {cf : CallFn} {sites : List (Nat × Nat × Nat)} {rid : Nat} {ops : Array Oper} {d : DInfo} {st' : St} {H' : Heap} {i : Nat} {o : Oper} {r : Rec}
theorem q5d (hg : o.guard = none) : siteAt sites rid i o = siteOf sites rid i := by unfold siteAt; rw [hg]
theorem q5e {j : Nat} {w : Bool} (hg : o.guard = some (j, w)) : siteAt sites rid i o = none := by unfold siteAt; rw [hg]
inductive Eff2 (o : Oper) (site : Option Nat) (st0 st1 sa sa1 : St) : Prop
  | none (e : st1 = st0) (e2 : sa1 = sa)
  | set (s : Nat) (cs : List AV) (h : q0j st0 site o = some (s, true)) (e : st1 = st0.setVar s cs) (e2 : sa1 = sa.setVar s cs)
theorem q9h (st : St) (site : Option Nat) (o : Oper) : (∃ s, q0j st site o = some (s, true)) ∨ ∀ s, q0j st site o ≠ some (s, true) := by
  cases h : q0j st site o with
  | none => exact .inr (fun s e => by cases e)
  | some p =>
    obtain ⟨s, w⟩ := p
    cases w
    · exact .inr (fun s' e => by cases e)
    · exact .inl ⟨s, rfl⟩
theorem qih (hcn : CNat cf) (h : TextStep E cf sites rid ops i o r) (hl : isLoud E (siteAt sites rid i o) o = false) : r.H1 = r.H := by
  cases h with
  | plain st1 hg h h1 =>
    rw [q5d hg] at hl
    rcases q9h r.st (siteOf sites rid i) o with ⟨s, ht⟩ | ht
    · obtain ⟨cs, _, h2, _⟩ := qcr ht h
      exact h2
    · rw [q7u hl ht] at h
      simp only [Option.bind_eq_some_iff, Option.some.injEq, Prod.mk.injEq] at h
      obtain ⟨_, _, _, _, h2⟩ := h
      exact h2.symm
  | on j want v hg hb hk hx h h1 =>
    rw [q5e hg] at hl
    rw [q7u hl (q7h hk)] at h
    simp only [Option.bind_eq_some_iff, Option.some.injEq, Prod.mk.injEq] at h
    obtain ⟨_, _, _, _, h2⟩ := h
    exact h2.symm
  | off j want b hg hb hne hx hH h1 => exact hH
theorem step_any (hcn : CNat cf) (hck : CallKOK E cf) (h : TextStep E cf sites rid ops i o r) (ho : ops[i]? = some o) {sa : St} {C : Ctx} {lam : Nat → Nat} {a : Act} {Q : Exit → Act → World → Prop} {ro : Option Nat} {K : Act → World → Prop} {G1 : Heap} (hr : HR E C) (hf : FrameR C lam sa a)
    (ha : ∀ t ∈ looks ops o, sa.get t = r.st.get t) (hv : ∀ s w, q0j r.st (siteAt sites rid i o) o = some (s, w) → sa.var s = r.st.var s ∧ sa.L.has s = r.st.L.has s)
    (hH : (isLoud E (siteAt sites rid i o) o = true ∧ C.H = r.H ∧ G1 = r.H1) ∨
      (isLoud E (siteAt sites rid i o) o = false ∧ G1 = C.H ∧ ((reads o = false ∨ heapy r.st o = false) ∨ (acts ops r.st o = true → sameAt E o r C.H = true ∨ C.H = r.H)))) :
    ∃ st1 sa1, r.st1 = stPut st1 o.dst r.x ∧ Eff2 o (siteAt sites rid i o) r.st st1 sa sa1 ∧ ((∀ a' w', Post E C (stPut sa1 o.dst r.x) G1 a' w' → K a' w') → wpOpIn (FW ro) 0 E.P ops Q i K a C.w) := by
  have hops : ∀ t, Operand.tmp t ∈ o.op.operands.toList → sa.get t = r.st.get t := fun t ht => ha t (by
    unfold looks
    exact List.mem_append_left _ (List.mem_filterMap.2 ⟨_, ht, rfl⟩))
  have hguard : ∀ j w, o.guard = some (j, w) → q32 ops sa j w = q32 ops r.st j w := fun j w hg => by
    unfold q32
    cases hd : (ops[j]?).bind (·.dst) with
    | none => rfl
    | some t =>
      dsimp only
      rw [ha t (by unfold looks; rw [hg]; dsimp only; rw [hd]; exact List.mem_append_right _ (by simp))]
  have hK : ∀ {sa1 : St} {site : Option Nat}, opK E cf site o sa C.H (fun x s G => some (x, s, G)) = some (r.x, sa1, G1) → Region.wanted o (yielded ops a.tmps) = true → (∀ a' w', Post E C (stPut sa1 o.dst r.x) G1 a' w' → K a' w') → wpOpIn (FW ro) 0 E.P ops Q i K a C.w := fun h1 hw hk => by
    unfold wpOpIn
    rw [ho]
    dsimp only
    rw [if_pos hw]
    exact (Oper.wpIn_mono hk (qc6 hcn hck hr hf h1))
  cases h with
  | plain st1 hg h h1 =>
    rw [q5d hg] at hv hH ⊢
    have hw : Region.wanted o (yielded ops a.tmps) = true := q9k hg
    refine ⟨st1, ?_⟩
    rcases q9h r.st (siteOf sites rid i) o with ⟨s, ht⟩ | ht
    · obtain ⟨cs, e1, e2, h3⟩ := qcr ht h
      obtain ⟨v1, v2⟩ := hv s true ht
      have h4 := h3 sa C.H hops v1 v2
      have hG : G1 = C.H := by
        rcases hH with ⟨_, h5, h6⟩ | ⟨_, h5, _⟩
        · rw [h6, e2, h5]
        · exact h5
      subst hG
      exact ⟨sa.setVar s cs, h1, .set s cs ht e1 rfl, hK h4 hw⟩
    · have hv' : ∀ s, q0j r.st (siteOf sites rid i) o = some (s, false) → sa.var s = r.st.var s := fun s e => (hv s false e).1
      rcases hH with ⟨hl, hC, rfl⟩ | ⟨hl, rfl, hG⟩
      · obtain ⟨e1, h2⟩ := qdq hcn ht h hops hv'
        rw [← hC] at h2
        exact ⟨sa, h1, .none e1 rfl, hK h2 hw⟩
      · obtain ⟨e1, _, h2⟩ := qau (G := C.H) hcn hl ht h (by
          rcases hG with hG | hG
          · exact .inl hG
          · refine .inr ?_
            rcases hG (by unfold acts; rw [hg]) with h3 | h3
            · exact .inl h3
            · exact .inr h3) hops hv'
        exact ⟨sa, h1, .none e1 rfl, hK h2 hw⟩
  | on j want v hg hb hk hx h h1 =>
    rw [q5e hg] at hv hH ⊢
    have hw : Region.wanted o (yielded ops a.tmps) = true := by
      rw [q5h hf hg (by rw [hguard j want hg]; exact hb)]
      simp
    have ht := q7h hk
    have hv' : ∀ s, q0j r.st none o = some (s, false) → sa.var s = r.st.var s := fun s e => (hv s false e).1
    refine ⟨r.st, sa, h1, .none rfl rfl, ?_⟩
    rcases hH with ⟨hl, hC, rfl⟩ | ⟨hl, rfl, hG⟩
    · obtain ⟨_, h2⟩ := qdq hcn ht h hops hv'
      rw [← hC] at h2
      exact hK h2 hw
    · obtain ⟨_, _, h2⟩ := qau (G := C.H) hcn hl ht h (by
        rcases hG with hG | hG
        · exact .inl hG
        · refine .inr ?_
          rcases hG (by unfold acts; rw [hg]; dsimp only; rw [hb]; simp) with h3 | h3
          · exact .inl (by
              unfold sameAt at h3 ⊢
              exact h3)
          · exact .inr h3) hops hv'
      exact hK h2 hw
  | off j want b hg hb hne hx hHH h1 =>
    rw [q5e hg] at hv hH ⊢
    have hw : Region.wanted o (yielded ops a.tmps) = false := by
      rw [q5h hf hg (by rw [hguard j want hg]; exact hb)]
      exact hne
    have hG : G1 = C.H := by
      rcases hH with ⟨_, h5, h6⟩ | ⟨_, h5, _⟩
      · rw [h6, hHH, h5]
      · exact h5
    subst hG
    refine ⟨r.st, sa, h1, .none rfl rfl, fun hk => ?_⟩
    unfold wpOpIn
    rw [ho]
    dsimp only
    rw [if_neg (by rw [hw]; simp)]
    refine ⟨fun _ _ => trivial, hk _ _ ⟨C, lam, rfl, rfl, hr, Ev.refl C, ?_⟩⟩
    rw [hx]
    exact hf.put (x := .val (.tup [])) (.tup _ [] #[] (.nil _))
end
end Go.Den

/- DEN, part Zb: regions whose order is open (on): how many loud ones were done, and which version of the small heap that is. -/
namespace Go.Den
open Go.RowKit
section
variable {E : Env} {cf : CallFn} {sites : List (Nat × Nat × Nat)} {rid : Nat} {ops : Array Oper} {d : DInfo} {st' : St} {H' : Heap}
theorem q2k (p : Nat → Bool) : q0c E sites rid ops p = (List.range ops.size).countP fun j => loudAt E sites rid ops j && p j := by
  rw [List.countP_eq_length_filter]
  rfl
theorem q29 {p q : Nat → Bool} (h : ∀ j, j < ops.size → p j = true → q j = true) : q0c E sites rid ops p ≤ q0c E sites rid ops q := by
  rw [q2k, q2k]
  refine List.countP_mono_left fun j hj hp => ?_
  simp only [Bool.and_eq_true] at hp ⊢
  exact ⟨hp.1, h j (List.mem_range.1 hj) hp.2⟩
theorem qac (f g : Nat → Bool) (i : Nat) (h : ∀ j, j ≠ i → f j = g j) (hf : g i = false) : ∀ n, (List.range n).countP f = (List.range n).countP g + (if i < n ∧ f i = true then 1 else 0)
  | 0 => by simp
  | n + 1 => by
    rw [List.range_succ, List.countP_append, List.countP_append, qac f g i h hf n]
    by_cases e : n = i
    · subst e
      cases hfi : f n <;> simp [hfi, hf]
    · rw [show List.countP f [n] = List.countP g [n] by simp [h n e]]
      by_cases hi : i < n
      · simp [hi, show i < n + 1 by omega]; omega
      · have : ¬ i < n + 1 := by omega
        simp [hi, this]
theorem qbe {p q : Nat → Bool} {i : Nat} (hi : i < ops.size) (h : ∀ j, j ≠ i → q j = p j) (hp : p i = false) (hq : q i = true) :
    q0c E sites rid ops q = q0c E sites rid ops p + (if loudAt E sites rid ops i = true then 1 else 0) := by
  rw [q2k, q2k, qac _ (fun j => loudAt E sites rid ops j && p j) i (fun j hj => by rw [h j hj]) (by simp [hp])]
  congr 1
  simp [hi, hq]
theorem qj1 (f : Nat → Bool) (i : Nat) : ∀ n, i ≤ n → (List.range n).countP (fun j => f j && decide (j < i)) = (List.range i).countP f := by
  intro n hn
  induction n with
  | zero =>
    have : i = 0 := by omega
    subst this
    rfl
  | succ n ih =>
    by_cases e : i = n + 1
    · subst e
      refine List.countP_congr fun j hj => ?_
      simp [List.mem_range.1 hj]
    · rw [List.range_succ, List.countP_append, ih (by omega)]
      have : ¬ n < i := by omega
      simp [this]
theorem q12 {p : Nat → Bool} {i : Nat} (hi : i ≤ ops.size) (h : ∀ j, j < ops.size → loudAt E sites rid ops j = true → (p j = decide (j < i))) : q0c E sites rid ops p = louds E sites rid ops i := by
  rw [q2k]
  unfold louds
  rw [← List.countP_eq_length_filter, ← qj1 _ i ops.size hi]
  refine List.countP_congr fun j hj => ?_
  cases hl : loudAt E sites rid ops j
  · simp
  · simp [h j (List.mem_range.1 hj) hl]
def cntL (E : Env) (sites : List (Nat × Nat × Nat)) (rid : Nat) : List Oper → Nat → Nat → Nat
  | o :: os, i, k + 1 => (if isLoud E (siteAt sites rid i o) o = true then 1 else 0) + cntL E sites rid os (i + 1) k
  | _, _, _ => 0
theorem qd5 : ∀ {l : List Oper} {i k : Nat} {o : Oper}, l[k]? = some o → cntL E sites rid l i (k + 1) = cntL E sites rid l i k + (if isLoud E (siteAt sites rid (i + k) o) o = true then 1 else 0)
  | [], _, _, _, h => by simp at h
  | o0 :: l, i, 0, o, h => by
    simp only [List.getElem?_cons_zero, Option.some.injEq] at h
    subst h
    cases l <;> simp [cntL]
  | o0 :: l, i, k + 1, o, h => by
    have := qd5 (i := i + 1) (k := k) (l := l) (o := o) (by simpa using h)
    rw [show i + 1 + k = i + (k + 1) by omega] at this
    unfold cntL
    rw [this]
    omega
theorem qab : ∀ {k : Nat}, k ≤ ops.size → cntL E sites rid ops.toList 0 k = louds E sites rid ops k
  | 0, _ => by
    unfold louds
    cases ops.toList <;> rfl
  | k + 1, h => by
    have hk : ops.toList[k]? = some (ops[k]'(by omega)) := by
      rw [Array.getElem?_toList, Array.getElem?_eq_getElem]
    rw [qd5 hk, qab (by omega), q6v]
    congr 1
    unfold loudAt
    rw [Array.getElem?_toList] at hk
    rw [hk, show 0 + k = k by omega]
theorem vers_at (hcn : CNat cf) {i : Nat} {l : List Oper} {st : St} {H : Heap} {rs : List Rec} (h : Run E cf sites rid ops i l st H rs st' H') : ∀ k, k ≤ l.length → (H :: versOf E sites rid l i rs)[cntL E sites rid l i k]? = some (heapAt rs H' k) := by
  induction h with
  | nil i st H =>
    intro k hk
    have : k = 0 := by simpa using hk
    subst this
    rfl
  | cons i o os r rs st' H' h1 h2 ih =>
    intro k hk
    cases k with
    | zero => rfl
    | succ k =>
      have := ih k (by simpa using hk)
      have hh : heapAt (r :: rs) H' (k + 1) = heapAt rs H' k := rfl
      have e1 : cntL E sites rid (o :: os) i (k + 1) = (if isLoud E (siteAt sites rid i o) o = true then 1 else 0) + cntL E sites rid os (i + 1) k := rfl
      have e2 : versOf E sites rid (o :: os) i (r :: rs) = bif isLoud E (siteAt sites rid i o) o then r.H1 :: versOf E sites rid os (i + 1) rs else versOf E sites rid os (i + 1) rs := rfl
      rw [hh, ← this, e1, e2]
      cases hl : isLoud E (siteAt sites rid i o) o
      · rw [qih hcn h1 hl]
        simp
      · simp only [if_true, cond_true]
        rw [Nat.add_comm 1]
        rfl
theorem qb4 (hcn : CNat cf) {st : St} {H : Heap} {rs : List Rec} (h : Run E cf sites rid ops 0 ops.toList st H rs st' H') {k : Nat} (hk : k ≤ ops.size) :
    (H :: versOf E sites rid ops.toList 0 rs)[louds E sites rid ops k]? = some (heapAt rs H' k) := by
  rw [← qab hk]
  exact vers_at hcn h k (by simpa using hk)
end
end Go.Den

/- DEN, part Zc: regions whose order is open (on): the walk. -/
namespace Go.Den
open Go.RowKit
section
variable {E : Env} {cf : CallFn} {sites : List (Nat × Nat × Nat)} {rid : Nat} {ops : Array Oper} {d : DInfo} {st' : St} {H' : Heap}
theorem q4a {st : St} {dst : Option Tmp} {x : SV} {t : Tmp} (h : dst ≠ some t) : (stPut st dst x).get t = st.get t := by
  cases dst with
  | none => rfl
  | some u =>
    show (if u < st.N then st.put u x else st).get t = st.get t
    split
    · exact St.get_put_ne (fun e => h (by rw [e]))
    · rfl
theorem q4z {st : St} {t : Tmp} {x : SV} : (stPut st (some t) x).get t = if t < st.N then (bif st.slots.has t then x else .no) else st.get t := by
  show (if t < st.N then st.put t x else st).get t = _
  split
  · exact Tr.get_set_has
  · rfl
structure Shape (st sa : St) : Prop where
  N : sa.N = st.N
  slots : ∀ t, sa.slots.has t = st.slots.has t
  L : ∀ s, sa.L.has s = st.L.has s
theorem Shape.refl (st : St) : Shape st st := ⟨rfl, fun _ => rfl, fun _ => rfl⟩
theorem Shape.put {st sa : St} (h : Shape st sa) (dst : Option Tmp) (x : SV) : Shape st (stPut sa dst x) := by
  cases dst with
  | none => exact h
  | some u =>
    show Shape st (if u < sa.N then sa.put u x else sa)
    split
    · exact ⟨h.N, fun t => Tr.has_set.trans (h.slots t), h.L⟩
    · exact h
theorem Shape.setVar {st sa : St} (h : Shape st sa) (s : Nat) (cs : List AV) : Shape st (sa.setVar s cs) := ⟨h.N, h.slots, fun s => Tr.has_set.trans (h.L s)⟩
structure TextRun (E : Env) (cf : CallFn) (sites : List (Nat × Nat × Nat)) (rid : Nat) (ops : Array Oper) (S : Nat → St) (Hh : Nat → Heap) (X : Nat → SV) : Prop where
  step : ∀ (i : Nat) (o : Oper), ops[i]? = some o → TextStep E cf sites rid ops i o ⟨S i, Hh i, X i, S (i + 1), Hh (i + 1)⟩
variable {S : Nat → St} {Hh : Nat → Heap} {X : Nat → SV}
def Wr (sites : List (Nat × Nat × Nat)) (rid : Nat) (ops : Array Oper) (S : Nat → St) (s j : Nat) : Prop := ∃ o, ops[j]? = some o ∧ q0j (S j) (siteAt sites rid j o) o = some (s, true)
theorem q9c (hcn : CNat cf) {i : Nat} {o : Oper} {r : Rec} (h : TextStep E cf sites rid ops i o r) : ∃ st1, r.st1 = stPut st1 o.dst r.x ∧ (st1 = r.st ∨ ∃ s cs, q0j r.st (siteAt sites rid i o) o = some (s, true) ∧ st1 = r.st.setVar s cs) := by
  cases h with
  | plain st1 hg h h1 =>
    rw [q5d hg]
    refine ⟨st1, h1, ?_⟩
    rcases q9h r.st (siteOf sites rid i) o with ⟨s, ht⟩ | ht
    · obtain ⟨cs, e1, _, _⟩ := qcr ht h
      exact .inr ⟨s, cs, ht, e1⟩
    · exact .inl (q5w hcn ht h)
  | on j want v hg hb hk hx h h1 => exact ⟨r.st, h1, .inl rfl⟩
  | off j want b hg hb hne hx hH h1 => exact ⟨r.st, h1, .inl rfl⟩
theorem TextRun.shape (hcn : CNat cf) (hT : TextRun E cf sites rid ops S Hh X) : ∀ k, k ≤ ops.size → Shape (S 0) (S k)
  | 0, _ => Shape.refl _
  | k + 1, h => by
    obtain ⟨st1, e1, e2⟩ := q9c hcn (hT.step k _ (Array.getElem?_eq_getElem (by omega)))
    dsimp only at e1
    rw [e1]
    refine Shape.put ?_ _ _
    rcases e2 with e2 | ⟨s, cs, _, e2⟩
    · rw [e2]; exact hT.shape hcn k (by omega)
    · rw [e2]; exact (hT.shape hcn k (by omega)).setVar s cs
theorem TextRun.get_step (hcn : CNat cf) (hT : TextRun E cf sites rid ops S Hh X) {i : Nat} {o : Oper} (ho : ops[i]? = some o) {t : Tmp} (h : o.dst ≠ some t) : (S (i + 1)).get t = (S i).get t := by
  obtain ⟨st1, e1, e2⟩ := q9c hcn (hT.step i o ho)
  dsimp only at e1 e2
  rw [e1, q4a h]
  rcases e2 with e2 | ⟨s, cs, _, e2⟩
  · rw [e2]
  · rw [e2]; rfl
theorem TextRun.var_step (hcn : CNat cf) (hT : TextRun E cf sites rid ops S Hh X) {i : Nat} {o : Oper} (ho : ops[i]? = some o) {s : Nat} (h : ¬ Wr sites rid ops S s i) : (S (i + 1)).var s = (S i).var s := by
  obtain ⟨st1, e1, e2⟩ := q9c hcn (hT.step i o ho)
  dsimp only at e1 e2
  rw [e1, St.put_var]
  rcases e2 with e2 | ⟨s', cs, ht, e2⟩
  · rw [e2]
  · rw [e2]
    exact q1x (fun e => h ⟨o, ho, by rw [← e]; exact ht⟩)
theorem TextRun.get_first (hcn : CNat cf) (hT : TextRun E cf sites rid ops S Hh X) {t : Tmp} : ∀ k, k ≤ ops.size → (∀ j o, j < k → ops[j]? = some o → o.dst ≠ some t) → (S k).get t = (S 0).get t
  | 0, _, _ => rfl
  | k + 1, hk, h => by
    have ho := Array.getElem?_eq_getElem (show k < ops.size by omega)
    rw [hT.get_step hcn ho (h k _ (by omega) ho)]
    exact hT.get_first hcn k (by omega) fun j o hj hjo => h j o (by omega) hjo
theorem TextRun.get_rest (hcn : CNat cf) (hT : TextRun E cf sites rid ops S Hh X) {t : Tmp} (i : Nat) : ∀ n, i + n ≤ ops.size → (∀ j o, i ≤ j → ops[j]? = some o → o.dst ≠ some t) → (S (i + n)).get t = (S i).get t
  | 0, _, _ => rfl
  | n + 1, hk, h => by
    have ho := Array.getElem?_eq_getElem (show i + n < ops.size by omega)
    rw [show i + (n + 1) = (i + n) + 1 by omega, hT.get_step hcn ho (h (i + n) _ (by omega) ho)]
    exact hT.get_rest hcn i n (by omega) h
theorem TextRun.var_rest (hcn : CNat cf) (hT : TextRun E cf sites rid ops S Hh X) {s : Nat} (i : Nat) : ∀ n, i + n ≤ ops.size → (∀ j, i ≤ j → j < i + n → ¬ Wr sites rid ops S s j) → (S (i + n)).var s = (S i).var s
  | 0, _, _ => rfl
  | n + 1, hk, h => by
    have ho := Array.getElem?_eq_getElem (show i + n < ops.size by omega)
    rw [show i + (n + 1) = (i + n) + 1 by omega, hT.var_step hcn ho (h (i + n) (by omega) (by omega))]
    exact hT.var_rest hcn i n (by omega) fun j h1 h2 => h j h1 (by omega)
structure After (sites : List (Nat × Nat × Nat)) (rid : Nat) (ops : Array Oper) (S : Nat → St) (M : Nat → Bool) (sa : St) : Prop where
  shape : Shape (S 0) sa
  old : ∀ t, (∀ j o, M j = true → ops[j]? = some o → o.dst ≠ some t) → sa.get t = (S 0).get t
  new : ∀ t j o, M j = true → ops[j]? = some o → o.dst = some t → sa.get t = (S ops.size).get t
  var : ∀ s k, k ≤ ops.size → (∀ j, j < ops.size → Wr sites rid ops S s j → (M j = true ↔ j < k)) → sa.var s = (S k).var s
theorem After.looks (hcn : CNat cf) (hT : TextRun E cf sites rid ops S Hh X) (hK : TextOK E sites rid ops d) {M : Nat → Bool} {sa : St} (hA : After sites rid ops S M sa) {i : Nat} {o : Oper} (ho : ops[i]? = some o) (hi : M i = false)
    (hb : ∀ j q, ops[j]? = some q → bef d i j = true → M j = true) (ha : ∀ j q, ops[j]? = some q → bef d j i = true → M j = false) {t : Tmp} (ht : t ∈ Den.looks ops o ∨ o.dst = some t) : sa.get t = (S i).get t := by
  have hlt := (Array.getElem?_eq_some_iff.1 ho).1
  by_cases hw : ∃ (j : Nat) (q : Oper), ops[j]? = some q ∧ q.dst = some t
  · obtain ⟨j, q, hq, hd⟩ := hw
    have huniq : ∀ j' q', ops[j']? = some q' → q'.dst = some t → j' = j := fun j' q' h1 h2 => by
      rcases Decidable.em (j' = j) with e | e
      · exact e
      · exact absurd h2 (hK.dsts j j' q q' t hq h1 (fun e' => e e'.symm) hd)
    have hjl := (Array.getElem?_eq_some_iff.1 hq).1
    by_cases e : j = i
    · subst e
      rw [hA.old t fun j' q' h1 h2 h3 => by rw [huniq j' q' h2 h3, hi] at h1; cases h1]
      exact (hT.get_first hcn j (by omega) fun j' q' h1 h2 h3 => by
        have := huniq j' q' h2 h3
        omega).symm
    · have hor : bef d i j = true ∨ bef d j i = true := by
        rcases ht with ht | ht
        · exact hK.slots i j o q t ho hq (fun e' => e e'.symm) hd ht
        · exact absurd hd (hK.dsts i j o q t ho hq (fun e' => e e'.symm) ht)
      rcases hor with hor | hor
      · have hji := hK.lt i j o q ho hq hor
        rw [hA.new t j q (hb j q hq hor) hq hd]
        have := hT.get_rest hcn (t := t) i (ops.size - i) (by omega) fun j' q' h1 h2 h3 => by
          have := huniq j' q' h2 h3
          omega
        rw [← this]
        congr 2
        omega
      · have hij := hK.lt j i q o hq ho hor
        rw [hA.old t fun j' q' h1 h2 h3 => by rw [huniq j' q' h2 h3, ha j q hq hor] at h1; cases h1]
        exact (hT.get_first hcn i (by omega) fun j' q' h1 h2 h3 => by
          have := huniq j' q' h2 h3
          omega).symm
  · have hno : ∀ (j : Nat) (q : Oper), ops[j]? = some q → q.dst ≠ some t := fun j q h1 h2 => hw ⟨j, q, h1, h2⟩
    rw [hA.old t fun j q _ h2 => hno j q h2]
    exact (hT.get_first hcn i (by omega) fun j q _ h2 => hno j q h2).symm
theorem After.touch (hK : TextOK E sites rid ops d) {M : Nat → Bool} {sa : St} (hA : After sites rid ops S M sa)
    (hp : ∀ (i j : Nat) (o q : Oper) (s : Nat) (w w' : Bool), i < j → ops[i]? = some o → ops[j]? = some q → q0j (S i) (siteAt sites rid i o) o = some (s, w) → q0j (S j) (siteAt sites rid j q) q = some (s, w') → (w || w') = true → bef d j i = true)
    {i : Nat} {o : Oper} (ho : ops[i]? = some o) (hi : M i = false)
    (hb : ∀ j q, ops[j]? = some q → bef d i j = true → M j = true) (ha : ∀ j q, ops[j]? = some q → bef d j i = true → M j = false) {s : Nat} {w : Bool} (ht : q0j (S i) (siteAt sites rid i o) o = some (s, w)) : sa.var s = (S i).var s := by
  have hlt := (Array.getElem?_eq_some_iff.1 ho).1
  refine hA.var s i (by omega) fun j hj hw => ?_
  obtain ⟨q, hq, hqt⟩ := hw
  rcases Nat.lt_trichotomy j i with h | h | h
  · exact ⟨fun _ => h, fun _ => hb j q hq (hp j i q o s true w h hq ho hqt ht (by simp))⟩
  · subst h
    exact ⟨fun e => (by rw [hi] at e; cases e), fun e => by omega⟩
  · exact ⟨fun e => (by rw [ha j q hq (hp i j o q s w true h ho hq ht hqt (by simp))] at e; cases e), fun e => by omega⟩
def memOf (listed : Array Bool) (j : Nat) : Bool := listed.getD j false
theorem mem_set {listed : Array Bool} {i j : Nat} (hi : i < listed.size) : memOf (listed.setIfInBounds i true) j = if j = i then true else memOf listed j := by
  unfold memOf
  rw [Array.getD_eq_getD_getElem?, Array.getD_eq_getD_getElem?]
  by_cases e : j = i
  · subst e
    rw [Array.getElem?_setIfInBounds_self_of_lt hi]
    simp
  · rw [Array.getElem?_setIfInBounds_ne (fun e' => e e'.symm), if_neg e]
theorem After.next (hcn : CNat cf) (hT : TextRun E cf sites rid ops S Hh X) (hK : TextOK E sites rid ops d) {M M' : Nat → Bool} {sa : St} (hA : After sites rid ops S M sa)
    {i : Nat} {o : Oper} (ho : ops[i]? = some o) (hi : M i = false) (hM' : ∀ j, M' j = if j = i then true else M j)
    (hself : ∀ t, o.dst = some t → sa.get t = (S i).get t) (htouch : ∀ s w, q0j (S i) (siteAt sites rid i o) o = some (s, w) → sa.var s = (S i).var s)
    (hord : ∀ s, Wr sites rid ops S s i → ∀ j, j < ops.size → Wr sites rid ops S s j → (j < i → M j = true) ∧ (i < j → M j = false))
    {st1 sa1 : St} (h1 : S (i + 1) = stPut st1 o.dst (X i)) (h2 : Eff2 o (siteAt sites rid i o) (S i) st1 sa sa1) : After sites rid ops S M' (stPut sa1 o.dst (X i)) := by
  have hlt := (Array.getElem?_eq_some_iff.1 ho).1
  have hshape : Shape (S 0) sa1 := by
    cases h2 with
    | none e e2 => rw [e2]; exact hA.shape
    | set s cs h e e2 => rw [e2]; exact hA.shape.setVar s cs
  have hSi := hT.shape hcn i (by omega)
  have hgs : ∀ t, sa1.get t = sa.get t := fun t => by
    cases h2 with
    | none e e2 => rw [e2]
    | set s cs h e e2 => rw [e2]; rfl
  have hgt : ∀ t, st1.get t = (S i).get t := fun t => by
    cases h2 with
    | none e e2 => rw [e]
    | set s cs h e e2 => rw [e]; rfl
  have hst1 : Shape (S 0) st1 := by
    cases h2 with
    | none e e2 => rw [e]; exact hSi
    | set s cs h e e2 => rw [e]; exact hSi.setVar s cs
  refine ⟨hshape.put _ _, ?_, ?_, ?_⟩
  · intro t h
    rw [q4a (h i o (by rw [hM']; simp) ho), hgs]
    exact hA.old t fun j q hj hq => h j q (by rw [hM', hj]; simp) hq
  · intro t j q hj hq hd
    by_cases e : j = i
    · subst e
      have : q = o := by
        rw [ho] at hq
        injection hq with hq
        exact hq.symm
      subst this
      have hn : (S ops.size).get t = (S (j + 1)).get t := by
        have := hT.get_rest hcn (t := t) (j + 1) (ops.size - (j + 1)) (by omega) fun j' q' h3 h4 h5 => by
          have hne : j' ≠ j := by omega
          exact hK.dsts j j' q q' t ho h4 (fun e => hne e.symm) hd h5
        rw [← this]
        congr 2
        omega
      rw [hn, h1, hd, q4z, q4z, hshape.N, hst1.N, hshape.slots, hst1.slots, hgs, hgt, hself t hd]
    · have hj' : M j = true := by
        rw [hM', if_neg e] at hj
        exact hj
      rw [q4a (fun e' => hK.dsts i j o q t ho hq (fun e2 => e e2.symm) e' hd), hgs]
      exact hA.new t j q hj' hq hd
  · intro s k hk hp
    rw [St.put_var]
    by_cases hw : Wr sites rid ops S s i
    · have hik : i < k := ((hp i hlt hw).1 (by rw [hM']; simp))
      have hbet : ∀ j, i + 1 ≤ j → j < i + 1 + (k - (i + 1)) → ¬ Wr sites rid ops S s j := fun j h3 h4 h5 => by
        have hj : j < ops.size := by omega
        have h6 := (hp j hj h5).2 (by omega)
        rw [hM', if_neg (by omega), (hord s hw j hj h5).2 (by omega)] at h6
        cases h6
      have hk' := hT.var_rest hcn (s := s) (i + 1) (k - (i + 1)) (by omega) hbet
      rw [show i + 1 + (k - (i + 1)) = k by omega] at hk'
      rw [hk', h1, St.put_var]
      obtain ⟨o', ho', ht'⟩ := hw
      have : o' = o := by
        rw [ho] at ho'
        injection ho' with ho'
        exact ho'.symm
      subst this
      have hv := htouch s true ht'
      cases h2 with
      | none e e2 => rw [e, e2, hv]
      | set s1 cs h e e2 =>
        rw [e, e2]
        by_cases es : s1 = s
        · subst es
          rw [q4w, q4w, hA.shape.L, hSi.L]
        · rw [q1x es, q1x es, hv]
    · have : sa1.var s = sa.var s := by
        cases h2 with
        | none e e2 => rw [e2]
        | set s1 cs h e e2 =>
          rw [e2]
          exact q1x fun e' => hw ⟨o, ho, by rw [← e']; exact h⟩
      rw [this]
      refine hA.var s k hk fun j hj hwj => ?_
      have hne : j ≠ i := fun e => hw (e ▸ hwj)
      have := hp j hj hwj
      rw [hM', if_neg hne] at this
      exact this
end
end Go.Den

/- DEN, part Zo: regions whose order is open (on): the next one, and the version of the small heap behind it; two stores that change places. -/
namespace Go.Den
open Go.RowKit
section
variable {E : Env} {cf : CallFn} {sites : List (Nat × Nat × Nat)} {rid : Nat} {ops : Array Oper} {d : DInfo} {S : Nat → St} {Hh : Nat → Heap} {X : Nat → SV} {vers : List Heap} {Hx : Heap}
def VerAt (E : Env) (sites : List (Nat × Nat × Nat)) (rid : Nat) (ops : Array Oper) (d : DInfo) (vers : List Heap) (Hx : Heap) (M : Nat → Bool) (H : Heap) : Prop :=
  ((∀ a b, d.swap = some (a, b) → M b = true → M a = true) ∧ vers[q0c E sites rid ops M]? = some H) ∨ ∃ a b, d.swap = some (a, b) ∧ M b = true ∧ M a = false ∧ H = Hx
def SwapH (E : Env) (cf : CallFn) (sites : List (Nat × Nat × Nat)) (rid : Nat) (ops : Array Oper) (d : DInfo) (S : Nat → St) (Hh : Nat → Heap) (X : Nat → SV) (Hx : Heap) : Prop :=
  ∀ a b, d.swap = some (a, b) → ∃ oa ob, ops[a]? = some oa ∧ ops[b]? = some ob ∧ TextStep E cf sites rid ops b ob ⟨S b, Hh a, X b, S (b + 1), Hx⟩ ∧ TextStep E cf sites rid ops a oa ⟨S a, Hx, X a, S (a + 1), Hh (b + 1)⟩ ∧
    ∀ i o, ops[i]? = some o → loudAt E sites rid ops i = false → reads o = true → acts ops (S i) o = true → heapy (S i) o = true → bef d i a = false → bef d b i = false → sameAt E o ⟨S i, Hh i, X i, S (i + 1), Hh (i + 1)⟩ Hx = true
theorem any_step (hT : TextRun E cf sites rid ops S Hh X) (hK : TextOK E sites rid ops d)
    (hwin : ∀ (i : Nat) (o : Oper), ops[i]? = some o → loudAt E sites rid ops i = false → reads o = true → acts ops (S i) o = true → heapy (S i) o = true → ∀ (lo hi m : Nat) (G : Heap), winOf i d.wins = some (lo, hi) → lo ≤ m → m ≤ hi → vers[m]? = some G →
      sameAt E o ⟨S i, Hh i, X i, S (i + 1), Hh (i + 1)⟩ G = true)
    (hvers : ∀ k, k ≤ ops.size → vers[louds E sites rid ops k]? = some (Hh k)) (hsw : SwapH E cf sites rid ops d S Hh X Hx) {M M' : Nat → Bool} {i : Nat} {o : Oper} {H : Heap} (ho : ops[i]? = some o) (h1 : M i = false) (hM' : ∀ j, M' j = if j = i then true else M j)
    (hb : ∀ j q, ops[j]? = some q → bef d i j = true → M j = true) (ha : ∀ j q, ops[j]? = some q → bef d j i = true → M j = false)
    (hcl : ∀ j k q r, ops[j]? = some q → ops[k]? = some r → M j = true → bef d j k = true → M k = true) (hv : VerAt E sites rid ops d vers Hx M H) :
    ∃ Hr Hr1 G1, TextStep E cf sites rid ops i o ⟨S i, Hr, X i, S (i + 1), Hr1⟩ ∧
      ((isLoud E (siteAt sites rid i o) o = true ∧ H = Hr ∧ G1 = Hr1) ∨
        (isLoud E (siteAt sites rid i o) o = false ∧ G1 = H ∧ ((reads o = false ∨ heapy (S i) o = false) ∨ (acts ops (S i) o = true → sameAt E o ⟨S i, Hr, X i, S (i + 1), Hr1⟩ H = true ∨ H = Hr)))) ∧
      VerAt E sites rid ops d vers Hx M' G1 := by
  have hlt := (Array.getElem?_eq_some_iff.1 ho).1
  have hlo : loudAt E sites rid ops i = isLoud E (siteAt sites rid i o) o := by unfold loudAt; rw [ho]
  have hget : ∀ j, j < ops.size → ops[j]? = some (ops[j]!) := fun j hj => by rw [Array.getElem?_eq_getElem hj]; simp [hj]
  have hadd := qbe (E := E) (sites := sites) (rid := rid) (p := M) (q := M') hlt (fun j hj => by rw [hM', if_neg hj]) h1 (by rw [hM']; simp)
  have inj : ∀ {a b a' b' : Nat}, d.swap = some (a, b) → d.swap = some (a', b') → a = a' ∧ b = b' := fun h h' => by
    rw [h] at h'
    injection h' with h'
    injection h' with e1 e2
    exact ⟨e1, e2⟩
  rcases hv with ⟨hno, hv⟩ | ⟨a, b, hs, hMb, hMa, rfl⟩
  · cases hld : loudAt E sites rid ops i
    · -- a quiet one
      refine ⟨Hh i, Hh (i + 1), H, hT.step i o ho, .inr ⟨by rw [← hlo]; exact hld, rfl, ?_⟩, .inl ⟨fun a b hs hm => ?_, ?_⟩⟩
      · cases hrd : reads o
        · exact .inl (.inl rfl)
        · cases hhp : heapy (S i) o
          · exact .inl (.inr rfl)
          · refine .inr fun hac => ?_
            have m1 : q0c E sites rid ops (fun j => bef d i j) ≤ q0c E sites rid ops M := q29 fun j hj hbf => hb j _ (hget j hj) hbf
            have m2 : q0c E sites rid ops M ≤ q0c E sites rid ops (fun j => !bef d j i) := q29 fun j hj hm => by
              cases hbf : bef d j i
              · rfl
              · rw [ha j _ (hget j hj) hbf] at hm; cases hm
            have e1 : q0c E sites rid ops (fun j => decide (j < i)) = louds E sites rid ops i := q12 (by omega) fun j _ _ => rfl
            have m3 : q0c E sites rid ops (fun j => bef d i j) ≤ louds E sites rid ops i := by
              rw [← e1]
              exact q29 fun j hj hbf => by simpa using hK.lt i j o _ ho (hget j hj) hbf
            have m4 : louds E sites rid ops i ≤ q0c E sites rid ops (fun j => !bef d j i) := by
              rw [← e1]
              refine q29 fun j hj hji => ?_
              have hji' : j < i := by simpa using hji
              cases hbf : bef d j i
              · rfl
              · have := hK.lt j i _ o (hget j hj) ho hbf
                omega
            rcases hK.wins i o ho hld hrd with hw | ⟨l, h, hw, hw1, hw2⟩
            · refine .inr ?_
              have : q0c E sites rid ops M = louds E sites rid ops i := by omega
              rw [this, hvers i (by omega)] at hv
              injection hv with hv
              exact hv.symm
            · exact .inl (hwin i o ho hld hrd hac hhp l h _ H hw (by omega) (by omega) hv)
      · obtain ⟨_, hbs, _, hlb, _⟩ := hK.swap a b hs
        have hne : b ≠ i := fun e => by rw [e, hld] at hlb; cases hlb
        rw [hM', if_neg hne] at hm
        rw [hM', hno a b hs hm]
        simp
      · rw [hadd, hld]
        simpa using hv
    · by_cases hsi : ∃ a, d.swap = some (a, i) ∧ M a = false
      · -- the second one of the two, ahead of the first
        obtain ⟨a, hs, hMa⟩ := hsi
        obtain ⟨hab, _, hla, _, _⟩ := hK.swap a i hs
        obtain ⟨oa, ob, g1, g2, g3, _, _⟩ := hsw a i hs
        have : ob = o := by
          rw [ho] at g2
          injection g2 with g2
          exact g2.symm
        subst this
        have hc : q0c E sites rid ops M = louds E sites rid ops a := q12 (by omega) fun j hj hjl => by
          have b1 : j < i → j ≠ a → M j = true := fun h hne => by
            rcases hK.loud i j ob _ ho (hget j hj) h hld hjl with h3 | h3
            · exact hb j _ (hget j hj) h3
            · exact absurd (inj h3 hs).1 hne
          rcases Nat.lt_trichotomy j a with h | h | h
          · rw [b1 (by omega) (by omega)]
            simp [h]
          · subst h
            rw [hMa]
            simp
          · have hna : ¬ j < a := by omega
            simp only [hna, decide_false]
            rcases Nat.lt_trichotomy j i with h' | h' | h'
            · exfalso
              rcases hK.loud j a _ oa (hget j hj) g1 h hjl hla with h3 | h3
              · have := hcl j a _ oa (hget j hj) g1 (b1 h' (by omega)) h3
                rw [hMa] at this
                cases this
              · have := (inj h3 hs).2
                omega
            · rw [h']; exact h1
            · rcases hK.loud j i _ ob (hget j hj) ho h' hjl hld with h3 | h3
              · exact ha j _ (hget j hj) h3
              · have := (inj h3 hs).1
                omega
        rw [hc, hvers a (by omega)] at hv
        injection hv with hv
        refine ⟨Hh a, Hx, Hx, g3, .inl ⟨by rw [← hlo]; exact hld, hv.symm, rfl⟩, .inr ⟨a, i, hs, by rw [hM']; simp, by rw [hM', if_neg (by omega)]; exact hMa, rfl⟩⟩
      · have hsi' : ∀ a, d.swap = some (a, i) → M a = true := fun a hs => by
          cases hm : M a
          · exact absurd ⟨a, hs, hm⟩ hsi
          · rfl
        have hc : q0c E sites rid ops M = louds E sites rid ops i := q12 (by omega) fun j hj hjl => by
          rcases Nat.lt_trichotomy j i with h | h | h
          · have : M j = true := by
              rcases hK.loud i j o _ ho (hget j hj) h hld hjl with h3 | h3
              · exact hb j _ (hget j hj) h3
              · exact hsi' j h3
            rw [this]
            simp [h]
          · subst h
            rw [h1]
            simp
          · have : M j = false := by
              rcases hK.loud j i _ o (hget j hj) ho h hjl hld with h3 | h3
              · exact ha j _ (hget j hj) h3
              · cases hm : M j
                · rfl
                · rw [hno i j h3 hm] at h1; cases h1
            have hn : ¬ j < i := by omega
            simp [this, hn]
        rw [hc, hvers i (by omega)] at hv
        injection hv with hv
        refine ⟨Hh i, Hh (i + 1), Hh (i + 1), hT.step i o ho, .inl ⟨by rw [← hlo]; exact hld, hv.symm, rfl⟩, .inl ⟨fun a b hs hm => ?_, ?_⟩⟩
        · by_cases e : b = i
          · subst e
            rw [hM', hsi' a hs]
            simp
          · rw [hM', if_neg e] at hm
            rw [hM', hno a b hs hm]
            simp
        · have h5 := hvers (i + 1) (by omega)
          rw [q6v, hld, if_pos rfl] at h5
          rw [hadd, hc, hld, if_pos rfl]
          exact h5
  · -- between the two
    obtain ⟨hab, hbs, hla, hlb, _⟩ := hK.swap a b hs
    obtain ⟨oa, ob, g1, g2, g3, g4, g5⟩ := hsw a b hs
    by_cases e : i = a
    · subst e
      have : oa = o := by
        rw [ho] at g1
        injection g1 with g1
        exact g1.symm
      subst this
      refine ⟨H, Hh (b + 1), Hh (b + 1), g4, .inl ⟨by rw [← hlo]; exact hla, rfl, rfl⟩, .inl ⟨fun a' b' hs' _ => ?_, ?_⟩⟩
      · rw [← (inj hs hs').1, hM']
        simp
      · have hc : q0c E sites rid ops M' = louds E sites rid ops (b + 1) := q12 (by omega) fun j hj hjl => by
          rw [hM']
          by_cases ej : j = i
          · have : j < b + 1 := by omega
            simp [ej]
            omega
          · rw [if_neg ej]
            rcases Nat.lt_trichotomy j b with h | h | h
            · have : M j = true := by
                rcases hK.loud b j ob _ g2 (hget j hj) h hlb hjl with h3 | h3
                · exact hcl b j ob _ g2 (hget j hj) hMb h3
                · exact absurd (inj h3 hs).1 ej
              have h4 : j < b + 1 := by omega
              simp [this, h4]
            · subst h
              simp [hMb]
            · have : M j = false := by
                rcases hK.loud j i _ oa (hget j hj) ho (by omega) hjl hla with h3 | h3
                · exact ha j _ (hget j hj) h3
                · have := (inj h3 hs).2
                  omega
              have h4 : ¬ j < b + 1 := by omega
              simp [this, h4]
        rw [hc]
        exact hvers (b + 1) (by omega)
    · cases hld : loudAt E sites rid ops i
      · refine ⟨Hh i, Hh (i + 1), H, hT.step i o ho, .inr ⟨by rw [← hlo]; exact hld, rfl, ?_⟩, .inr ⟨a, b, hs, by rw [hM', hMb]; simp, by rw [hM', if_neg (fun h => e h.symm)]; exact hMa, rfl⟩⟩
        cases hrd : reads o
        · exact .inl (.inl rfl)
        · cases hhp : heapy (S i) o
          · exact .inl (.inr rfl)
          · refine .inr fun hac => .inl (g5 i o ho hld hrd hac hhp ?_ ?_)
            · cases hbf : bef d i a
              · rfl
              · rw [hb a oa g1 hbf] at hMa; cases hMa
            · cases hbf : bef d b i
              · rfl
              · rw [hcl b i ob o g2 ho hMb hbf] at h1; cases h1
      · exfalso
        rcases Nat.lt_trichotomy i b with h | h | h
        · rcases hK.loud b i ob o g2 ho h hlb hld with h3 | h3
          · rw [hcl b i ob o g2 ho hMb h3] at h1; cases h1
          · exact e (inj h3 hs).1
        · rw [h, hMb] at h1; cases h1
        · rcases hK.loud i a o oa ho g1 (by omega) hld hla with h3 | h3
          · rw [hb a oa g1 h3] at hMa; cases hMa
          · have := (inj h3 hs).2
            omega
end
end Go.Den

/- DEN, part Zd: regions whose order is open (on): in any order. -/
namespace Go.Den
open Go.RowKit
section
variable {E : Env} {cf : CallFn} {sites : List (Nat × Nat × Nat)} {rid : Nat} {ops : Array Oper} {d : DInfo} {S : Nat → St} {Hh : Nat → Heap} {X : Nat → SV}
theorem FrameR.same {C : Ctx} {lam : Nat → Nat} {st st2 : St} {a : Act} (h : FrameR C lam st a) (hN : st2.N = st.N) (hg : ∀ t, st2.get t = st.get t) (hv : ∀ s, st2.var s = st.var s) : FrameR C lam st2 a := by
  refine ⟨by rw [hN]; exact h.size, h.defers, fun t => ?_, fun s cs hs => h.vars s cs (by rw [← hv]; exact hs)⟩
  have ht := h.slots t
  unfold SlotOk at ht ⊢
  rw [hg]
  cases hx : st.get t with
  | val v => rw [hx] at ht; exact ht
  | no => trivial
  | lp s off =>
    rw [hx] at ht
    exact ⟨ht.1, by rw [hv]; exact ht.2⟩
theorem qe1 {listed : Array Bool} {i : Nat} (h : i ∈ Region.ready .any ops listed) : ∃ o, ops[i]? = some o ∧ listed.getD i true = false ∧ ∀ e ∈ o.after.toList, Region.binds .any e = true → memOf listed e.on = true := by
  unfold Region.ready at h
  obtain ⟨h1, h2⟩ := List.mem_filter.1 h
  have hlt := List.mem_range.1 h1
  refine ⟨ops[i], Array.getElem?_eq_getElem hlt, ?_⟩
  rw [Array.getElem?_eq_getElem hlt] at h2
  simp only [Bool.and_eq_true, Bool.not_eq_true', Option.map_some, Option.getD_some] at h2
  refine ⟨h2.1, fun e he hb => ?_⟩
  have := Array.all_eq_true'.1 h2.2 e (by simpa using he)
  simpa [hb, memOf] using this
theorem ready_of {listed : Array Bool} {i : Nat} {o : Oper} (ho : ops[i]? = some o) (h1 : listed.getD i true = false) (h2 : ∀ e ∈ o.after.toList, Region.binds .any e = true → memOf listed e.on = true) : i ∈ Region.ready .any ops listed := by
  unfold Region.ready
  refine List.mem_filter.2 ⟨List.mem_range.2 (Array.getElem?_eq_some_iff.1 ho).1, ?_⟩
  rw [ho]
  simp only [Bool.and_eq_true, Bool.not_eq_true', Option.map_some, Option.getD_some]
  refine ⟨h1, Array.all_eq_true'.2 fun e he => ?_⟩
  cases hb : Region.binds .any e
  · rfl
  · exact h2 e (by simpa using he) hb
theorem q8o {listed : Array Bool} {i : Nat} (hi : i < listed.size) : listed.getD i true = memOf listed i := by
  unfold memOf
  rw [Array.getD_eq_getD_getElem?, Array.getD_eq_getD_getElem?, Array.getElem?_eq_getElem hi]
  rfl
theorem none_left (hK : TextOK E sites rid ops d) {listed : Array Bool} (hs : listed.size = ops.size) (hn : Region.ready .any ops listed = []) : ∀ i, i < ops.size → memOf listed i = true := by
  intro i
  induction i using Nat.strongRecOn with
  | _ i ih =>
    intro hi
    cases hm : memOf listed i
    · exfalso
      have ho := Array.getElem?_eq_getElem hi
      have := ready_of (listed := listed) ho (by rw [q8o (by omega)]; exact hm) fun e he hb => by
        have hlt := hK.back i _ ho e he hb
        exact ih e.on hlt (by omega)
      rw [hn] at this
      cases this
    · rfl
theorem qge {M M' : Nat → Bool} {i : Nat} (hi : M i = false) (hM' : ∀ j, M' j = if j = i then true else M j) : ∀ n, (List.range n).countP (fun j => !M j) = (List.range n).countP (fun j => !M' j) + (if i < n then 1 else 0)
  | 0 => by simp
  | n + 1 => by
    rw [List.range_succ, List.countP_append, List.countP_append, qge hi hM' n]
    by_cases e : n = i
    · subst e
      simp [hi, hM']
    · rw [show List.countP (fun j => !M' j) [n] = List.countP (fun j => !M j) [n] by simp [hM', e]]
      by_cases h : i < n
      · simp [h, show i < n + 1 by omega]; omega
      · have : ¬ i < n + 1 := by omega
        simp [h, this]
theorem any_walk (hcn : CNat cf) (hck : CallKOK E cf) (hT : TextRun E cf sites rid ops S Hh X) (hK : TextOK E sites rid ops d) {vers : List Heap} {Hx : Heap} {C0 : Ctx} {Q : Exit → Act → World → Prop} {ro : Option Nat}
    (hp : ∀ (i j : Nat) (o q : Oper) (s : Nat) (w w' : Bool), i < j → ops[i]? = some o → ops[j]? = some q → q0j (S i) (siteAt sites rid i o) o = some (s, w) → q0j (S j) (siteAt sites rid j q) q = some (s, w') → (w || w') = true → bef d j i = true)
    (hwin : ∀ (i : Nat) (o : Oper), ops[i]? = some o → loudAt E sites rid ops i = false → reads o = true → acts ops (S i) o = true → heapy (S i) o = true → ∀ (lo hi m : Nat) (G : Heap), winOf i d.wins = some (lo, hi) → lo ≤ m → m ≤ hi → vers[m]? = some G →
      sameAt E o ⟨S i, Hh i, X i, S (i + 1), Hh (i + 1)⟩ G = true)
    (hvers : ∀ k, k ≤ ops.size → vers[louds E sites rid ops k]? = some (Hh k)) (hsw : SwapH E cf sites rid ops d S Hh X Hx)
    (hq : ∀ a' w', Post E C0 (S ops.size) (Hh ops.size) a' w' → Q .normal a' w') :
    ∀ (fuel : Nat) (listed : Array Bool) (a : Act) (C : Ctx) (lam : Nat → Nat) (sa : St), listed.size = ops.size → Closed ops (fun j => memOf listed j = true) → (List.range ops.size).countP (fun j => !memOf listed j) = fuel →
      VerAt E sites rid ops d vers Hx (memOf listed) C.H → HR E C → Ev C0 C → FrameR C lam sa a → After sites rid ops S (memOf listed) sa → wpAnyIn (FW ro) 0 E.P .any ops Q fuel listed a C.w := by
  have fin : ∀ (listed : Array Bool) (a : Act) (C : Ctx) (lam : Nat → Nat) (sa : St), listed.size = ops.size → VerAt E sites rid ops d vers Hx (memOf listed) C.H → HR E C → Ev C0 C → FrameR C lam sa a → After sites rid ops S (memOf listed) sa →
      Region.ready .any ops listed = [] → Q .normal a C.w := by
    intro listed a C lam sa hs hv hr ev hf hA hn
    have hall := none_left hK hs hn
    have hcount : q0c E sites rid ops (memOf listed) = louds E sites rid ops ops.size := q12 (Nat.le_refl _) fun j hj _ => by simp [hall j hj, hj]
    have hv : vers[q0c E sites rid ops (memOf listed)]? = some C.H := by
      rcases hv with ⟨_, hv⟩ | ⟨a, b, hs, _, hMa, _⟩
      · exact hv
      · obtain ⟨hab, hbs, _⟩ := hK.swap a b hs
        rw [hall a (by omega)] at hMa
        cases hMa
    rw [hcount, hvers _ (Nat.le_refl _)] at hv
    injection hv with hv
    refine hq a C.w ⟨C, lam, rfl, hv.symm, hr, ev, hf.same ?_ (fun t => ?_) (fun s => ?_)⟩
    · rw [hA.shape.N, (hT.shape hcn ops.size (Nat.le_refl _)).N]
    · by_cases hw : ∃ (j : Nat) (q : Oper), ops[j]? = some q ∧ q.dst = some t
      · obtain ⟨j, q, h1, h2⟩ := hw
        exact (hA.new t j q (hall j (Array.getElem?_eq_some_iff.1 h1).1) h1 h2).symm
      · rw [hA.old t fun j q _ h2 h3 => hw ⟨j, q, h2, h3⟩]
        exact hT.get_first hcn _ (Nat.le_refl _) fun j q _ h2 h3 => hw ⟨j, q, h2, h3⟩
    · exact (hA.var s ops.size (Nat.le_refl _) fun j hj _ => ⟨fun _ => hj, fun _ => hall j hj⟩).symm
  intro fuel
  induction fuel with
  | zero =>
    intro listed a C lam sa hs hc hl hv hr ev hf hA
    have hn : Region.ready .any ops listed = [] := by
      cases hrd : Region.ready .any ops listed with
      | nil => rfl
      | cons i l =>
        exfalso
        obtain ⟨o, ho, h1, _⟩ := qe1 (ops := ops) (listed := listed) (i := i) (by rw [hrd]; exact List.mem_cons_self)
        have hlt := (Array.getElem?_eq_some_iff.1 ho).1
        rw [q8o (by omega)] at h1
        have := List.countP_eq_zero.1 hl i (List.mem_range.2 hlt)
        simp [h1] at this
    exact ⟨hn, fin listed a C lam sa hs hv hr ev hf hA hn⟩
  | succ fuel ih =>
    intro listed a C lam sa hs hc hl hv hr ev hf hA
    refine ⟨fin listed a C lam sa hs hv hr ev hf hA, fun i hi => ?_⟩
    obtain ⟨o, ho, h1, h2⟩ := qe1 hi
    have hlt := (Array.getElem?_eq_some_iff.1 ho).1
    rw [q8o (by omega)] at h1
    have hM' : ∀ j, memOf (listed.setIfInBounds i true) j = if j = i then true else memOf listed j := fun j => mem_set (by omega)
    have hb : ∀ j q, ops[j]? = some q → bef d i j = true → memOf listed j = true := fun j q hq' hbf => hc.bef hK i j o q ho hq' hbf h2
    have ha : ∀ j q, ops[j]? = some q → bef d j i = true → memOf listed j = false := fun j q hq' hbf => by
      cases hm : memOf listed j
      · rfl
      · have := hc.bef hK j i q o hq' ho hbf (hc j q hq' hm)
        rw [h1] at this
        cases this
    obtain ⟨Hr, Hr1, G1, hstep, hcond, hver⟩ := any_step hT hK hwin hvers hsw ho h1 hM' hb ha (fun j k q r hq' hr' hm hbf => hc.bef hK j k q r hq' hr' hbf (hc j q hq' hm)) hv
    have htouch : ∀ s w, q0j (S i) (siteAt sites rid i o) o = some (s, w) → sa.var s = (S i).var s := fun s w ht => hA.touch hK hp ho h1 hb ha ht
    have hSi := hT.shape hcn i (by omega)
    obtain ⟨st1, sa1, e1, e2, e3⟩ := step_any (Q := Q) (K := wpAnyIn (FW ro) 0 E.P .any ops Q fuel (listed.setIfInBounds i true)) (G1 := G1) hcn hck hstep ho hr hf
      (fun t ht => hA.looks hcn hT hK ho h1 hb ha (.inl ht)) (fun s w ht => ⟨htouch s w ht, by rw [hA.shape.L, hSi.L]⟩) hcond
    refine e3 fun a' w' hpost => ?_
    obtain ⟨C1, lam1, rfl, g2, g3, g4, g5⟩ := hpost
    have hA' := hA.next hcn hT hK ho h1 hM' (fun t ht => hA.looks hcn hT hK ho h1 hb ha (.inr ht)) htouch (fun s hw j hj hwj => by
      obtain ⟨o', ho', ht'⟩ := hw
      have : o' = o := by
        rw [ho] at ho'
        injection ho' with ho'
        exact ho'.symm
      subst this
      obtain ⟨q, hq', hqt⟩ := hwj
      exact ⟨fun h => hb j q hq' (hp j i q o' s true true h hq' ho hqt ht' rfl), fun h => ha j q hq' (hp i j o' q s true true h ho hq' ht' hqt rfl)⟩) e1 e2
    refine ih _ a' C1 lam1 _ (by simpa using hs) ?_ ?_ ?_ g3 (ev.trans g4) g5 hA'
    · intro j q hq' hm e he hbd
      rw [hM'] at hm
      rw [hM']
      by_cases ej : j = i
      · subst ej
        have : q = o := by
          rw [ho] at hq'
          injection hq' with hq'
          exact hq'.symm
        subst this
        rw [h2 e he hbd]
        simp
      · rw [if_neg ej] at hm
        rw [hc j q hq' hm e he hbd]
        simp
    · have := qge (M := memOf listed) (M' := memOf (listed.setIfInBounds i true)) h1 hM' ops.size
      rw [if_pos hlt] at this
      omega
    · rw [g2]
      exact hver
end
end Go.Den

/- DEN, part Zp: regions whose order is open (on): two stores into different objects may change places. -/
namespace Go.Den
open Go.RowKit
section
variable {E : Env} {cf : CallFn} {sites : List (Nat × Nat × Nat)} {rid : Nat} {ops : Array Oper} {d : DInfo} {S : Nat → St} {Hh : Nat → Heap} {X : Nat → SV} {vers : List Heap}
theorem store_obj {sz id ver i off : Nat} {v : AV} : ∃ f : Option HObj → Option HObj, ∀ H : Heap, A.store sz (.ptr id ver i off) v H = (f H[id]?).map fun o => H.set id o := by
  refine ⟨fun ob => bif A.fits sz v then match ob with
    | some (.row w z ty es) => bif w == ver then (es[i]?).bind fun e => (A.setElem e off v).map fun e' => .row w z ty (es.set i e') else none
    | _ => none else none, fun H => ?_⟩
  unfold A.store
  dsimp only
  cases A.fits sz v
  · rfl
  · simp only [cond_true]
    split
    · rename_i w z ty es hr
      rw [hr]
      dsimp only
      cases w == ver
      · rfl
      · simp only [cond_true]
        cases es[i]? with
        | none => rfl
        | some e =>
          simp only [Option.bind_some]
          cases A.setElem e off v <;> rfl
    · rename_i hn
      split
      · rename_i w z ty es hr
        exact absurd hr (hn w z ty es)
      · rfl
theorem qb0 {st : St} {o : Oper} {x : Nat} (h : qci st o = some x) : o.guard = none ∧ ∃ f : Option HObj → Option HObj, ∀ (cf : CallFn) (site : Option Nat) (H : Heap) (R : Type) (k : SV → St → Heap → Option R), opK E cf site o st H k = ((f H[x]?).map fun ob => H.set x ob).bind fun H' => k (.val .undef) st H' := by
  unfold qci at h
  split at h
  · rename_i hg
    refine ⟨hg, ?_⟩
    split at h
    · rename_i t q y ho
      split at h
      · rename_i id ver i off hq
        injection h with h
        subst h
        cases hy : st.eval E y with
        | none => exact ⟨fun _ => none, fun cf site H R k => by unfold opK; simp only [ho, hy]; rfl⟩
        | some w =>
          cases hz : E.size t with
          | none => exact ⟨fun _ => none, fun cf site H R k => by unfold opK; simp only [ho, hy, hz]; rfl⟩
          | some sz =>
            obtain ⟨f, hf⟩ := store_obj (sz := sz) (id := id) (ver := ver) (i := i) (off := off) (v := w)
            refine ⟨f, fun cf site H R k => ?_⟩
            rw [← hf H]
            unfold opK
            simp only [ho, hy, hz, hq]
            cases A.store sz (.ptr id ver i off) w H <;> rfl
      · cases h
    · cases h
  · cases h
theorem qfy {a b : Nat} {Hx : Heap} : ∀ (l : List Oper) (i : Nat) (rs : List Rec), qck E sites d rid ops a b Hx l i rs = true → ∀ (k : Nat) (o : Oper) (r : Rec), l[k]? = some o → rs[k]? = some r →
    isLoud E (siteAt sites rid (i + k) o) o = false → reads o = true → acts ops r.st o = true → heapy r.st o = true → bef d (i + k) a = false → bef d b (i + k) = false → sameAt E o r Hx = true := by
  intro l
  induction l with
  | nil => intro i rs _ k o r h; simp at h
  | cons o0 l ih =>
    intro i rs h k o r h1 h2 h3 h4 h5 h6 h7 h8
    cases rs with
    | nil => simp at h2
    | cons r0 rs =>
      unfold qck at h
      simp only [Bool.and_eq_true] at h
      cases k with
      | zero =>
        simp only [List.getElem?_cons_zero, Option.some.injEq] at h1 h2
        subst h1 h2
        have := h.1
        rw [Nat.add_zero] at h3 h7 h8
        simpa only [h3, h4, h5, h6, h7, h8, Bool.not_false, Bool.and_self, cond_true] using this
      | succ k =>
        have e : i + 1 + k = i + (k + 1) := by omega
        rw [← e] at h3 h7 h8
        exact ih (i + 1) rs h.2 k o r (by simpa using h1) (by simpa using h2) h3 h4 h5 h6 h7 h8
theorem swap_ok (hT : TextRun E cf sites rid ops S Hh X) (hK : TextOK E sites rid ops d) (hvers : ∀ k, k ≤ ops.size → vers[louds E sites rid ops k]? = some (Hh k)) {tr : List Rec}
    (hat : ∀ (k : Nat) (o : Oper), ops[k]? = some o → tr[k]? = some ⟨S k, Hh k, X k, S (k + 1), Hh (k + 1)⟩) (h : swapOk E sites d rid ops tr = true) : ∃ Hx, SwapH E cf sites rid ops d S Hh X Hx := by
  cases hs : d.swap with
  | none => exact ⟨[], fun a b e => by rw [hs] at e; cases e⟩
  | some p =>
    obtain ⟨a, b⟩ := p
    obtain ⟨hab, hbs, hla, hlb, hcnt⟩ := hK.swap a b hs
    unfold swapOk at h
    rw [hs] at h
    dsimp only at h
    split at h
    · rename_i oa ob ra rb ha hb hra hrb
      rw [hat a oa ha] at hra
      rw [hat b ob hb] at hrb
      injection hra with hra
      injection hrb with hrb
      subst hra hrb
      dsimp only at h
      split at h
      · rename_i x y hx hy
        split at h
        · rename_i Hx hHx
          simp only [Bool.and_eq_true, Bool.not_eq_true'] at h
          have hne : x ≠ y := fun e => by
            rw [e] at h
            have := h.1
            simp at this
          obtain ⟨ga, fa, hfa⟩ := qb0 (E := E) hx
          obtain ⟨gb, fb, hfb⟩ := qb0 (E := E) hy
          have ba : S (a + 1) = stPut (S a) oa.dst (X a) ∧ X a = .val .undef ∧ ∃ oA, fa (Hh a)[x]? = some oA ∧ Hh (a + 1) = (Hh a).set x oA := by
            cases hT.step a oa ha with
            | plain st1 _ h1 h2 =>
              rw [hfa] at h1
              simp only [Option.bind_eq_some_iff, Option.map_eq_some_iff, Option.some.injEq, Prod.mk.injEq] at h1
              obtain ⟨H1, ⟨oA, e1, rfl⟩, e2, rfl, e3⟩ := h1
              exact ⟨h2, e2.symm, oA, e1, e3.symm⟩
            | on j w v hg => rw [ga] at hg; cases hg
            | off j w b hg => rw [ga] at hg; cases hg
          have bb : S (b + 1) = stPut (S b) ob.dst (X b) ∧ X b = .val .undef ∧ ∃ oB, fb (Hh b)[y]? = some oB ∧ Hh (b + 1) = (Hh b).set y oB := by
            cases hT.step b ob hb with
            | plain st1 _ h1 h2 =>
              rw [hfb] at h1
              simp only [Option.bind_eq_some_iff, Option.map_eq_some_iff, Option.some.injEq, Prod.mk.injEq] at h1
              obtain ⟨H1, ⟨oB, e1, rfl⟩, e2, rfl, e3⟩ := h1
              exact ⟨h2, e2.symm, oB, e1, e3.symm⟩
            | on j w v hg => rw [gb] at hg; cases hg
            | off j w b hg => rw [gb] at hg; cases hg
          obtain ⟨a1, a2, oA, a3, a4⟩ := ba
          obtain ⟨b1, b2, oB, b3, b4⟩ := bb
          have hl1 : louds E sites rid ops b = louds E sites rid ops (a + 1) := by
            have e1 : q0c E sites rid ops (fun j => decide (j < b)) = louds E sites rid ops b := q12 (by omega) fun j _ _ => rfl
            have e2 : q0c E sites rid ops (fun j => decide (j < a)) = louds E sites rid ops a := q12 (by omega) fun j _ _ => rfl
            rw [q6v, hla, if_pos rfl, ← e1, ← e2]
            exact hcnt
          have hH : Hh b = Hh (a + 1) := by
            have k1 := hvers b (by omega)
            have k2 := hvers (a + 1) (by omega)
            rw [hl1, k2] at k1
            injection k1 with k1
            exact k1.symm
          have hxe : fb (Hh a)[y]? = some oB := by
            rw [hH, a4, List.getElem?_set_ne hne] at b3
            exact b3
          have hHx' : Hx = (Hh a).set y oB := by
            unfold storeH at hHx
            rw [hfb, hxe] at hHx
            simp only [Option.map_some, Option.bind_some, Option.some.injEq] at hHx
            exact hHx.symm
          subst hHx'
          refine ⟨(Hh a).set y oB, fun a' b' hs' => ?_⟩
          rw [hs] at hs'
          injection hs' with hs'
          injection hs' with e1 e2
          subst e1 e2
          refine ⟨oa, ob, ha, hb, .plain (S b) gb ?_ b1, .plain (S a) ga ?_ a1, fun i o ho h1 h2 h3 h4 h5 h6 => ?_⟩
          · rw [hfb, hxe, b2]
            rfl
          · rw [hfa, List.getElem?_set_ne (fun e => hne e.symm), a3, a2, b4, hH, a4]
            simp only [Option.map_some, Option.bind_some, List.set_comm _ _ (fun e : y = x => hne e.symm)]
          · unfold loudAt at h1
            rw [ho] at h1
            exact qfy ops.toList 0 tr h.2 i o _ (by rw [Array.getElem?_toList]; exact ho) (hat i o ho) (by rw [Nat.zero_add]; exact h1) h2 h3 h4 (by rw [Nat.zero_add]; exact h5) (by rw [Nat.zero_add]; exact h6)
        · cases h
      · cases h
    · cases h
end
end Go.Den

/- DEN, part Ze: regions whose order is open: done. -/
namespace Go.Den
open Go.RowKit
section
variable {E : Env} {cf : CallFn}
theorem draw_ok (hcn : CNat cf) (hck : CallKOK E cf) (hm : E.P.follows .mixedOrders = true) (fa : FAnn) : DrawOK E cf fa (q1f E fa.sites) := by
  intro rid ops d st C lam a st' H' Q hok h hr hf hq ro
  obtain ⟨rs, hrun, hd⟩ := qc7 hcn C.H _ _ _ _ _ h
  rw [List.reverse_nil, List.nil_append] at hd
  have hK := textOK hok
  obtain ⟨s0, s1, s2⟩ := qe5 hrun
  have hat : ∀ (k : Nat) (o : Oper), ops[k]? = some o → rs[k]? = some ⟨q1s rs st' k, heapAt rs H' k, valAt rs k, q1s rs st' (k + 1), heapAt rs H' (k + 1)⟩ ∧ TextStep E cf fa.sites rid ops k o ⟨q1s rs st' k, heapAt rs H' k, valAt rs k, q1s rs st' (k + 1), heapAt rs H' (k + 1)⟩ := fun k o ho => by
    have := run_at hrun (k := k) (o := o) (by rw [Array.getElem?_toList]; exact ho)
    rw [Nat.zero_add] at this
    exact this
  have hT : TextRun E cf fa.sites rid ops (q1s rs st') (heapAt rs H') (valAt rs) := ⟨fun i o ho => (hat i o ho).2⟩
  unfold drawOk at hd
  simp only [Bool.and_eq_true] at hd
  have hend : q1s rs st' ops.size = st' ∧ heapAt rs H' ops.size = H' := by
    have : rs[ops.size]? = none := List.getElem?_eq_none (by rw [s2, Array.length_toList]; exact Nat.le_refl _)
    unfold q1s heapAt
    rw [this]
    exact ⟨rfl, rfl⟩
  refine wpIn_region_any hm ?_
  let C1 : Ctx := { C with w := { C.w with drawn := C.w.drawn + 1 } }
  have ev : EvL C C1 := ⟨⟨rfl, rfl, rfl, Nat.le_refl _, fun _ _ _ => ⟨rfl, rfl⟩, Nat.le_refl _, fun _ _ v' sz' ty' es' h => ⟨v', es', h, Nat.le_refl _, fun _ => ⟨rfl, fun cells t fr h => ⟨cells, t, fr, h, rfl⟩⟩⟩,
    fun _ _ o _ h => ⟨⟨o, h, rfl⟩, rfl⟩⟩, fun _ _ _ h => ⟨rfl, h⟩⟩
  have hr1 : HR E C1 := hr.step ev.ev (fun id v sz ty es h => .inl ⟨h, rfl, (hr.row id v sz ty es h).2.2.1, rfl⟩) (fun id o ho h => .inl ⟨h, rfl, (hr.oth id o ho h).1, rfl⟩) hr.new
  obtain ⟨Hx, hsw⟩ := swap_ok hT hK (vers := C.H :: versOf E fa.sites rid ops.toList 0 rs) (fun k hk => qb4 hcn hrun hk) (fun k o ho => (hat k o ho).1) hd.1.2
  refine any_walk hcn hck hT hK (Hx := Hx) (vers := C.H :: versOf E fa.sites rid ops.toList 0 rs) (C0 := C) (Q := Q) ?_ ?_ (fun k hk => qb4 hcn hrun hk) hsw ?_ ops.size _ a C1 lam st (by simp) ?_ ?_ ?_ hr1 ev.ev (hf.ev ev) ?_
  · intro i j o q s w w' hij hi hj h1 h2 hw
    have := qij ops.toList 0 rs hd.1.1 i j o q _ _ s w w' hij (by rw [Array.getElem?_toList]; exact hi) (by rw [Array.getElem?_toList]; exact hj) (hat i o hi).1 (hat j q hj).1 (by rw [Nat.zero_add]; exact h1) (by rw [Nat.zero_add]; exact h2) hw
    simpa using this
  · intro i o ho h1 h2 h3 h4 lo hi m G hw h5 h6 hG
    have hw' := hd.2
    split at hw'
    · rename_i hnil
      rw [hnil] at hw
      cases hw
    · have hl : isLoud E (siteAt fa.sites rid i o) o = false := by
        unfold loudAt at h1
        rw [ho] at h1
        exact h1
      exact qim ops.toList 0 rs hw' i o _ lo hi m G (by rw [Array.getElem?_toList]; exact ho) (hat i o ho).1 (by rw [Nat.zero_add]; exact hw) (by rw [Nat.zero_add]; exact hl) h2 h3 h4 h5 h6 hG
  · intro a' w' hp
    rw [hend.1, hend.2] at hp
    exact hq a' w' hp
  · intro i o ho hm
    exfalso
    have : memOf (Array.replicate ops.size false) i = false := by
      unfold memOf
      rw [Array.getD_eq_getD_getElem?, Array.getElem?_replicate]
      split <;> rfl
    rw [this] at hm
    cases hm
  · rw [List.countP_eq_length_filter, List.filter_eq_self.2, List.length_range]
    intro i hi
    have : memOf (Array.replicate ops.size false) i = false := by
      unfold memOf
      rw [Array.getD_eq_getD_getElem?, Array.getElem?_replicate]
      split <;> rfl
    rw [this]
    rfl
  · have : q0c E fa.sites rid ops (memOf (Array.replicate ops.size false)) = louds E fa.sites rid ops 0 := q12 (Nat.zero_le _) fun j hj _ => by
      have : memOf (Array.replicate ops.size false) j = false := by
        unfold memOf
        rw [Array.getD_eq_getD_getElem?, Array.getElem?_replicate]
        split <;> rfl
      rw [this]
      simp
    refine .inl ⟨fun a b hs hm => ?_, ?_⟩
    · exfalso
      have : memOf (Array.replicate ops.size false) b = false := by
        unfold memOf
        rw [Array.getD_eq_getD_getElem?, Array.getElem?_replicate]
        split <;> rfl
      rw [this] at hm
      cases hm
    · rw [this]
      rfl
  · have hmem : ∀ j, memOf (Array.replicate ops.size false) j = false := fun j => by
      unfold memOf
      rw [Array.getD_eq_getD_getElem?, Array.getElem?_replicate]
      split <;> rfl
    refine ⟨?_, fun t _ => ?_, fun t j o hj => ?_, fun s k hk hp => ?_⟩
    · rw [s0]; exact Shape.refl _
    · rw [s0]
    · rw [hmem] at hj; cases hj
    · have := hT.var_rest hcn (s := s) 0 k (by omega) fun j _ hj hw => by
        have := (hp j (by omega) hw).2 (by omega)
        rw [hmem] at this
        cases this
      rw [Nat.zero_add, s0] at this
      exact this.symm
end
end Go.Den

/- DEN, part Zf: calls do what is read off the code. -/
namespace Go.Den
open Go.RowKit
section
variable {E : Env} {cf : CallFn}
theorem qep {f : FuncId} (hp : E.pol f = .plain) (hcf : CallOK E cf) {args : List AV} {C : Ctx} {us : Array Value} {v : AV} {H' : Heap} (h : callK E cf f args C.H (fun v G => some (v, G)) = some (v, H')) (hr : HR E C) (hv : Vs C false args us.toList) :
    Lands E.P f us C.w (GivesL E C v H') := by
  unfold callK at h
  rw [hp] at h
  dsimp only at h
  cases hlt : Nat.blt f yBase
  · rw [hlt] at h; cases h
  · rw [hlt] at h
    exact (hcf.call f args C.strip us v H' hlt h (q64 hr) q35 (hv.evV q3o)).mono fun u w hg => q4s hr hg
theorem yieldK_ok (hcf : CallOK E cf) : ∀ (id : Nat) (args : List AV) (C : Ctx) (us : Array Value) (v : AV) (H' : Heap), cf (AV × Heap) (yBase + id) args C.H (fun v G => some (v, G)) = some (v, H') → HR E C → Vs C false args us.toList → YLands E C id us (GivesL E C v H') :=
  fun id args C us v H' h hr hv => qin hr (hcf.yield id args C.strip us v H' h (q64 hr) q35 (hv.evV q3o))
theorem qg1 {n : Nat} {R : Type} {f : FuncId} {args : List AV} {k : AV → Heap → Option R} {r : R} (h : callF E n R f args [] k = some r) : Nat.blt f yBase = true := by
  cases n with
  | zero => cases h
  | succ n =>
    cases hlt : Nat.blt f yBase
    · unfold callF at h
      rw [hlt] at h
      simp only [Bool.not_false, cond_true] at h
      unfold q40 at h
      simp at h
    · rfl
def Ctx.outer (w : World) (κ : Nat → Role) : Ctx := ⟨w, κ, fun _ => (0, 0), []⟩
theorem outer_hr {w : World} {κ : Nat → Role} (hκ : ∀ b, w.heap.size ≤ b → κ b = .oth) (hg : ∀ g cs, E.glob g = some cs → V (.outer w κ) true (.rop cs) (.pointer (some ⟨g, 0, none⟩))) : HR E (.outer w κ) :=
  ⟨fun id v sz ty es h => by simp [Ctx.outer] at h, fun id o _ h => by simp [Ctx.outer] at h, hκ, hg, fun id v sz ty es h => by simp [Ctx.outer] at h⟩
theorem qfh {n : Nat} (hcf : CallOK E (callF E n)) {f : FuncId} {args : List AV} {us : Array Value} {v : AV} {w : World} {κ : Nat → Role} (hr : HR E (.outer w κ)) (hn : (Ctx.outer w κ).noLoc) (hv : Vs (.outer w κ) false args us.toList)
    (h : answer E n f args = some v) : Lands E.P f us w fun u w' => ∃ C', C'.w = w' ∧ V C' false v u ∧ Ev (.outer w κ) C' ∧ HR E C' := by
  unfold answer at h
  rw [q1z n] at h
  simp only [Option.bind_eq_some_iff] at h
  obtain ⟨⟨x, H'⟩, h1, h2⟩ := h
  simp only [Option.some.injEq] at h2
  subst h2
  refine (hcf.call f args (.outer w κ) us x H' (qg1 h1) h1 hr hn hv).mono fun u w' hg => ?_
  obtain ⟨C', g1, _, g3, g4, g5, _⟩ := hg
  exact ⟨C', g1, g3, g5, g4⟩
end
end Go.Den

/- DEN, part Zl: functions that are read as a whole ('prim'): entries of the model. -/
namespace Go.Den
open Go.RowKit
def PrimOK (E : Env) (f : FuncId) (F : List AV → Heap → Option (AV × Heap)) : Prop :=
  ∀ (args : List AV) (C : Ctx) (us : Array Value) (v : AV) (H' : Heap), F args C.H = some (v, H') → HR E C → C.noLoc → Vs C false args us.toList → Lands E.P f us C.w (Gives E C v H')
section
variable {E : Env} {cf : CallFn}
theorem qhj {f : FuncId} {F : List AV → Heap → Option (AV × Heap)} (hp : E.pol f = .prim F) (hF : PrimOK E f F) {args : List AV} {C : Ctx} {us : Array Value} {v : AV} {H' : Heap} (h : callK E cf f args C.H (fun v G => some (v, G)) = some (v, H')) (hr : HR E C) (hv : Vs C false args us.toList) :
    Lands E.P f us C.w (GivesL E C v H') := by
  unfold callK at h
  rw [hp] at h
  dsimp only at h
  cases hx : F args C.H with
  | none => rw [hx] at h; cases h
  | some p =>
    rw [hx] at h
    simp only [Option.some.injEq, Prod.mk.injEq] at h
    obtain ⟨h1, h2⟩ := h
    exact (hF args C.strip us v H' (hx.trans (by rw [← h1, ← h2])) (q64 hr) q35 (hv.evV q3o)).mono fun u w hg => q4s hr hg
theorem qeq {f : FuncId} {F : List AV → Option AV} (hp : E.pol f = .still F) (hF : PrimOK E f (pureF F)) {args : List AV} {C : Ctx} {us : Array Value} {v : AV} {H' : Heap} (h : callK E cf f args C.H (fun v G => some (v, G)) = some (v, H')) (hr : HR E C) (hv : Vs C false args us.toList) :
    Lands E.P f us C.w (GivesL E C v H') := by
  unfold callK at h
  rw [hp] at h
  dsimp only at h
  cases hx : pureF F args C.H with
  | none => rw [hx] at h; cases h
  | some p =>
    rw [hx] at h
    simp only [Option.some.injEq, Prod.mk.injEq] at h
    obtain ⟨h1, h2⟩ := h
    exact (hF args C.strip us v H' (hx.trans (by rw [← h1, ← h2])) (q64 hr) q35 (hv.evV q3o)).mono fun u w hg => q4s hr hg
def PolOK (E : Env) (f : FuncId) : Pol → Prop
  | .plain => True
  | .prim F => PrimOK E f F
  | .still F => PrimOK E f (pureF F)
theorem q4m (hE : EnvOK E) (hm : E.P.follows .mixedOrders = true) (hp : ∀ f, PolOK E f (E.pol f)) : ∀ n, CallOK E (callF E n)
  | 0 => ⟨fun f args C us v H' _ h => (by cases h), fun id args C us v H' h => (by cases h)⟩
  | n + 1 => by
    have hck : CallKOK E (callF E n) := ⟨fun f args C us v H' h hr hv => by
      have h0 := hp f
      cases h1 : E.pol f with
      | plain => exact qep h1 (q4m hE hm hp n) h hr hv
      | prim F => rw [h1] at h0; exact qhj h1 h0 h hr hv
      | still F => rw [h1] at h0; exact qeq h1 h0 h hr hv, yieldK_ok (q4m hE hm hp n)⟩
    exact qhi hE n hck fun fa => draw_ok (q1z n) hck hm fa
theorem q86 (hE : EnvOK E) (hm : E.P.follows .mixedOrders = true) (hp : ∀ f, E.pol f = .plain ∨ ∃ F, E.pol f = .prim F ∧ PrimOK E f F) (n : Nat) : CallOK E (callF E n) :=
  q4m hE hm (fun f => by
    rcases hp f with h1 | ⟨F, h1, h2⟩
    · rw [h1]; trivial
    · rw [h1]; exact h2) n
theorem q8f {f : FuncId} {fn : Func} {e : Array Value → Sem Value} (hf : E.P.funcs[f]? = some fn) (hname : (fn.name == "runtime.NumGoroutine") = false)
    (hb : fn.body.isNone = true) (hn : Extern.findNext fn = none) (he : Extern.find fn = some e) {F : List AV → Heap → Option (AV × Heap)}
    (h : ∀ (args : List AV) (C : Ctx) (us : Array Value) (v : AV) (H' : Heap), F args C.H = some (v, H') → HR E C → Vs C false args us.toList → H' = C.H ∧ ∃ u, (e us).run E.P C.w = .ok u C.w ∧ V C false v u) : PrimOK E f F :=
  fun args C us v H' h1 hr hl hv => by
    obtain ⟨rfl, u, g1, g2⟩ := h args C us v H' h1 hr hv
    exact .inr ⟨u, C.w, by rw [run_callFunc_extern hf hname hb hn he, g1]; rfl, C, rfl, rfl, g2, hr, Ev.refl C, hl⟩
/-! ### bytes -/
def q3a : List AV → Option (List Int)
  | [] => some []
  | .int .u8 n :: r => match q3a r with
    | some l => some (n :: l)
    | none => none
  | _ :: _ => none
def byteOf (n : Int) : UInt8 := n.toNat.toUInt8
def q83 (x : AV) (H : Heap) : Option (List UInt8) :=
  match x with
  | .str l => some l
  | _ => match A.read 1 x H with
    | some es => match q3a es with
      | some l => some (l.map byteOf)
      | none => none
    | none => none
theorem qa9 {C : Ctx} {p : Bool} : ∀ {es : List AV} {l : List Int} {us : List Value}, q3a es = some l → Vs C p (es.flatMap AV.cells) us → us = l.map fun n => Value.int .u8 n
  | [], _, _, h, hv => by
    simp only [q3a, Option.some.injEq] at h
    subst h
    cases hv
    rfl
  | e :: es, l, us, h, hv => by
    unfold q3a at h
    split at h
    · rename_i h0; cases h0
    · rename_i n r h0
      cases h0
      split at h
      · rename_i l' hl'
        simp only [Option.some.injEq] at h
        subst h
        rw [List.flatMap_cons] at hv
        change Vs C p (.int .u8 n :: es.flatMap AV.cells) us at hv
        cases hv with
        | cons _ _ u _ us h1 h2 =>
          rw [h1.int_inv, qa9 hl' h2]
          rfl
      · cases h
    · cases h
theorem qeo (l : List Int) : Lib.bytesOf l = l.map byteOf := rfl
theorem q5s {P : Program} {w : World} {a : Addr} {es : List AV} {l : List Int} {us : List Value} {C : Ctx} {p : Bool} (hb : q3a es = some l) (hv : Vs C p (es.flatMap AV.cells) us) (hc : ∀ j u, us[j]? = some u → w.cell? (a.add j) = some u) :
    (Extern.Bytes.loadBytes a l.length .empty).run P w = .ok ⟨(l.map byteOf).toArray⟩ w := by
  have e := qa9 hb hv
  subst e
  have := Lib.run_loadBytesX (P := P) w l a .empty fun j x hx => hc j _ (by rw [List.getElem?_map, hx]; rfl)
  rw [this]
  congr 1
  apply ByteArray.ext
  simp [qeo]
theorem q4x : ∀ {es : List AV} {l : List Int}, q3a es = some l → l.length = es.length
  | [], _, h => by
    simp only [q3a, Option.some.injEq] at h
    subst h; rfl
  | e :: es, l, h => by
    unfold q3a at h
    split at h
    · rename_i h0; cases h0
    · rename_i n r h0
      cases h0
      split at h
      · rename_i l' hl'
        simp only [Option.some.injEq] at h
        subst h
        simp [q4x hl']
      · cases h
    · cases h
theorem qen {C : Ctx} (hr : HR E C) {x : AV} {l : List UInt8} {u0 : Value} (h : q83 x C.H = some l) (hx : V C false x u0) : (Extern.Bytes.bytesOf u0).run E.P C.w = .ok ⟨l.toArray⟩ C.w := by
  unfold q83 at h
  split at h
  · simp only [Option.some.injEq] at h
    subst h
    obtain ⟨s, h1, rfl⟩ := hx.str_inv
    subst h1
    simp [Extern.Bytes.bytesOf]
  · split at h
    · rename_i es hes
      split at h
      · rename_i ns hns
        simp only [Option.some.injEq] at h
        subst h
        have hlen := q4x hns
        unfold A.read at hes
        split at hes
        · cases hx
          simp only [Option.some.injEq] at hes
          subst hes
          simp only [q3a, Option.some.injEq] at hns
          subst hns
          simp [Extern.Bytes.bytesOf]
          rfl
        · rename_i z es' _
          split at hes
          · rename_i hz
            subst hz
            simp only [Option.some.injEq] at hes
            subst hes
            cases hx with
            | sh _ _ _ a c us h1 h2 h3 h4 h5 h6 =>
              have := q5s (P := E.P) hns h1 h3
              rw [hlen] at this
              simpa [Extern.Bytes.bytesOf] using this
          · simp at hes
        · rename_i id ver off n cap _
          split at hes
          · rename_i w z ty es' hrow
            split at hes
            · rename_i hc
              obtain ⟨rfl, rfl, hle⟩ := hc
              simp only [Option.some.injEq] at hes
              obtain ⟨hz, hg, hk2, cur, fr, us, hcur, hfz, hus, hcell⟩ := hr.row id w _ ty es' hrow
              have hgd : ∀ e ∈ (es'.drop off).take n, Good 1 e := fun e he => hg e (List.mem_of_mem_drop (List.mem_of_mem_take he))
              have hnl : ((es'.drop off).take n).length = n := by rw [List.length_take, List.length_drop]; omega
              have hn : es.length = n := by rw [← hes, hnl]
              cases hx with
              | sl _ _ _ _ _ _ g0 g1 =>
                obtain ⟨a, c, hu, g2, g3, g4, g5, g6⟩ := (g1.2 w _ ty es' hrow).2 rfl
                subst hu
                have hfl : es'.flatMap AV.cells = (es'.take off).flatMap AV.cells ++ (((es'.drop off).take n).flatMap AV.cells ++ ((es'.drop off).drop n).flatMap AV.cells) := by
                  rw [← List.flatMap_append, List.take_append_drop, ← List.flatMap_append, List.take_append_drop]
                have hl1 : ((es'.take off).flatMap AV.cells).length = off * 1 := by
                  rw [q0d (fun x hx => hg x (List.mem_of_mem_take hx)), List.length_take, Nat.min_eq_left (by omega)]
                have hl2 : (((es'.drop off).take n).flatMap AV.cells).length = n * 1 := by rw [q0d hgd, hnl]
                have hv := hus
                rw [hfl] at hv
                have hv2 := hv.split.2.split.1
                rw [hl1, hl2, hes] at hv2
                have hwl : ((us.drop (off * 1)).take (n * 1)).length = n := by
                  rw [hv2.length, q0d (fun e he => hgd e (hes ▸ he)), hn, Nat.mul_one]
                have := q5s (P := E.P) (w := C.w) (a := a) hns hv2 (fun j u hju => by
                  have hpos : 0 < c := by
                    rcases Nat.eq_zero_or_pos c with h0 | h0
                    · have : n = 0 := by omega
                      subst this
                      simp at hju
                    · exact h0
                  have ha := g5 hpos
                  subst ha
                  rw [List.getElem?_take] at hju
                  split at hju
                  · rw [List.getElem?_drop] at hju
                    have := hcell _ _ hju
                    rw [Addr.add_lit]
                    simp only [World.cell?, hcur, Option.isSome_none, Bool.false_eq_true, if_false]
                    rw [show (C.ρ id).2 + off * 1 + j = (C.ρ id).2 + (off * 1 + j) by omega]
                    exact this
                  · simp at hju)
                rw [hlen, hn] at this
                simpa [Extern.Bytes.bytesOf] using this
            · simp at hes
          · simp at hes
        · simp at hes
      · cases h
    · cases h
def compareF (args : List AV) (H : Heap) : Option (AV × Heap) :=
  match args with
  | [a, b] => match q83 a H with
    | some x => match q83 b H with
      | some y => some (.int .i64 (Lib.compareBytes x y), H)
      | none => none
    | none => none
  | _ => none
def sameF (args : List AV) (H : Heap) : Option (AV × Heap) :=
  match args with
  | [a] => some (a, H)
  | _ => none
theorem q97 {f : FuncId} {fn : Func} (hf : E.P.funcs[f]? = some fn) (hname : (fn.name == "runtime.NumGoroutine") = false)
    (hb : fn.body.isNone = true) (hn : Extern.findNext fn = none) (he : Extern.find fn = some Extern.AbiNoEscape.same) : PrimOK E f sameF :=
  q8f hf hname hb hn he fun args C us v H' h hr hv => by
    unfold sameF at h
    split at h
    · simp only [Option.some.injEq, Prod.mk.injEq] at h
      obtain ⟨rfl, rfl⟩ := h
      obtain ⟨us⟩ := us
      cases hv with
      | cons _ _ u1 _ us1 h1 h2 =>
        cases h2
        exact ⟨rfl, u1, rfl, h1⟩
    · cases h
end
end Go.Den

/- DEN, part Pu: pure functions: they are read on arguments that do not change, with a small heap of their own; what they return does not change. -/
namespace Go.Den
open Go.RowKit
structure EvI (C C' : Ctx) : Prop where
  size : C.w.heap.size ≤ C'.w.heap.size
  imm : ∀ b, b < C.w.heap.size → C.κ b = .imm → C'.w.heap[b]? = C.w.heap[b]? ∧ C'.κ b = .imm
theorem q6m {C C' : Ctx} (h : EvI C C') {a : Addr} {u : Value} (hk : C.κ a.block = .imm) (hb : a.block < C.w.heap.size) {j : Nat} (hc : C.w.cell? (a.add j) = some u) : C'.w.cell? (a.add j) = some u := by
  have hab : (a.add j).block = a.block := by unfold Addr.add; split <;> rfl
  have := (h.imm a.block hb hk).1
  rw [← hc]
  exact World.cell?_of_block (by rw [hab]; exact this)
mutual
theorem V.evI' {C C' : Ctx} (h : EvI C C') {p : Bool} {v : AV} {u : Value} : V C p v u → p = true → V C' true v u
  | .bool _ b, _ => .bool _ b
  | .int _ k n, _ => .int _ k n
  | .str _ s, _ => .str _ s
  | .nilp _, _ => .nilp _
  | .nils _, _ => .nils _
  | .nilf _, _ => .nilf _
  | .nili _, _ => .nili _
  | .nilm _, _ => .nilm _
  | .fn _ f a b zs bs h1 h2, e => .fn _ f a b zs bs (h1.evI' h e) (h2.evI' h e)
  | .iface _ t v u h1, e => .iface _ t v u (h1.evI' h e)
  | .agg _ cs us h0 h1, e => .agg _ cs us h0 (h1.evI' h e)
  | .tup _ cs us h1, e => .tup _ cs us (h1.evI' h e)
  | .rop _ cs a us h0 h1 h2 h3 h4, _ => .rop _ cs a us h0 (h1.evI' h rfl) (fun j u hu => q6m h h3 h4 (h2 j u hu)) (h.imm _ h4 h3).2 (Nat.lt_of_lt_of_le h4 h.size)
  | .sh _ z es a c us h1 h2 h3 h4 h5 h6, _ => .sh _ z es a c us (h1.evI' h rfl) h2 (fun j u hu => by
      have hne : es ≠ [] := by
        rintro rfl
        cases h1
        simp at hu
      exact q6m h (h4 hne).1 (h4 hne).2 (h3 j u hu)) (fun hne => ⟨(h.imm _ (h4 hne).2 (h4 hne).1).2, Nat.lt_of_lt_of_le (h4 hne).2 h.size⟩) h5 h6
  | .lit _ z es a us h1 h2 h3 h4 h5, _ => .lit _ z es a us (h1.evI' h rfl) h2 (fun j u hu => by
      have hne : es ≠ [] := by
        rintro rfl
        cases h1
        simp at hu
      exact q6m h (h4 hne).1 (h4 hne).2 (h3 j u hu)) (fun hne => ⟨(h.imm _ (h4 hne).2 (h4 hne).1).2, Nat.lt_of_lt_of_le (h4 hne).2 h.size⟩) h5
  | .undef _, e => by cases e
  | .ptr _ _ _ _ _ _ _, e => by cases e
  | .sl _ _ _ _ _ _ _ _, e => by cases e
  | .it _ _ _ _, e => by cases e
  | .mp _ _ _ _, e => by cases e
theorem Vs.evI' {C C' : Ctx} (h : EvI C C') {p : Bool} {vs : List AV} {us : List Value} : Vs C p vs us → p = true → Vs C' true vs us
  | .nil _, _ => .nil _
  | .cons _ v u vs us h1 h2, e => .cons _ v u vs us (h1.evI' h e) (h2.evI' h e)
end
theorem V.evI {C C' : Ctx} (h : EvI C C') {v : AV} {u : Value} (g : V C true v u) : V C' true v u := g.evI' h rfl
theorem Vs.evI {C C' : Ctx} (h : EvI C C') {vs : List AV} {us : List Value} (g : Vs C true vs us) : Vs C' true vs us := g.evI' h rfl
def ImmAt (C C' : Ctx) (ids : List Nat) : Prop := ∀ id ∈ ids, ∀ v sz ty es, C.H[id]? = some (.row v sz ty es) → C'.κ (C.ρ id).1 = .imm
theorem ImmAt.sub {C C' : Ctx} {a b : List Nat} (h : ImmAt C C' b) (hs : ∀ i ∈ a, i ∈ b) : ImmAt C C' a := fun id hi => h id (hs id hi)
theorem q1t {bb : Bool} {C C' : Ctx} {n : Nat} (ih : ∀ (v v' : AV) (u : Value), A.freezeB bb n C.H v = some v' → V C false v u → ImmAt C C' (reach n C.H v) → V C' true v' u ∧ (v.one = true → v'.one = true)) : ∀ {cs cs' : List AV} {us : List Value},
    cs.mapM (A.freezeB bb n C.H) = some cs' → Vs C false cs us → ImmAt C C' (cs.flatMap (reach n C.H)) → Vs C' true cs' us ∧ ((∀ c ∈ cs, c.one = true) → ∀ c ∈ cs', c.one = true) ∧ cs'.length = cs.length
  | [], cs', us, h, hv, _ => by
    simp only [List.mapM_nil, Option.pure_def, Option.some.injEq] at h
    subst h
    cases hv
    exact ⟨.nil _, fun _ => by simp, rfl⟩
  | c :: cs, cs', us, h, hv, hi => by
    rw [List.mapM_cons] at h
    simp only [Option.pure_def, Option.bind_eq_bind, Option.bind_eq_some_iff, Option.some.injEq] at h
    obtain ⟨c', h1, r, h2, rfl⟩ := h
    cases hv with
    | cons _ _ u _ us g1 g2 =>
      obtain ⟨k1, k2⟩ := ih c c' u h1 g1 (hi.sub fun i hi => List.mem_flatMap.2 ⟨c, List.mem_cons_self, hi⟩)
      obtain ⟨m1, m2, m3⟩ := q1t ih h2 g2 (hi.sub fun i hi => by
        obtain ⟨x, hx, hxi⟩ := List.mem_flatMap.1 hi
        exact List.mem_flatMap.2 ⟨x, List.mem_cons_of_mem _ hx, hxi⟩)
      refine ⟨.cons _ _ _ _ _ k1 m1, fun ho x hx => ?_, by simp [m3]⟩
      rcases List.mem_cons.1 hx with rfl | hx
      · exact k2 (ho c List.mem_cons_self)
      · exact m2 (fun y hy => ho y (List.mem_cons_of_mem _ hy)) x hx
theorem qd2 {v : AV} (h : v.one = true) : v.cells = [v] := by
  cases v <;> first | rfl | (simp [AV.one] at h)
def qbm (bb : Bool) (n : Nat) (H : Heap) (e : AV) : Option AV :=
  match e with
  | AV.agg cs => (cs.mapM (A.freezeB bb n H)).map AV.agg
  | e => A.freezeB bb n H e
theorem q7e {bb : Bool} {C C' : Ctx} {n z : Nat} (ih : ∀ (v v' : AV) (u : Value), A.freezeB bb n C.H v = some v' → V C false v u → ImmAt C C' (reach n C.H v) → V C' true v' u ∧ (v.one = true → v'.one = true)) : ∀ {es es' : List AV} {us : List Value},
    es.mapM (qbm bb n C.H) = some es' → Vs C false (es.flatMap AV.cells) us → (∀ e ∈ es, Good z e) → ImmAt C C' (es.flatMap fun e => e.cells.flatMap (reach n C.H)) →
    Vs C' true (es'.flatMap AV.cells) us ∧ (∀ e ∈ es', Good z e) ∧ es'.length = es.length
  | [], es', us, h, hv, _, _ => by
    simp only [List.mapM_nil, Option.pure_def, Option.some.injEq] at h
    subst h
    cases hv
    exact ⟨.nil _, by simp, rfl⟩
  | e :: es, es', us, h, hv, hg, hi => by
    rw [List.mapM_cons] at h
    simp only [Option.pure_def, Option.bind_eq_bind, Option.bind_eq_some_iff, Option.some.injEq] at h
    obtain ⟨e', h1, r, h2, rfl⟩ := h
    rw [List.flatMap_cons] at hv
    obtain ⟨v1, v2⟩ := hv.split
    obtain ⟨m1, m2, m3⟩ := q7e ih h2 v2 (fun x hx => hg x (List.mem_cons_of_mem _ hx)) (hi.sub fun i hi => by
      obtain ⟨x, hx, hxi⟩ := List.mem_flatMap.1 hi
      exact List.mem_flatMap.2 ⟨x, List.mem_cons_of_mem _ hx, hxi⟩)
    have hie : ImmAt C C' (e.cells.flatMap (reach n C.H)) := hi.sub fun i hi => List.mem_flatMap.2 ⟨e, List.mem_cons_self, hi⟩
    have hge := hg e List.mem_cons_self
    have key : Vs C' true e'.cells (us.take e.cells.length) ∧ Good z e' := by
      unfold qbm at h1
      split at h1
      · rename_i cs
        simp only [Option.map_eq_some_iff] at h1
        obtain ⟨cs', g1, rfl⟩ := h1
        obtain ⟨k1, k2, k3⟩ := q1t ih g1 v1 hie
        exact ⟨k1, k3.trans hge.1, k2 hge.2⟩
      · rename_i hna
        have hc : e.cells = [e] := by
          cases e <;> first | rfl | exact absurd rfl (hna _)
        rw [hc] at v1 hie
        have ho : e.one = true := hge.2 e (by rw [hc]; simp)
        have hv1 : ∃ u, us.take 1 = [u] ∧ V C false e u := by
          have e1 : ([e] : List AV).length = 1 := rfl
          rw [e1] at v1
          generalize hx : us.take 1 = l at v1
          cases v1 with
          | cons _ _ u _ _ q1 q2 => cases q2; exact ⟨u, rfl, q1⟩
        obtain ⟨u, hu, q1⟩ := hv1
        obtain ⟨k1, k2⟩ := ih e e' u h1 q1 (hie.sub fun i hi => by simpa using hi)
        have hc' := qd2 (k2 ho)
        rw [hc, hc', show ([e] : List AV).length = 1 from rfl, hu]
        refine ⟨.cons _ _ _ _ _ k1 (.nil _), ?_, ?_⟩
        · rw [hc']
          have := hge.1
          rw [hc] at this
          exact this
        · rw [hc']
          intro c hcm
          simp only [List.mem_cons, List.not_mem_nil, or_false] at hcm
          rw [hcm]
          exact k2 ho
    refine ⟨?_, fun x hx => ?_, by simp [m3]⟩
    · rw [List.flatMap_cons]
      have := key.1.append m1
      rw [List.take_append_drop] at this
      exact this
    · rcases List.mem_cons.1 hx with rfl | hx
      · exact key.2
      · exact m2 x hx
theorem qdh {bb : Bool} {n : Nat} {H : Heap} {id ver off m cap : Nat} : A.freezeB bb (n + 1) H (.sl id ver off m cap) = match H[id]? with
    | some (.row w z _ es) => if w = ver ∧ off + m ≤ es.length then (((es.drop off).take m).mapM (qbm bb n H)).map (.sh z) else none
    | _ => none := rfl
theorem q8l {bb : Bool} {E : Env} {C C' : Ctx} (hr : HR E C) (hi : bb = true → EvI C C') (hw : C'.w = C.w) : ∀ (n : Nat) (v v' : AV) (u : Value), A.freezeB bb n C.H v = some v' → V C false v u → ImmAt C C' (reach n C.H v) → V C' true v' u ∧ (v.one = true → v'.one = true)
  | 0, v, v', u, h, _, _ => by cases h
  | n + 1, v, v', u, h, hv, hm => by
    have ih := q8l hr hi hw n
    cases hv with
    | undef _ => cases h
    | bool _ b => cases h; exact ⟨.bool _ _, id⟩
    | int _ k i => cases h; exact ⟨.int _ _ _, id⟩
    | str _ s => cases h; exact ⟨.str _ _, id⟩
    | nilp _ => cases h; exact ⟨.nilp _, id⟩
    | nils _ => cases h; exact ⟨.nils _, id⟩
    | nilf _ => cases h; exact ⟨.nilf _, id⟩
    | nili _ => cases h; exact ⟨.nili _, id⟩
    | nilm _ => cases h; exact ⟨.nilm _, id⟩
    | it _ _ _ _ => cases h
    | mp _ _ _ _ => cases h
    | yl _ _ _ _ => cases h
    | rop _ cs a us h0 h1 h2 h3 h4 =>
      cases hbb : bb
      · subst hbb; cases h
      · subst hbb
        cases h
        exact ⟨V.evI (hi rfl) (.rop _ cs a us h0 h1 h2 h3 h4), id⟩
    | sh _ z es a c us h1 h2 h3 h4 h5 h6 =>
      cases hbb : bb
      · subst hbb; cases h
      · subst hbb
        cases h
        exact ⟨V.evI (hi rfl) (.sh _ z es a c us h1 h2 h3 h4 h5 h6), id⟩
    | lit _ z es a us h1 h2 h3 h4 h5 =>
      cases hbb : bb
      · subst hbb; cases h
      · subst hbb
        cases h
        exact ⟨V.evI (hi rfl) (.lit _ z es a us h1 h2 h3 h4 h5), id⟩
    | fn _ f a b zs bs h1 h2 =>
      unfold A.freezeB at h
      simp only [Option.bind_eq_some_iff, Option.map_eq_some_iff] at h
      obtain ⟨a', g1, b', g2, rfl⟩ := h
      obtain ⟨k1, _, _⟩ := q1t ih g1 h1 (hm.sub fun i hi => by unfold reach; exact List.mem_append_left _ hi)
      obtain ⟨k2, _, _⟩ := q1t ih g2 h2 (hm.sub fun i hi => by unfold reach; exact List.mem_append_right _ hi)
      exact ⟨.fn _ _ _ _ _ _ k1 k2, fun _ => rfl⟩
    | iface _ t x u h1 =>
      unfold A.freezeB at h
      simp only [Option.map_eq_some_iff] at h
      obtain ⟨x', g1, rfl⟩ := h
      exact ⟨.iface _ _ _ _ (ih x x' u g1 h1 (hm.sub fun i hi => by unfold reach; exact hi)).1, fun _ => rfl⟩
    | agg _ cs us h0 h1 =>
      unfold A.freezeB at h
      simp only [Option.map_eq_some_iff] at h
      obtain ⟨cs', g1, rfl⟩ := h
      obtain ⟨k1, k2, _⟩ := q1t ih g1 h1 (hm.sub fun i hi => by unfold reach; exact hi)
      exact ⟨.agg _ _ _ (k2 h0) k1, fun h => by cases h⟩
    | tup _ cs us h1 =>
      unfold A.freezeB at h
      simp only [Option.map_eq_some_iff] at h
      obtain ⟨cs', g1, rfl⟩ := h
      obtain ⟨k1, k2, _⟩ := q1t ih g1 h1 (hm.sub fun i hi => by unfold reach; exact hi)
      exact ⟨.tup _ _ _ k1, fun h => by cases h⟩
    | ptr id ver i off u h0 h1 =>
      unfold A.freezeB at h
      dsimp only at h
      split at h
      · rename_i w z ty es hrow
        cases hb : (w == ver)
        · rw [hb] at h; cases h
        · rw [hb] at h
          have : w = ver := by simpa using hb
          subst this
          simp only [cond_true, Option.bind_eq_some_iff, Option.map_eq_some_iff] at h
          obtain ⟨e, he, cs', g1, rfl⟩ := h
          have hel : A.elemAt C.H id w i = some e := by simp [A.elemAt, hrow, he]
          obtain ⟨z', ty', es2, us, q1, q2, q3, q4, q5⟩ := qgw hr hel
          rw [hrow] at q1
          cases q1
          have hpt := (h1.2 w z ty es hrow).2 rfl
          subst hpt
          have hk : C.κ (C.ρ id).1 = .obj id := (hr.row id w z ty es hrow).2.2.1
          have hmm : ImmAt C C' ((e.cells.drop off).flatMap (reach n C.H)) := hm.sub fun j hj => by
            unfold reach
            dsimp only
            rw [hrow]
            dsimp only
            refine List.mem_cons_of_mem _ (List.mem_flatMap.2 ⟨e, List.mem_of_getElem? he, ?_⟩)
            obtain ⟨x, hx, hxi⟩ := List.mem_flatMap.1 hj
            exact List.mem_flatMap.2 ⟨x, List.mem_of_mem_drop hx, hxi⟩
          obtain ⟨k1, k2, k3⟩ := q1t ih g1 (q4.drop off) hmm
          have himm : C'.κ (C.ρ id).1 = .imm := hm id (by unfold reach; exact List.mem_cons_self) w z ty es hrow
          have hblk : (C.ρ id).1 < C.w.heap.size := by
            rcases Nat.lt_or_ge (C.ρ id).1 C.w.heap.size with hlt | hge
            · exact hlt
            · rw [hr.new _ hge] at hk; cases hk
          refine ⟨.rop _ cs' ⟨(C.ρ id).1, (C.ρ id).2 + (i * z + off), none⟩ _ (k2 fun c hc => q3.2 c (List.mem_of_mem_drop hc)) k1 (fun j u hu => ?_) himm (by rw [hw]; exact hblk), fun _ => rfl⟩
          rw [List.getElem?_drop] at hu
          have := q5 _ _ hu
          rw [hw, Addr.add_lit]
          rw [show (C.ρ id).2 + (i * z + off) + j = (C.ρ id).2 + (i * z + (off + j)) by omega]
          exact this
      · cases h
    | sl id ver off m cap u h0 h1 =>
      rw [qdh] at h
      split at h
      · rename_i w z ty es hrow
        split at h
        · rename_i hc
          obtain ⟨rfl, hle⟩ := hc
          simp only [Option.map_eq_some_iff] at h
          obtain ⟨es', g1, rfl⟩ := h
          obtain ⟨hz, hg, hk, cur, fr, us, hcur, hfz, hus, hcell⟩ := hr.row id w z ty es hrow
          obtain ⟨a, c, hu, g2, g3, g4, g5, g6⟩ := (h1.2 w z ty es hrow).2 rfl
          subst hu
          have hgd : ∀ e ∈ (es.drop off).take m, Good z e := fun e he => hg e (List.mem_of_mem_drop (List.mem_of_mem_take he))
          have hnl : ((es.drop off).take m).length = m := by rw [List.length_take, List.length_drop]; omega
          have hfl : es.flatMap AV.cells = (es.take off).flatMap AV.cells ++ (((es.drop off).take m).flatMap AV.cells ++ ((es.drop off).drop m).flatMap AV.cells) := by
            rw [← List.flatMap_append, List.take_append_drop, ← List.flatMap_append, List.take_append_drop]
          have hl1 : ((es.take off).flatMap AV.cells).length = off * z := by
            rw [q0d (fun x hx => hg x (List.mem_of_mem_take hx)), List.length_take, Nat.min_eq_left (by omega)]
          have hl2 : (((es.drop off).take m).flatMap AV.cells).length = m * z := by rw [q0d hgd, hnl]
          have hv := hus
          rw [hfl] at hv
          have hv2 := hv.split.2.split.1
          rw [hl1, hl2] at hv2
          obtain ⟨k1, k2, k3⟩ := q7e ih g1 hv2 hgd (hm.sub fun j hj => by
            unfold reach
            dsimp only
            rw [hrow]
            dsimp only
            refine List.mem_cons_of_mem _ ?_
            obtain ⟨x, hx, hxi⟩ := List.mem_flatMap.1 hj
            exact List.mem_flatMap.2 ⟨x, List.mem_of_mem_drop (List.mem_of_mem_take hx), hxi⟩)
          have himm : C'.κ (C.ρ id).1 = .imm := hm id (by unfold reach; exact List.mem_cons_self) w z ty es hrow
          have hblk : (C.ρ id).1 < C.w.heap.size := by
            rcases Nat.lt_or_ge (C.ρ id).1 C.w.heap.size with hlt | hge
            · exact hlt
            · rw [hr.new _ hge] at hk; cases hk
          have hlen : es'.length = m := k3.trans hnl
          have hsh : V C' true (.sh z es') (.slice (some a) es'.length c) := by
            refine .sh _ z es' a c _ k1 k2 (fun j u hju => ?_) (fun hne => ?_) (by omega) g4
            · have hpos : 0 < c := by
                rcases Nat.eq_zero_or_pos c with h0 | h0
                · have : m = 0 := by omega
                  subst this
                  simp at hju
                · exact h0
              have ha := g5 hpos
              subst ha
              rw [List.getElem?_take] at hju
              split at hju
              · rw [List.getElem?_drop] at hju
                have := hcell _ _ hju
                rw [hw, Addr.add_lit]
                simp only [World.cell?, hcur, Option.isSome_none, Bool.false_eq_true, if_false]
                rw [show (C.ρ id).2 + off * z + j = (C.ρ id).2 + (off * z + j) by omega]
                exact this
              · simp at hju
            · have hpos : 0 < c := by
                cases es' with
                | nil => exact absurd rfl hne
                | cons _ _ => simp at hlen; omega
              have ha := g5 hpos
              subst ha
              exact ⟨himm, by rw [hw]; exact hblk⟩
          rw [hlen] at hsh
          exact ⟨hsh, fun _ => rfl⟩
        · cases h
      · cases h
theorem flat0_V {C C' : Ctx} {p : Bool} {v : AV} {u : Value} (hf : v.flat0 = true) (h : V C p v u) : V C' false v u := by
  cases h <;> first | exact absurd (show false = true from hf) Bool.false_ne_true | constructor
theorem flat_V {C C' : Ctx} {p : Bool} {v : AV} {u : Value} (hf : v.flat = true) (h : V C p v u) : V C' false v u := by
  have key : ∀ (vs : List AV) (us : List Value), vs.all AV.flat0 = true → Vs C p vs us → Vs C' false vs us := by
    intro vs
    induction vs with
    | nil => intro us _ h; cases h; exact .nil _
    | cons x vs ih =>
      intro us hf h
      simp only [List.all_cons, Bool.and_eq_true] at hf
      cases h with
      | cons _ _ u _ us h1 h2 => exact .cons _ _ _ _ _ (flat0_V hf.1 h1) (ih us hf.2 h2)
  cases h with
  | agg _ cs us h0 h1 => exact .agg _ _ _ h0 (key _ _ hf h1)
  | tup _ cs us h1 => exact .tup _ _ _ (key _ _ hf h1)
  | _ => first | exact absurd (show false = true from hf) Bool.false_ne_true | constructor
theorem q57 : ∀ (ids : List Nat) (H : Heap), (kill ids H).length = H.length
  | [], _ => rfl
  | i :: ids, H => by
    show (kill ids (H.set i .dead)).length = H.length
    rw [q57 ids, List.length_set]
theorem q3v {o : HObj} (ho : o ≠ .dead) : ∀ {ids : List Nat} {H : Heap} {j : Nat}, (kill ids H)[j]? = some o → H[j]? = some o ∧ j ∉ ids
  | [], _, _, h => ⟨h, by simp⟩
  | i :: ids, H, j, h => by
    have h' : (kill ids (H.set i .dead))[j]? = some o := h
    obtain ⟨h1, h2⟩ := q3v ho h'
    by_cases e : i = j
    · subst e
      rw [List.getElem?_set] at h1
      simp only [if_true] at h1
      split at h1
      · simp only [Option.some.injEq] at h1
        exact absurd h1.symm ho
      · cases h1
    · rw [List.getElem?_set_ne e] at h1
      exact ⟨h1, by simp [h2, Ne.symm e]⟩
theorem q7d {E : Env} {C C' : Ctx} (hr : HR E C) (hi : EvI C C') (hw : C'.w = C.w) : ∀ {args zs : List AV} {us : List Value}, q0r C.H args = some zs → Vs C false args us → ImmAt C C' (args.flatMap (reach 64 C.H)) → Vs C' true zs us
  | [], zs, us, h, hv, _ => by
    simp only [q0r, Option.some.injEq] at h
    subst h
    cases hv
    exact .nil _
  | a :: args, zs, us, h, hv, hm => by
    unfold q0r at h
    split at h
    · rename_i x hx
      split at h
      · rename_i r hrr
        simp only [Option.some.injEq] at h
        subst h
        cases hv with
        | cons _ _ u _ us g1 g2 =>
          exact .cons _ _ _ _ _ (q8l hr (fun _ => hi) hw 64 a x u hx g1 (hm.sub fun i hi => List.mem_flatMap.2 ⟨a, List.mem_cons_self, hi⟩)).1
            (q7d hr hi hw hrr g2 (hm.sub fun i hi => by
              obtain ⟨x, hx, hxi⟩ := List.mem_flatMap.1 hi
              exact List.mem_flatMap.2 ⟨x, List.mem_cons_of_mem _ hx, hxi⟩))
      · cases h
    · cases h
def Ctx.pureIn (C : Ctx) (ids : List Nat) : Ctx :=
  ⟨C.w, fun b => if b < C.w.heap.size then (match C.κ b with | .imm => .imm | .obj id => if id ∈ ids then .imm else .oth | _ => .oth) else .oth, fun _ => (0, 0), []⟩
def Ctx.allImm (C : Ctx) : Ctx := { C with κ := fun b => match C.κ b with | .obj _ => .imm | x => x }
def Ctx.pureOut (C C1 : Ctx) (ids : List Nat) (H' : Heap) : Ctx :=
  ⟨C1.w, fun b => if b < C.w.heap.size then (match C.κ b with | .obj id => if id ∈ ids then .imm else .obj id | x => x) else (match C1.κ b with | .obj _ => .imm | .imm => .imm | _ => .oth), C.ρ, H'⟩
theorem qi8 {C : Ctx} {ids : List Nat} : EvI C (C.pureIn ids) :=
  ⟨Nat.le_refl _, fun b hb hi => ⟨rfl, by simp [Ctx.pureIn, hb, hi]⟩⟩
theorem q71 {C : Ctx} {ids : List Nat} (b : Nat) : (C.pureIn ids).κ b = .imm ∨ (C.pureIn ids).κ b = .oth := by
  unfold Ctx.pureIn
  dsimp only
  split
  · split
    · exact .inl rfl
    · split
      · exact .inl rfl
      · exact .inr rfl
    · exact .inr rfl
  · exact .inr rfl
theorem HR.block_lt {E : Env} {C : Ctx} (hr : HR E C) {b id : Nat} (h : C.κ b = .obj id) : b < C.w.heap.size := by
  rcases Nat.lt_or_ge b C.w.heap.size with h1 | h1
  · exact h1
  · rw [hr.new b h1] at h; cases h
theorem q90 {E E' : Env} (hP : E'.P = E.P) (hG : E'.glob = E.glob) (hcf : ∀ n, CallOK E' (callF E' n)) {f : FuncId} {F : List AV → Option AV}
    (hF : ∀ zs v, F zs = some v → ∃ n, callF E' n AV f zs [] (fun v G => A.freezeB true 64 G v) = some v) : PrimOK E f (pureF F) := by
  intro args C us v H' h hr hl hv
  unfold pureF at h
  split at h
  · rename_i zs has
    split at h
    · rename_i r hr0
      simp only [Option.some.injEq, Prod.mk.injEq] at h
      obtain ⟨rfl, hH⟩ := h
      obtain ⟨n, hn⟩ := hF zs r hr0
      rw [q1z n] at hn
      simp only [Option.bind_eq_some_iff] at hn
      obtain ⟨⟨x, G⟩, hn1, hn2⟩ := hn
      dsimp only at hn2
      let ids := args.flatMap (reach 64 C.H)
      have ev0 : EvI C (C.pureIn ids) := qi8
      have hm : ImmAt C (C.pureIn ids) ids := fun id hid w z ty es hrow => by
        have hk := (hr.row id w z ty es hrow).2.2.1
        have hb := hr.block_lt hk
        show (if (C.ρ id).1 < C.w.heap.size then _ else _) = _
        rw [if_pos hb, hk]
        exact if_pos hid
      have has' : Vs (C.pureIn ids) true zs us.toList := q7d hr ev0 rfl has hv hm
      have hr0' : HR E' (C.pureIn ids) := ⟨fun id v sz ty es h => by simp [Ctx.pureIn] at h, fun id o _ h => by simp [Ctx.pureIn] at h, fun b hb => by
        have : ¬ b < C.w.heap.size := by have : C.w.heap.size ≤ b := hb; omega
        simp [Ctx.pureIn, this], fun g cs hg => V.evI ev0 (hr.glob g cs (by rw [← hG]; exact hg)), fun id v sz ty es h => by simp [Ctx.pureIn] at h⟩
      have hl0 : (C.pureIn ids).noLoc := fun b s e => by rcases q71 (C := C) (ids := ids) b with h | h <;> (rw [h] at e; cases e)
      have hL := (hcf n).call f zs (C.pureIn ids) us x G (qg1 hn1) hn1 hr0' hl0 has'.weaken
      rw [hP] at hL
      refine Lands.mono hL fun u w' hg => ?_
      obtain ⟨C1, rfl, rfl, hx, hr1, hev, hl1⟩ := hg
      have hsize : C.w.heap.size ≤ C1.w.heap.size := hev.size
      have keep : ∀ b, b < C.w.heap.size → C1.w.heap[b]? = C.w.heap[b]? ∧ C1.κ b = (C.pureIn ids).κ b := fun b hb => hev.keep b hb (q71 b)
      have ev1 : EvI C1 C1.allImm := ⟨Nat.le_refl _, fun b _ hi => ⟨rfl, by simp [Ctx.allImm, hi]⟩⟩
      have hm1 : ImmAt C1 C1.allImm (reach 64 C1.H x) := fun id _ w z ty es hrow => by
        have hk := (hr1.row id w z ty es hrow).2.2.1
        simp [Ctx.allImm, hk]
      have hfz := (q8l hr1 (fun _ => ev1) rfl 64 x r u hn2 hx hm1).1
      let kd := if r.flat = true then [] else ids
      have hH2 : H' = kill kd C.H := by
        rw [← hH]
        show (bif r.flat then C.H else kill ids C.H) = kill (if r.flat = true then [] else ids) C.H
        cases r.flat <;> rfl
      subst hH2
      have hk2 : ∀ b id, C.κ b = .obj id → id ∉ kd → (C.pureOut C1 kd (kill kd C.H)).κ b = .obj id := fun b id hk hid => by
        show (if b < C.w.heap.size then _ else _) = _
        rw [if_pos (hr.block_lt hk), hk]
        exact if_neg hid
      have hk3 : ∀ b, (C.κ b = .imm ∨ C.κ b = .oth) → b < C.w.heap.size → (C.pureOut C1 kd (kill kd C.H)).κ b = C.κ b := fun b hk hb => by
        show (if b < C.w.heap.size then _ else _) = _
        rw [if_pos hb]
        rcases hk with hk | hk <;> rw [hk]
      have hrows : ∀ id, id < C.H.length → ∀ v' sz' ty' es', (kill kd C.H)[id]? = some (.row v' sz' ty' es') → ∃ v es, C.H[id]? = some (.row v sz' ty' es) ∧ v ≤ v' ∧
          (v = v' → C.ρ id = C.ρ id ∧ ∀ cells t fr, C1.w.heap[(C.ρ id).1]? = some (.cells cells t fr) → ∃ cells' t' fr', C.w.heap[(C.ρ id).1]? = some (.cells cells' t' fr') ∧ cells.size = cells'.size) := fun id _ v' sz' ty' es' hrow => by
        obtain ⟨g1, g2⟩ := q3v (by simp) hrow
        refine ⟨v', es', g1, Nat.le_refl _, fun _ => ⟨rfl, fun cells t fr hc => ?_⟩⟩
        have hb := hr.block_lt (hr.row id v' sz' ty' es' g1).2.2.1
        rw [(keep _ hb).1] at hc
        exact ⟨cells, t, fr, hc, rfl⟩
      have ev2 : EvV C (C.pureOut C1 kd (kill kd C.H)) := ⟨hsize, fun b hb hi => ⟨(keep b hb).1, (hk3 b (.inl hi) hb).trans hi⟩, Nat.le_of_eq (q57 _ _).symm, hrows,
        fun id _ o ho h => ⟨⟨o, (q3v (by rintro rfl; cases ho) h).1, rfl⟩, rfl⟩⟩
      refine ⟨C.pureOut C1 kd (kill kd C.H), rfl, rfl, ?_, ?_, ?_, ?_⟩
      · cases hfl : r.flat with
        | true => exact flat_V hfl hfz
        | false =>
          have hkd : kd = ids := by show (if r.flat = true then [] else ids) = ids; rw [hfl]; rfl
          refine (V.evI (C := C1.allImm) (C' := C.pureOut C1 kd (kill kd C.H)) ⟨Nat.le_refl _, fun b hb hi => ⟨rfl, ?_⟩⟩ hfz).weaken
          rw [hkd]
          show (if b < C.w.heap.size then _ else _) = _
          by_cases hbs : b < C.w.heap.size
          · rw [if_pos hbs]
            have hkb := (keep b hbs).2
            have hi' : (C.pureIn ids).κ b = .imm := by
              rcases q71 (C := C) (ids := ids) b with h | h
              · exact h
              · rw [h] at hkb
                have : C1.allImm.κ b = .oth := by simp [Ctx.allImm, hkb]
                rw [this] at hi; cases hi
            have hi2 : (if b < C.w.heap.size then (match C.κ b with | .imm => Role.imm | .obj id => if id ∈ ids then .imm else .oth | _ => .oth) else .oth) = .imm := hi'
            rw [if_pos hbs] at hi2
            cases hcb : C.κ b with
            | imm => rfl
            | obj id =>
              rw [hcb] at hi2
              dsimp only at hi2 ⊢
              split at hi2
              · rename_i hid; exact if_pos hid
              · cases hi2
            | loc s => rw [hcb] at hi2; cases hi2
            | oth => rw [hcb] at hi2; cases hi2
          · rw [if_neg hbs]
            have hi' : (match C1.κ b with | .obj _ => Role.imm | x => x) = .imm := hi
            cases hcb : C1.κ b with
            | imm => rfl
            | obj id => rfl
            | loc s => rw [hcb] at hi'; cases hi'
            | oth => rw [hcb] at hi'; cases hi'
      · refine ⟨fun id v sz ty es h => ?_, fun id o ho h => ?_, fun b hb => ?_, fun g cs h => (hr.glob g cs h).evV ev2, fun id v sz ty es h => hr.al id v sz ty es (q3v (by simp) h).1⟩
        · obtain ⟨g1, g2⟩ := q3v (by simp) h
          obtain ⟨p0, p1, p2, cur, fr, us', p3, p4, p5, p6⟩ := hr.row id v sz ty es g1
          refine ⟨p0, p1, hk2 _ _ p2 g2, cur, fr, us', ?_, p4, p5.evV ev2, p6⟩
          exact (keep _ (hr.block_lt p2)).1.trans p3
        · obtain ⟨g1, g2⟩ := q3v (by rintro rfl; cases ho) h
          obtain ⟨p0, p1⟩ := hr.oth id o ho g1
          refine ⟨hk2 _ _ p0 g2, ?_⟩
          have p2 := p1.evV ev2
          rw [← (keep _ (hr.block_lt p0)).1] at p2
          exact p2
        · have hb' : C1.w.heap.size ≤ b := hb
          have hnb : ¬ b < C.w.heap.size := by omega
          show (if b < C.w.heap.size then _ else _) = _
          rw [if_neg hnb, hr1.new b hb']
      · exact ⟨hev.os, hev.tape, hev.output, hsize, fun b hb hk => ⟨(keep b hb).1, hk3 b hk hb⟩, Nat.le_of_eq (q57 _ _).symm, hrows,
          fun id _ o ho h => ⟨⟨o, (q3v (by rintro rfl; cases ho) h).1, rfl⟩, rfl⟩⟩
      · intro b s e
        have e' : (if b < C.w.heap.size then (match C.κ b with | .obj id => if id ∈ kd then Role.imm else .obj id | x => x) else (match C1.κ b with | .obj _ => .imm | .imm => .imm | _ => .oth)) = .loc s := e
        split at e'
        · cases hcb : C.κ b with
          | imm => rw [hcb] at e'; cases e'
          | obj id => rw [hcb] at e'; dsimp only at e'; split at e' <;> cases e'
          | loc s' => exact hl b s' hcb
          | oth => rw [hcb] at e'; cases e'
        · cases hcb : C1.κ b with
          | imm => rw [hcb] at e'; cases e'
          | obj id => rw [hcb] at e'; cases e'
          | loc s' => rw [hcb] at e'; cases e'
          | oth => rw [hcb] at e'; cases e'
    · cases h
  · cases h
end Go.Den

/- DEN, part Zg: what must be asked of a program and its tables, by computation; a law's post-condition. -/
namespace Go.Den
open Go.RowKit
theorem q1g {ok : Nat → Array Oper → DInfo → Bool} : ∀ c, codeOk [] ok c = true
  | .region _ _ b => by cases b <;> rfl
  | .seq a b => by unfold codeOk; rw [q1g a, q1g b]; rfl
  | .cond _ a b => by unfold codeOk; rw [q1g a, q1g b]; rfl
  | .block _ c => q1g c
  | .loop c => q1g c
  | .scope c => q1g c
  | .rangeFunc _ _ a b => by unfold codeOk; rw [q1g a, q1g b]; rfl
  | .skip | .label _ | .exit _ | .goto _ | .ret | .refuse _ => rfl
def qcl (E : Env) : List FuncId → Bool
  | [] => true
  | f :: fs => (match E.P.funcs[f]? with
    | some fn => match fn.body with
      | some c => codeOk (E.ann f).draws (q1f E (E.ann f).sites) c
      | none => true
    | none => true) && qcl E fs
def namesOk (P : Program) : Bool := P.funcs.toList.all fun fn => !(fn.name == "runtime.NumGoroutine")
theorem q9d {E : Env} : ∀ {fs : List FuncId}, qcl E fs = true → ∀ {f : FuncId}, f ∈ fs → ∀ {fn : Func} {c : Code}, E.P.funcs[f]? = some fn → fn.body = some c → codeOk (E.ann f).draws (q1f E (E.ann f).sites) c = true
  | [], _, _, hf, _, _, _, _ => by cases hf
  | g :: fs, h, f, hf, fn, c, h1, h2 => by
    unfold qcl at h
    simp only [Bool.and_eq_true] at h
    rcases List.mem_cons.1 hf with rfl | hf
    · have := h.1
      rw [h1] at this
      dsimp only at this
      rw [h2] at this
      exact this
    · exact q9d h.2 hf h1 h2
theorem envOK {E : Env} (fs : List FuncId) (h1 : qcl E fs = true) (h2 : ∀ f, f ∉ fs → (E.ann f).draws = []) (h3 : namesOk E.P = true) : EnvOK E := by
  refine ⟨fun f fn c hf hb => ?_, fun f fn c hf hb => ?_⟩
  · rcases Decidable.em (f ∈ fs) with h | h
    · exact q9d h1 h hf hb
    · rw [h2 f h]
      exact q1g c
  · unfold namesOk at h3
    have := List.all_eq_true.1 h3 fn (by
      rw [← Array.getElem?_toList] at hf
      exact List.mem_of_getElem? hf)
    simpa using this
theorem Ev.below {w : World} {κ : Nat → Role} (hκ : ∀ b, κ b = .imm ∨ κ b = .oth) {C' : Ctx} (h : Ev (.outer w κ) C') : Below w.heap.size w C'.w :=
  ⟨h.os, h.tape, h.output, h.size, fun k hk => (h.keep k hk (hκ k)).1⟩
end Go.Den

/- DEN, part Zh: what a call from outside is handed: an argument as the row's reader reads it stands for a value of memory that does not change. -/
namespace Go.Den
open Go.RowKit
def Ty (P : Program) : Nat → TypeId → AV → Prop
  | 0, _, _ => False
  | n + 1, t, v =>
    match P.underlying t with
    | some .bool => ∃ b, v = .bool b
    | some (.int k) => ∃ i, v = .int k i ∧ k.min ≤ i ∧ i ≤ k.max
    | some .string => ∃ l : List UInt8, v = .str l ∧ l.length ≤ maxLen
    | some (.slice e) => v = .nils ∨ ∃ es : List AV, v = .sh (P.cellsOf e) es ∧ es.length ≤ maxLen ∧ ∀ x ∈ es, Ty P n e x
    | some (.struct fs) => ∃ vs : List AV, v = .agg (vs.flatMap AV.cells) ∧ vs.length = fs.size ∧ ∀ (i : Nat) (f : Field) (x : AV), fs[i]? = some f → vs[i]? = some x → Ty P n f.type x ∧ x.cells.length = P.cellsOf f.type
    | some (.array m e) => ∃ vs : List AV, v = .agg (vs.flatMap AV.cells) ∧ vs.length = m ∧ ∀ x ∈ vs, Ty P n e x ∧ x.cells.length = P.cellsOf e
    | _ => False
def contig (P : Program) : Nat → List Field → Option Nat
  | off, [] => some off
  | off, f :: fs => if f.offset = off then contig P (off + P.cellsOf f.type) fs else none
def tyOk (P : Program) (ts : List TypeId) (t : TypeId) : Bool :=
  match P.underlying t with
  | some .bool | some (.int _) | some .string => true
  | some (.slice e) => ts.contains e && decide (0 < P.cellsOf e)
  | some (.struct fs) => fs.toList.all (fun f => ts.contains f.type) && decide (contig P 0 fs.toList = some (P.cellsOf t))
  | some (.array n e) => ts.contains e && decide (n * P.cellsOf e = P.cellsOf t)
  | _ => false
def immK (W : World) : Nat → Role := fun b => if b < W.heap.size then .imm else .oth
section
variable {H : Type} {enc : TypeId × Value → H} {P : Program} {W : World} {sp : Nat → Bool} {hd : Bool}
def aggTy (P : Program) (t : TypeId) : Bool := match P.underlying t with | some (.struct _) | some (.array _ _) => true | _ => false
theorem Vs.join {C : Ctx} {p : Bool} : ∀ {vs : List AV} {css : List (List Value)}, vs.length = css.length → (∀ (i : Nat) (v : AV) (cs : List Value), vs[i]? = some v → css[i]? = some cs → Vs C p v.cells cs) → Vs C p (vs.flatMap AV.cells) css.flatten
  | [], [], _, _ => .nil _
  | [], _ :: _, h, _ => by simp at h
  | _ :: _, [], h, _ => by simp at h
  | v :: vs, cs :: css, hl, h => by
    simp only [List.flatMap_cons, List.flatten_cons]
    exact (h 0 v cs rfl rfl).append (Vs.join (by simpa using hl) fun i v' cs' h1 h2 => h (i + 1) v' cs' (by simpa using h1) (by simpa using h2))
theorem q52 {α β : Type} {n : Nat} {R : Nat → α → β → Prop} (h : ∀ i, i < n → ∃ a b, R i a b) : ∃ (zs : List α) (bs : List β), zs.length = n ∧ bs.length = n ∧ ∀ (i : Nat) (a : α) (b : β), zs[i]? = some a → bs[i]? = some b → R i a b := by
  induction n with
  | zero => exact ⟨[], [], rfl, rfl, fun i a b h => by simp at h⟩
  | succ n ih =>
    obtain ⟨zs, bs, h1, h2, h3⟩ := ih fun i hi => h i (by omega)
    obtain ⟨a, b, hab⟩ := h n (by omega)
    refine ⟨zs ++ [a], bs ++ [b], by simp [h1], by simp [h2], fun i x y hx hy => ?_⟩
    rcases Nat.lt_trichotomy i n with hi | hi | hi
    · rw [List.getElem?_append_left (by omega)] at hx hy
      exact h3 i x y hx hy
    · subst hi
      rw [List.getElem?_append_right (by omega)] at hx hy
      simp only [h1, h2, Nat.sub_self, List.getElem?_cons_zero, Option.some.injEq] at hx hy
      subst hx hy
      exact hab
    · rw [List.getElem?_append_right (by omega), List.getElem?_eq_none (by simp; omega)] at hx
      cases hx
theorem q4y {cs : List Value} : ∀ {css : List (List Value)} {n : Nat}, (∀ (i : Nat) (c : List Value), css[i]? = some c → c = (cs.drop (i * n)).take n) → css.length * n = cs.length → css.flatten = cs := by
  intro css n
  induction css generalizing cs with
  | nil =>
    intro _ hl
    cases cs with
    | nil => rfl
    | cons _ _ => simp at hl
  | cons c css ih =>
    intro h hl
    have h0 := h 0 c rfl
    simp only [Nat.zero_mul, List.drop_zero] at h0
    have := ih (cs := cs.drop n) (fun i c' hc => by
      have := h (i + 1) c' (by simpa using hc)
      rw [this, List.drop_drop, Nat.add_mul, Nat.one_mul, Nat.add_comm]) (by
      simp only [List.length_cons, Nat.add_mul, Nat.one_mul] at hl
      simp only [List.length_drop]
      omega)
    rw [List.flatten_cons, this, h0, List.take_append_drop]
theorem q3c {cs : List Value} : ∀ {fs : List Field} {css : List (List Value)} {off tot : Nat}, contig P off fs = some tot → css.length = fs.length →
    (∀ (i : Nat) (f : Field) (c : List Value), fs[i]? = some f → css[i]? = some c → c = (cs.drop f.offset).take (P.cellsOf f.type)) → css.flatten = (cs.drop off).take (tot - off) ∧ off ≤ tot
  | [], [], off, tot, h, _, _ => by
    simp only [contig, Option.some.injEq] at h
    subst h
    simp
  | [], _ :: _, _, _, _, h, _ => by simp at h
  | _ :: _, [], _, _, _, h, _ => by simp at h
  | f :: fs, c :: css, off, tot, h, hl, hp => by
    unfold contig at h
    split at h
    · rename_i ho
      obtain ⟨h1, h2⟩ := q3c (cs := cs) h (by simpa using hl) fun i f' c' hf hc => hp (i + 1) f' c' (by simpa using hf) (by simpa using hc)
      have h0 := hp 0 f c rfl rfl
      rw [List.flatten_cons, h1, h0, ho]
      refine ⟨?_, by omega⟩
      have : tot - off = P.cellsOf f.type + (tot - (off + P.cellsOf f.type)) := by omega
      rw [this, List.take_add, List.drop_drop]
    · cases h
theorem trod_V {ts : List TypeId} (hts : ∀ t ∈ ts, tyOk P ts t = true) : ∀ (fuel : Nat) (t : TypeId) (cs : List Value) (x : DataW H × List MemPlace), t ∈ ts → DataW.trod enc P W 0 sp hd fuel t cs = some x →
    ∃ v, Ty P fuel t v ∧ (∀ c ∈ v.cells, c.one = true) ∧ Vs (.outer W (immK W)) true v.cells cs ∧ (aggTy P t = true → v = .agg v.cells) ∧ (aggTy P t = false → v.cells = [v]) := by
  intro fuel
  induction fuel with
  | zero => intro t cs x _ h; simp [DataW.trod] at h
  | succ fuel ih =>
    intro t cs x ht h
    have hok := hts t ht
    unfold tyOk at hok
    unfold Ty aggTy
    split at hok
    · rename_i hu
      obtain ⟨b, rfl, _⟩ := DataW.trod_bool hu h
      rw [hu]
      exact ⟨.bool b, ⟨b, rfl⟩, by simp [AV.cells, AV.one], .cons _ _ _ _ _ (.bool _ _) (.nil _), by simp, by simp [AV.cells]⟩
    · rename_i k hu
      obtain ⟨n, rfl, _, hw⟩ := DataW.trod_int hu h
      rw [hu]
      simp only [Lit.wf, Bool.and_eq_true, decide_eq_true_eq] at hw
      exact ⟨.int k n, ⟨n, rfl, hw⟩, by simp [AV.cells, AV.one], .cons _ _ _ _ _ (.int _ _ _) (.nil _), by simp, by simp [AV.cells]⟩
    · rename_i hu
      obtain ⟨s, rfl, _, hs⟩ := DataW.trod_string hu h
      rw [hu]
      exact ⟨.str s.data.toList, ⟨_, rfl, by simpa using hs⟩, by simp [AV.cells, AV.one], .cons _ _ _ _ _ (.str _ _) (.nil _), by simp, by simp [AV.cells]⟩
    · rename_i e hu
      simp only [Bool.and_eq_true, List.contains_iff_mem, decide_eq_true_eq] at hok
      rw [hu]
      dsimp only
      rcases DataW.trod_slice hu h with ⟨rfl, _⟩ | ⟨a, len, cap, elems, rest, n, hn, rfl, _, _, hlc, hcap, hel, hget, _, _⟩
      · exact ⟨.nils, .inl rfl, by simp [AV.cells, AV.one], .cons _ _ _ _ _ (.nils _) (.nil _), by simp, by simp [AV.cells]⟩
      · injection hn with hn
        subst hn
        have hR : ∀ i, i < len → ∃ v cs, W.cells? 0 (a.add (i * P.cellsOf e)) (P.cellsOf e) = some cs ∧ Ty P fuel e v ∧ (∀ c ∈ v.cells, c.one = true) ∧ Vs (.outer W (immK W)) true v.cells cs := fun i hi => by
          have := hget i hi
          rw [List.getElem?_eq_getElem (by omega)] at this
          simp only [Option.bind_eq_some_iff] at this
          obtain ⟨cs, h1, h2⟩ := this
          obtain ⟨v, g1, g2, g3, _⟩ := ih e cs _ hok.1 h2
          exact ⟨v, cs, h1, g1, g2, g3⟩
        obtain ⟨vs, css, hl1, hl2, hall⟩ := q52 hR
        have hz : ∀ (i : Nat) (v : AV) (cs : List Value), vs[i]? = some v → css[i]? = some cs → cs.length = P.cellsOf e ∧ v.cells.length = P.cellsOf e := fun i v cs h1 h2 => by
          obtain ⟨g1, _, _, g4⟩ := hall i v cs h1 h2
          have := (World.cells?_some g1).2.1
          exact ⟨this, by rw [← g4.length]; exact this⟩
        have pairOf : ∀ (i : Nat) (v : AV), vs[i]? = some v → ∃ cs, css[i]? = some cs := fun i v h1 => by
          obtain ⟨hlt, _⟩ := List.getElem?_eq_some_iff.1 h1
          exact ⟨_, List.getElem?_eq_getElem (by omega)⟩
        have hmem : ∀ v ∈ vs, ∃ (i : Nat) (cs : List Value), vs[i]? = some v ∧ css[i]? = some cs := fun v hv => by
          obtain ⟨i, hi, e⟩ := List.mem_iff_getElem.1 hv
          have h1 : vs[i]? = some v := by rw [List.getElem?_eq_getElem hi, e]
          obtain ⟨cs, h2⟩ := pairOf i v h1
          exact ⟨i, cs, h1, h2⟩
        refine ⟨.sh (P.cellsOf e) vs, .inr ⟨vs, rfl, by omega, fun v hv => ?_⟩, by simp [AV.cells, AV.one], ?_, by simp, by simp [AV.cells]⟩
        · obtain ⟨i, cs, h1, h2⟩ := hmem v hv
          exact (hall i v cs h1 h2).2.1
        · have hlen : vs.length = len := hl1
          have hj : Vs (.outer W (immK W)) true (vs.flatMap AV.cells) css.flatten := Vs.join (by omega) fun i v cs h1 h2 => (hall i v cs h1 h2).2.2.2
          have hcell : ∀ j u, css.flatten[j]? = some u → W.cell? (a.add j) = some u := by
            intro j u hju
            have hpos := hok.2
            have hq : j / P.cellsOf e < css.length ∧ ∃ c, css[j / P.cellsOf e]? = some c ∧ c[j % P.cellsOf e]? = some u := by
              have gen : ∀ (l : List (List Value)) (j : Nat), (∀ c ∈ l, c.length = P.cellsOf e) → l.flatten[j]? = some u → j / P.cellsOf e < l.length ∧ ∃ c, l[j / P.cellsOf e]? = some c ∧ c[j % P.cellsOf e]? = some u := by
                intro l
                induction l with
                | nil => intro j _ h; simp at h
                | cons c l ihl =>
                  intro j hc h
                  have hcl := hc c List.mem_cons_self
                  rw [List.flatten_cons] at h
                  rcases Nat.lt_or_ge j c.length with hlt | hge
                  · rw [List.getElem?_append_left hlt] at h
                    have e1 : j / P.cellsOf e = 0 := Nat.div_eq_of_lt (by omega)
                    have e2 : j % P.cellsOf e = j := Nat.mod_eq_of_lt (by omega)
                    rw [e1, e2]
                    exact ⟨by simp, c, by simp, h⟩
                  · rw [List.getElem?_append_right hge] at h
                    obtain ⟨g1, c', g2, g3⟩ := ihl (j - c.length) (fun c' hc' => hc c' (List.mem_cons_of_mem _ hc')) h
                    have e1 : j / P.cellsOf e = (j - c.length) / P.cellsOf e + 1 := by
                      rw [hcl, Nat.div_eq_sub_div hpos (by omega)]
                    have e2 : j % P.cellsOf e = (j - c.length) % P.cellsOf e := by
                      rw [hcl, Nat.mod_eq_sub_mod (by omega)]
                    rw [e1, e2]
                    exact ⟨by simpa using g1, c', by simpa using g2, g3⟩
              refine gen css j (fun c hc => ?_) hju
              obtain ⟨i, hi, e⟩ := List.mem_iff_getElem.1 hc
              have h2 : css[i]? = some c := by rw [List.getElem?_eq_getElem hi, e]
              have h1 : vs[i]? = some (vs[i]'(by omega)) := List.getElem?_eq_getElem _
              exact (hz i _ c h1 h2).1
            obtain ⟨hq1, c, hq2, hq3⟩ := hq
            have h1 : vs[j / P.cellsOf e]? = some (vs[j / P.cellsOf e]'(by omega)) := List.getElem?_eq_getElem _
            have h3 := (hall _ _ c h1 hq2).1
            have h4 := (World.cells?_some h3).2.2 (j % P.cellsOf e) (Nat.mod_lt _ hpos)
            rw [hq3] at h4
            rw [q6l, Nat.mul_comm, Nat.div_add_mod] at h4
            exact h4
          have hsh := V.sh (C := .outer W (immK W)) true (P.cellsOf e) vs a cap css.flatten hj (fun v hv => by
            obtain ⟨i, cs, h1, h2⟩ := hmem v hv
            exact ⟨(hz i v cs h1 h2).2, (hall i v cs h1 h2).2.2.1⟩) hcell (fun hne => by
              have hlt : 0 < len := by
                rw [← hlen]
                cases vs with
                | nil => exact absurd rfl hne
                | cons _ _ => simp
              obtain ⟨v, cs, h1, _⟩ := hR 0 hlt
              have hb := World.cells?_block h1 hok.2
              have hab : (a.add (0 * P.cellsOf e)).block = a.block := by unfold Addr.add; split <;> rfl
              rw [hab] at hb
              exact ⟨if_pos hb, hb⟩) (by omega) hcap
          rw [hlen] at hsh
          exact .cons _ _ _ _ _ hsh (.nil _)
    · rename_i fs hu
      simp only [Bool.and_eq_true, List.all_eq_true, List.contains_iff_mem, decide_eq_true_eq] at hok
      rw [hu]
      dsimp only
      obtain ⟨xs, n, hn, _, hcl, hxl, hget⟩ := DataW.trod_struct hu h
      injection hn with hn
      subst hn
      have hR : ∀ i : Nat, i < fs.size → ∃ (v : AV) (c : List Value), ∀ f : Field, fs[i]? = some f → c = (cs.drop f.offset).take (P.cellsOf f.type) ∧ Ty P fuel f.type v ∧ (∀ c ∈ v.cells, c.one = true) ∧ Vs (.outer W (immK W)) true v.cells c := fun i hi => by
        have hf : fs[i]? = some fs[i] := Array.getElem?_eq_getElem hi
        have := hget i _ hf
        rw [List.getElem?_eq_getElem (by omega)] at this
        have hmem : fs[i].type ∈ ts := hok.1 _ (Array.mem_toList_iff.2 (Array.getElem_mem hi))
        obtain ⟨v, g1, g2, g3, _⟩ := ih _ _ _ hmem this
        refine ⟨v, (cs.drop fs[i].offset).take (P.cellsOf fs[i].type), fun f hf' => ?_⟩
        rw [hf] at hf'
        injection hf' with hf'
        subst hf'
        exact ⟨rfl, g1, g2, g3⟩
      obtain ⟨vs, css, hl1, hl2, hall⟩ := q52 hR
      have hfl : css.flatten = cs := by
        have := (q3c (cs := cs) hok.2 (by simpa using hl2) fun i f c hf hc => by
          have hf' : fs[i]? = some f := by simpa using hf
          obtain ⟨hlt, _⟩ := List.getElem?_eq_some_iff.1 hc
          have h1 : vs[i]? = some (vs[i]'(by omega)) := List.getElem?_eq_getElem _
          exact (hall i _ c h1 hc f hf').1).1
        rw [this, ← hcl]
        simp
      have hfld : ∀ (i : Nat) (v : AV) (c : List Value), vs[i]? = some v → css[i]? = some c → ∃ f, fs[i]? = some f := fun i v c h1 h2 => by
        obtain ⟨hlt, _⟩ := List.getElem?_eq_some_iff.1 h1
        exact ⟨_, Array.getElem?_eq_getElem (by omega)⟩
      have hj : Vs (.outer W (immK W)) true (vs.flatMap AV.cells) css.flatten := Vs.join (by omega) fun i v c h1 h2 => by
        obtain ⟨f, hf⟩ := hfld i v c h1 h2
        exact (hall i v c h1 h2 f hf).2.2.2
      have hone : ∀ c ∈ vs.flatMap AV.cells, c.one = true := fun c hc => by
        obtain ⟨v, hv, hcv⟩ := List.mem_flatMap.1 hc
        obtain ⟨i, hi, e⟩ := List.mem_iff_getElem.1 hv
        have h1 : vs[i]? = some v := by rw [List.getElem?_eq_getElem hi, e]
        have h2 : css[i]? = some (css[i]'(by omega)) := List.getElem?_eq_getElem _
        obtain ⟨f, hf⟩ := hfld i v _ h1 h2
        exact (hall i v _ h1 h2 f hf).2.2.1 c hcv
      rw [hfl] at hj
      refine ⟨.agg (vs.flatMap AV.cells), ⟨vs, rfl, by omega, fun i f x hf hx => ?_⟩, hone, hj, fun _ => rfl, by simp⟩
      have h2 : css[i]? = some (css[i]'(by obtain ⟨hlt, _⟩ := List.getElem?_eq_some_iff.1 hx; omega)) := List.getElem?_eq_getElem _
      obtain ⟨g0, g1, _, g3⟩ := hall i x _ hx h2 f hf
      refine ⟨g1, ?_⟩
      have hxl' := g3.length
      have hq : xs[i]? = some (xs[i]'(by obtain ⟨hlt, _⟩ := List.getElem?_eq_some_iff.1 hx; omega)) := List.getElem?_eq_getElem _
      have hfo : f.offset + P.cellsOf f.type ≤ cs.length := by
        have gen : ∀ (l : List Field) (off tot i : Nat) (f : Field), contig P off l = some tot → l[i]? = some f → f.offset + P.cellsOf f.type ≤ tot := by
          intro l
          induction l with
          | nil => intro off tot i f _ h; simp at h
          | cons a l ihl =>
            intro off tot i f hc hi
            unfold contig at hc
            split at hc
            · rename_i ho
              cases i with
              | zero =>
                simp only [List.getElem?_cons_zero, Option.some.injEq] at hi
                subst hi
                have : ∀ (l : List Field) (off tot : Nat), contig P off l = some tot → off ≤ tot := by
                  intro l
                  induction l with
                  | nil => intro off tot h; simp only [contig, Option.some.injEq] at h; omega
                  | cons b l ihb =>
                    intro off tot h
                    unfold contig at h
                    split at h
                    · have := ihb _ _ h
                      omega
                    · cases h
                have := this _ _ _ hc
                omega
              | succ i => exact ihl _ _ i f hc (by simpa using hi)
            · cases hc
        rw [hcl]
        exact gen _ _ _ i f hok.2 (by simpa using hf)
      rw [← hxl', g0]
      simp
      omega
    · rename_i m e hu
      simp only [Bool.and_eq_true, List.contains_iff_mem, decide_eq_true_eq] at hok
      rw [hu]
      dsimp only
      obtain ⟨xs, n, hn, _, hcl, hxl, hget⟩ := DataW.trod_array hu h
      injection hn with hn
      subst hn
      have hR : ∀ i, i < m → ∃ (v : AV) (c : List Value), c = (cs.drop (i * P.cellsOf e)).take (P.cellsOf e) ∧ Ty P fuel e v ∧ (∀ c ∈ v.cells, c.one = true) ∧ Vs (.outer W (immK W)) true v.cells c := fun i hi => by
        have := hget i hi
        rw [List.getElem?_eq_getElem (by omega)] at this
        obtain ⟨v, g1, g2, g3, _⟩ := ih _ _ _ hok.1 this
        exact ⟨v, _, rfl, g1, g2, g3⟩
      obtain ⟨vs, css, hl1, hl2, hall⟩ := q52 hR
      have pr : ∀ (i : Nat) (v : AV), vs[i]? = some v → ∃ c, css[i]? = some c := fun i v h1 => by
        obtain ⟨hlt, _⟩ := List.getElem?_eq_some_iff.1 h1
        exact ⟨_, List.getElem?_eq_getElem (by omega)⟩
      have hfl : css.flatten = cs := q4y (fun i c hc => by
        obtain ⟨hlt, _⟩ := List.getElem?_eq_some_iff.1 hc
        have h1 : vs[i]? = some (vs[i]'(by omega)) := List.getElem?_eq_getElem _
        exact (hall i _ c h1 hc).1) (by rw [hl2, hcl]; exact hok.2)
      have hj : Vs (.outer W (immK W)) true (vs.flatMap AV.cells) css.flatten := Vs.join (by omega) fun i v c h1 h2 => (hall i v c h1 h2).2.2.2
      have hone : ∀ c ∈ vs.flatMap AV.cells, c.one = true := fun c hc => by
        obtain ⟨v, hv, hcv⟩ := List.mem_flatMap.1 hc
        obtain ⟨i, hi, e⟩ := List.mem_iff_getElem.1 hv
        have h1 : vs[i]? = some v := by rw [List.getElem?_eq_getElem hi, e]
        obtain ⟨c', h2⟩ := pr i v h1
        exact (hall i v _ h1 h2).2.2.1 c hcv
      rw [hfl] at hj
      refine ⟨.agg (vs.flatMap AV.cells), ⟨vs, rfl, hl1, fun v hv => ?_⟩, hone, hj, fun _ => rfl, by simp⟩
      obtain ⟨i, hi, e'⟩ := List.mem_iff_getElem.1 hv
      have h1 : vs[i]? = some v := by rw [List.getElem?_eq_getElem hi, e']
      obtain ⟨c, h2⟩ := pr i v h1
      obtain ⟨g0, g1, _, g3⟩ := hall i v c h1 h2
      refine ⟨g1, ?_⟩
      have hxl' := g3.length
      rw [← hxl', g0]
      have him : i < m := by omega
      have : i * P.cellsOf e + P.cellsOf e ≤ cs.length := by
        rw [hcl, ← hok.2]
        have := Nat.mul_le_mul_right (P.cellsOf e) (Nat.succ_le_of_lt him)
        rw [Nat.succ_mul] at this
        exact this
      simp
      omega
    · cases hok
theorem arg_V {ts : List TypeId} (hts : ∀ t ∈ ts, tyOk P ts t = true) {t : TypeId} (ht : t ∈ ts) {r : Reach} {base : Nat} {u : Value} {d : DataW H} {ps : List MemPlace}
    (h : DataW.Trod enc P W 0 sp hd t u d ps) (hv : Value.okWide P W r base t u) : ∃ n v, Ty P n t v ∧ V (.outer W (immK W)) true v u := by
  obtain ⟨n, hn⟩ := h
  obtain ⟨v, g1, g2, g3, g4, g5⟩ := trod_V hts n t _ _ ht hn
  refine ⟨n, v, g1, ?_⟩
  have hok := hts t ht
  cases ha : aggTy P t with
  | true =>
    have : ∃ cs, u = .agg cs := by
      unfold aggTy at ha
      unfold Value.okWide at hv
      cases hu : P.underlying t with
      | none => rw [hu] at ha; cases ha
      | some d =>
        rw [hu] at ha hv
        cases d <;> first | (cases ha; done) | (obtain ⟨cs, h, _⟩ := hv; exact ⟨cs, h⟩)
    obtain ⟨cs, rfl⟩ := this
    rw [g4 ha]
    exact .agg _ _ _ g2 g3
  | false =>
    rw [g5 ha] at g3
    cases hu : u with
    | agg cs =>
      exfalso
      subst hu
      unfold aggTy at ha
      unfold Value.okWide at hv
      unfold Cell.okWide Cell.ok at hv
      cases hq : P.underlying t with
      | none => rw [hq] at hv; exact hv
      | some d =>
        rw [hq] at ha hv
        cases d <;> first | (cases ha; done) | exact hv
    | _ =>
      subst hu
      simp only [Value.cells] at g3
      cases g3 with
      | cons _ _ _ _ _ h1 _ => exact h1
end
end Go.Den

/- DEN, part Zi: a law with arguments, from what its reading answers. -/
namespace Go.Den
open Go.RowKit Go.ChangeShapes Go.WideShapes Go.ChangeAt
section
variable {H : Type} {enc : TypeId × Value → H} {P : Program} {W : World}
theorem args_V {ts : List TypeId} (hts : ∀ t ∈ ts, tyOk P ts t = true) {r : Reach} {base : Nat} : ∀ (qs : List TypeId) (us : List Value) (ds : List (DataW H)) (ps : List MemPlace), (∀ t ∈ qs, t ∈ ts) →
    DataW.TrodAll enc P W 0 (fun _ => true) true qs us ds ps → (∀ (j : Nat) t v, qs[j]? = some t → us[j]? = some v → Value.okWide P W r base t v) →
    ds.length = qs.length ∧ ∃ vs, Vs (.outer W (immK W)) true vs us ∧ vs.length = qs.length ∧ ∀ (j : Nat) t v, qs[j]? = some t → vs[j]? = some v → ∃ n, Ty P n t v
  | [], [], [], _, _, _, _ => ⟨rfl, [], .nil _, rfl, fun j t v h => by simp at h⟩
  | t :: qs, u :: us, d :: ds, _, hq, h, hv => by
    obtain ⟨p, q, h1, h2, _⟩ := h
    obtain ⟨hl, vs, g1, g2, g3⟩ := args_V hts qs us ds q (fun t ht => hq t (List.mem_cons_of_mem _ ht)) h2 fun j t v h1 h2 => hv (j + 1) t v (by simpa using h1) (by simpa using h2)
    obtain ⟨n, v, k1, k2⟩ := arg_V hts (hq t List.mem_cons_self) h1 (hv 0 t u rfl rfl)
    refine ⟨by simp [hl], v :: vs, .cons _ _ _ _ _ k2 g1, by simp [g2], fun j t' v' hj hj' => ?_⟩
    cases j with
    | zero =>
      simp only [List.getElem?_cons_zero, Option.some.injEq] at hj hj'
      subst hj hj'
      exact ⟨n, k1⟩
    | succ j => exact g3 j t' v' (by simpa using hj) (by simpa using hj')
  | [], _ :: _, _, _, _, h, _ => by cases h
  | [], [], _ :: _, _, _, h, _ => by cases h
  | _ :: _, [], _, _, _, h, _ => by cases h
  | _ :: _, _ :: _, [], _, _, h, _ => by cases h
theorem qcx (hl : laidOutB P = true) {W' : World} (hb : Below W.heap.size W W') : ∀ (qs : List TypeId) (us : List Value) (ds : List (DataW H)) (ps : List MemPlace), (∀ t ∈ qs, P.readableRec t = true ∧ t < P.types.size) →
    DataW.TrodAll enc P W 0 (fun _ => true) true qs us ds ps → DataW.TrodAll enc P W' 0 (fun b => decide (b < W.heap.size)) true qs us ds ps
  | [], [], [], _, _, h => h
  | t :: qs, u :: us, d :: ds, _, hq, h => by
    obtain ⟨p, q, h1, h2, e⟩ := h
    have hlt : ∀ x ∈ p, x.block < W.heap.size := by
      obtain ⟨n, hn⟩ := h1
      exact DataW.trod_lt n _ _ _ hn
    exact ⟨p, q, Below.trod hl (hq t List.mem_cons_self).1 (hq t List.mem_cons_self).2 h1 hb hlt, qcx hl hb qs us ds q (fun t ht => hq t (List.mem_cons_of_mem _ ht)) h2, e⟩
  | [], _ :: _, _, _, _, h => by cases h
  | [], [], _ :: _, _, _, h => by cases h
  | _ :: _, [], _, _, _, h => by cases h
  | _ :: _, _ :: _, [], _, _, h => by cases h
end
end Go.Den

/- DEN, part Zk: a law with arguments, where package variables are laid. -/
namespace Go.Den
open Go.RowKit Go.ChangeShapes Go.WideShapes Go.ChangeAt
def GlobOK (E : Env) (W : World) : Prop := ∀ g cs, E.glob g = some cs → V (.outer W (immK W)) true (.rop cs) (.pointer (some ⟨g, 0, none⟩))
theorem GlobOK.none {E : Env} (hg : ∀ g, E.glob g = none) (W : World) : GlobOK E W := fun g cs h => by rw [hg g] at h; cases h
theorem qfa {E : Env} {n : Nat} (hcf : CallOK E (callF E n)) {f : FuncId} {W : World} (hg : GlobOK E W) {vs : List AV} {us : Array Value} (hv : Vs (.outer W (immK W)) true vs us.toList)
    (h : answer E n f vs = some (.bool true)) {fn : Func} {c : Code} (hfn : E.P.funcs[f]? = some fn) (hb : fn.body = some c) :
    Calls E.P f us W fun e w' => e = .returned (.bool true) ∧ Below W.heap.size W w' := by
  have hk : ∀ b, immK W b = .imm ∨ immK W b = .oth := fun b => by
    unfold immK
    split
    · exact .inl rfl
    · exact .inr rfl
  have hr : HR E (.outer W (immK W)) := outer_hr (fun b hb => by unfold immK; rw [if_neg (by omega)]) hg
  have := qfh hcf (us := us) hr (fun b s e => by rcases hk b with h | h <;> (have e' : immK W b = .loc s := e; rw [h] at e'; cases e')) hv.weaken h
  rcases this with ⟨_, h2⟩ | ⟨u, w', h1, _⟩
  · refine Calls.mono h2 fun e w' ⟨u, he, C', hw, hv, ev, _⟩ => ?_
    subst hw
    rw [he, hv.bool_inv]
    exact ⟨rfl, ev.below hk⟩
  · exfalso
    have hpr : program.run E.P W = .ok E.P W := rfl
    unfold callFunc at h1
    simp only [Sem.run_bind, hpr, Result.andThen_ok, hfn] at h1
    split at h1
    · cases h1
    · rw [if_neg (by simp [hb])] at h1
      cases h1
theorem q4b {E : Env} {C : Checked} {os : Os} {f : FuncId} {fn : Func} {c : Code} {s : ChangeSpec} {conds : List PathCond} {H : Type} {enc : TypeId × Value → H} {tb : TypeId} {laid : List (String × DataW Unit)}
    (hP : E.P = C.prog) (hg : ∀ W, laidMetH C.prog laid W → GlobOK E W) (hcf : ∀ n, CallOK E (callF E n))
    (own : ownKnob C.prog.godebug = none) (started : os.Started) (noInit : C.prog.inits.idxOf? f = none) (hfn : C.prog.funcs[f]? = some fn) (hb : fn.body = some c)
    (witness : ∃ (w : World) (tape : Tape) (i : Input), w.os = os ∧ (w.forCall tape i).Shaped C.prog ∧ i.vars = [] ∧ Input.okWide C.prog (w.forCall tape i) .any w.heap.size f i ∧
      ((s.pre enc C.prog fn conds false (w.forCall tape i).memory i.args ∧ laidMetH C.prog laid (w.forCall tape i).memory) ∧ sizedMet enc C.prog fn (OpenSpec.ofChange s) false (w.forCall tape i).memory i.args) ∧ ({} : Assume).holds C.prog (lone (Frame.enter C.prog f i.args .normal) [] (w.forCall tape i)))
    (hl : laidOutB C.prog = true) (hvars : s.vars = []) (hs : ∀ (H : Type) (ds : List (DataW H)), ds.length = fn.params.size → s.fn H ds = { results := [.lit (.bool true)], args := ds })
    (hres : fn.resultTypes = #[tb]) (htb : C.prog.underlying tb = some .bool)
    {ts : List TypeId} (hts : ∀ t ∈ ts, tyOk C.prog ts t = true) (hpar : ∀ t ∈ fn.params.toList, t ∈ ts ∧ C.prog.readableRec t = true ∧ t < C.prog.types.size)
    (law : ∀ vs : List AV, vs.length = fn.params.size → (∀ (j : Nat) t v, fn.params[j]? = some t → vs[j]? = some v → ∃ n, Ty C.prog n t v) → ∃ n, answer E n f vs = some (.bool true)) :
    ReturnsInHanded {} C os f .any (fun w args => (s.pre enc C.prog fn conds false w args ∧ laidMetH C.prog laid w) ∧ sizedMet enc C.prog fn (OpenSpec.ofChange s) false w args) (s.post enc C.prog fn false true false false) := by
  refine returnsInHanded_of_change_and (C := C) (X := fun w _ => laidMetH C.prog laid w) (fun _ _ _ hh h => h.of_heap hh) own started noInit hfn witness ?_
  intro W base args ds gs before hval0 hW hcnd _ hL _
  have hW' := hW
  obtain ⟨p, q, hA0, hV, hpq, hfz, hnd⟩ := hW
  rw [hvars] at hV
  obtain ⟨rfl, rfl⟩ := trodVars_none hV
  obtain ⟨hlen, vs, h1, h2, h3⟩ := args_V hts fn.params.toList args.toList ds p (fun t ht => (hpar t ht).1) hA0 fun j t v hj hj' => hval0 j t v (by simpa using hj) (by simpa using hj')
  obtain ⟨n, hn⟩ := law vs (by simpa using h2) fun j t v hj hj' => h3 j t v (by simpa using hj) hj'
  have hc := qfa (hcf n) (hg W hL) h1 hn (by rw [hP]; exact hfn) hb
  rw [hP] at hc
  refine hc.mono fun e W' ⟨he, hbel⟩ => ?_
  subst he
  refine ⟨_, rfl, ds, [], before, [], p, [], hW', ?_, ?_, ?_, hbel.frame _, fun h => by cases h⟩
  · rw [List.append_nil, hs H ds (by simpa using hlen), hres]
    exact trodAll_cons_mk (shut_bool htb _) trodAll_mk0
  · rw [List.append_nil, hs H ds (by simpa using hlen)]
    exact qcx hl hbel _ _ _ _ (fun t ht => (hpar t ht).2) hA0
  · rw [hvars, List.append_nil, hs H ds (by simpa using hlen)]
    rfl
end Go.Den
