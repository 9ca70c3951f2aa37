/- Texts put together: DenJ, DenK, DenL, DenM, DenN, DenO, DenP. -/
import Derived.Test.YtikkpecdkdgmfaaDoorMb

/- DEN, part J: addresses, indexes, cuts, structs, lengths, as the machine does them. -/
namespace Go.Den
open Go.RowKit

section
variable {E : Env} {C : Ctx} {p q : Bool}

theorem aliveZ_row {H : Heap} {id ver sz : Nat} (h : A.aliveZ H id ver sz = true) : ∃ ty es, H[id]? = some (.row ver sz ty es) := by
  unfold A.aliveZ at h
  split at h
  · rename_i v z ty es hr
    simp only [Bool.and_eq_true, beq_iff_eq] at h
    obtain ⟨rfl, rfl⟩ := h
    exact ⟨ty, es, hr⟩
  · simp at h

theorem ptr_alive {id ver i off : Nat} {u : Value} (h : V C p (.ptr id ver i off) u) (ha : A.alive C.H id ver = true) : ∃ sz ty es, C.H[id]? = some (.row ver sz ty es) ∧ u = .pointer (some ⟨(C.ρ id).1, (C.ρ id).2 + (i * sz + off), none⟩) ∧ PtrOk C id ver i off u := by
  obtain ⟨sz, ty, es, hr⟩ := alive_row ha
  cases h with
  | ptr _ _ _ _ _ h0 h1 => exact ⟨sz, ty, es, hr, (h1.2 ver sz ty es hr).2 rfl, h1⟩

theorem fieldOff_run {s i fo : Nat} (h : E.fieldOff s i = some fo) (a : Addr) (w : World) : (Instr.fieldAt s (.pointer (some a)) i).run E.P w = .ok (.pointer (some (a.add fo))) w := by
  unfold Env.fieldOff Env.fieldOf at h
  split at h
  · rename_i f hf
    split at h
    · rename_i k hk
      simp only [Option.some.injEq] at h
      subst h
      split at hf
      · rename_i fs hd
        have hs := size_run (w := w) hk
        simp only [Instr.fieldAt, Sem.run_bind, run_underlying hd, Result.andThen_ok, hf, Instr.sureAddr, Sem.run_pure, fieldPlace, hs, Nat.add_one_ne_zero, if_false]
      · simp at hf
    · simp at h
  · simp at h

theorem fa_ok {s i fo : Nat} {x v : AV} {u0 : Value} (hf : E.fieldOff s i = some fo) (h : A.fa fo x C.H = some v) (hx : V C p x u0) : ∃ u, (Instr.fieldAt s u0 i).run E.P C.w = .ok u C.w ∧ V C false v u := by
  unfold A.fa at h
  split at h
  · rename_i cs
    simp only [Option.some.injEq] at h
    subst h
    cases hx with
    | rop _ _ a us h0 h1 h2 h3 h4 =>
      have hab : (a.add fo).block = a.block := by unfold Addr.add; split <;> rfl
      refine ⟨_, fieldOff_run hf a C.w, .rop _ _ _ _ (fun c hc => h0 c (List.mem_of_mem_drop hc)) (h1.drop fo) (fun j u hu => ?_) (by rw [hab]; exact h3) (by rw [hab]; exact h4)⟩
      rw [List.getElem?_drop] at hu
      rw [add_add]
      exact h2 _ _ hu
  · rename_i id ver i' o
    cases ha : A.alive C.H id ver
    · rw [ha] at h; simp at h
    · rw [ha] at h
      simp only [cond_true, Option.some.injEq] at h
      subst h
      obtain ⟨sz, ty, es, hr, rfl, h1⟩ := ptr_alive hx ha
      refine ⟨_, fieldOff_run hf _ C.w, .ptr _ _ _ _ _ rfl ⟨h1.1, fun v sz' ty' es' hr' => ?_⟩⟩
      obtain ⟨g1, g2⟩ := h1.2 v sz' ty' es' hr'
      refine ⟨g1, fun e => ?_⟩
      have := g2 e
      injection this with this
      injection this with this
      rw [this, Addr.add_lit]
      congr 2
      simp only [Addr.mk.injEq, true_and, and_true]
      omega
  · simp at h

/-- The same at a place that is reckoned. -/
theorem add_ok {x v : AV} {n : Nat} {u0 : Value} (h : A.fa n x C.H = some v) (hx : V C p x u0) : ∃ a, u0 = .pointer (some a) ∧ V C false v (.pointer (some (a.add n))) := by
  unfold A.fa at h
  split at h
  · rename_i cs
    simp only [Option.some.injEq] at h
    subst h
    cases hx with
    | rop _ _ a us h0 h1 h2 h3 h4 =>
      have hab : (a.add n).block = a.block := by unfold Addr.add; split <;> rfl
      refine ⟨a, rfl, .rop _ _ _ _ (fun c hc => h0 c (List.mem_of_mem_drop hc)) (h1.drop n) (fun j u hu => ?_) (by rw [hab]; exact h3) (by rw [hab]; exact h4)⟩
      rw [List.getElem?_drop] at hu
      rw [add_add]
      exact h2 _ _ hu
  · rename_i id ver i' o
    cases ha : A.alive C.H id ver
    · rw [ha] at h; simp at h
    · rw [ha] at h
      simp only [cond_true, Option.some.injEq] at h
      subst h
      obtain ⟨sz, ty, es, hr, rfl, h1⟩ := ptr_alive hx ha
      refine ⟨_, rfl, .ptr _ _ _ _ _ rfl ⟨h1.1, fun v sz' ty' es' hr' => ?_⟩⟩
      obtain ⟨g1, g2⟩ := h1.2 v sz' ty' es' hr'
      refine ⟨g1, fun e => ?_⟩
      have := g2 e
      injection this with this
      injection this with this
      rw [this, Addr.add_lit]
      congr 2
      simp only [Addr.mk.injEq, true_and, and_true]
      omega
  · simp at h

theorem nilCheck_ok {x v : AV} {u0 : Value} {P : Program} (h : A.nilCheck x C.H = some v) (hx : V C p x u0) : V C false v u0 ∧ (∀ o : Oper, ∀ a : Act, ∀ y, o.op = .nilCheck y → a.eval y = u0 → (execOp a.eval o).run P C.w = .ok (.value u0) C.w) := by
  unfold A.nilCheck at h
  split at h
  · simp only [Option.some.injEq] at h
    subst h
    cases hx with
    | rop _ _ a us h0 h1 h2 h3 h4 =>
      refine ⟨.rop _ _ _ _ h0 h1 h2 h3 h4, fun o act y ho he => ?_⟩
      unfold execOp
      simp only [ho, he]
      rfl
  · rename_i id ver i o
    cases ha : A.alive C.H id ver
    · rw [ha] at h; simp at h
    · rw [ha] at h
      simp only [cond_true, Option.some.injEq] at h
      subst h
      have hx' := hx.weakenB
      obtain ⟨sz, ty, es, hr, rfl, h1⟩ := ptr_alive hx ha
      refine ⟨hx', fun o act y ho he => ?_⟩
      unfold execOp
      simp only [ho, he]
      rfl
  · simp only [Option.some.injEq] at h
    subst h
    cases hx with
    | fn _ f a b as bs h1 h2 =>
      refine ⟨.fn _ _ _ _ _ _ h1.weakenB h2.weakenB, fun o act y ho he => ?_⟩
      unfold execOp
      simp only [ho, he]
      rfl
  · simp at h

theorem idx_ok {t e : TypeId} {sz : Nat} {s i v : AV} {u1 u2 : Value} (ht : E.P.underlying t = some (.slice e)) (hsz : E.size e = some sz) (h : A.idx sz s i C.H = some v) (hx : V C p s u1) (hy : V C q i u2) :
    ∃ u, (Instr.indexAt t u1 u2).run E.P C.w = .ok u C.w ∧ V C false v u := by
  have hrun : ∀ (a : Addr) (n c : Nat) (k : IntKind) (i : Int), 0 ≤ i → i < n → (Instr.indexAt t (.slice (some a) n c) (.int k i)).run E.P C.w = .ok (.pointer (some (a.add (i.toNat * sz)))) C.w := by
    intro a n c k i h0 h1
    simp only [Instr.indexAt, Sem.run_bind, asIntOf, Sem.run_pure, Result.andThen_ok, run_underlying ht, size_run hsz]
    rw [if_pos ⟨h0, h1⟩]
    simp only [Sem.run_bind, size_run hsz, Result.andThen_ok, Sem.run_pure]
  unfold A.idx at h
  split at h
  · rename_i z es k i
    split at h
    · rename_i hc
      obtain ⟨h0, h1, rfl⟩ := hc
      rw [Option.map_eq_some_iff] at h
      obtain ⟨e', he, rfl⟩ := h
      have e2 := hy.int_inv
      subst e2
      cases hx with
      | sh _ _ _ a c us g1 g2 g3 g4 g5 g6 =>
        have hge : Good z e' := g2 e' (List.mem_of_getElem? he)
        have hne : es ≠ [] := by rintro rfl; simp at he
        have hab : (a.add (i.toNat * z)).block = a.block := by unfold Addr.add; split <;> rfl
        refine ⟨_, hrun a _ _ k i h0 (by omega), .rop _ _ _ _ hge.2 (elem_cells g2 he g1) (fun j u hu => ?_) (by rw [hab]; exact (g4 hne).1) (by rw [hab]; exact (g4 hne).2)⟩
        rw [List.getElem?_take] at hu
        split at hu
        · rw [List.getElem?_drop] at hu
          rw [add_add]
          exact g3 _ _ hu
        · simp at hu
    · simp at h
  · rename_i id ver off n cap k i
    split at h
    · rename_i hc
      obtain ⟨h0, h1, ha⟩ := hc
      simp only [Option.some.injEq] at h
      subst h
      obtain ⟨ty, es, hr⟩ := aliveZ_row ha
      have e2 := hy.int_inv
      subst e2
      cases hx with
      | sl _ _ _ _ _ _ g0 g1 =>
        obtain ⟨a, c, rfl, g2, g3, g4, g5, g6⟩ := (g1.2 ver sz ty es hr).2 rfl
        have hab := g5 (by omega)
        subst hab
        refine ⟨_, hrun _ _ _ k i h0 (by omega), .ptr _ _ _ _ _ rfl ⟨g1.1, fun v sz' ty' es' hr' => ?_⟩⟩
        rw [hr] at hr'
        injection hr' with hr'
        injection hr' with e1 e2 e3 e4
        subst e1 e2 e3 e4
        refine ⟨Nat.le_refl _, fun _ => ?_⟩
        rw [Addr.add_lit]
        congr 2
        simp only [Addr.mk.injEq, true_and, and_true]
        rw [Nat.add_mul]
        omega
    · simp at h
  · simp at h

theorem idxArr_ok {t e : TypeId} {sz n : Nat} {x i v : AV} {u1 u2 : Value} (ht : E.P.underlying t = some (.array n e)) (hsz : E.size e = some sz) (h : A.idxArr sz n x i C.H = some v) (hx : V C p x u1) (hy : V C q i u2) :
    ∃ u, (Instr.indexAt t u1 u2).run E.P C.w = .ok u C.w ∧ V C false v u := by
  unfold A.idxArr at h
  split at h
  · rename_i k i
    split at h
    · rename_i hc
      have e2 := hy.int_inv
      subst e2
      obtain ⟨a, rfl, hv⟩ := add_ok h hx
      refine ⟨_, ?_, hv⟩
      simp only [Instr.indexAt, Sem.run_bind, asIntOf, Sem.run_pure, Result.andThen_ok, run_underlying ht, size_run hsz, Instr.sureAddr]
      rw [if_pos hc]
      simp only [Sem.run_bind, size_run hsz, Result.andThen_ok, Sem.run_pure]
    · simp at h
  · simp at h

theorem idxArr_lp {t e : TypeId} {sz n : Nat} {k : IntKind} {j : Int} (ht : E.P.underlying t = some (.array n e)) (hsz : E.size e = some sz) (h0 : 0 ≤ j ∧ j < n) (a : Addr) (w : World) :
    (Instr.indexAt t (.pointer (some a)) (.int k j)).run E.P w = .ok (.pointer (some (a.add (j.toNat * sz)))) w := by
  simp only [Instr.indexAt, Sem.run_bind, asIntOf, Sem.run_pure, Result.andThen_ok, run_underlying ht, size_run hsz, Instr.sureAddr]
  rw [if_pos h0]
  simp only [Sem.run_bind, size_run hsz, Result.andThen_ok, Sem.run_pure]

/-- Part of a struct, of an array, by value. -/
theorem part_ok {t : TypeId} {ag : Bool} {sz off : Nat} {cs : List AV} {us : Array Value} {v : AV} (hag : E.isAgg t = some ag) (hsz : E.size t = some sz) (h : A.ofList ag sz cs off = some v) (hv : Vs C p cs us.toList) (h1 : ∀ c ∈ cs, c.one = true) (w : World) :
    ∃ u, (part t us off).run E.P w = .ok u w ∧ V C p v u := by
  unfold A.ofList at h
  cases ag
  · simp only [cond_false] at h
    obtain ⟨u, g1, g2⟩ := hv.get h
    refine ⟨u, ?_, g2⟩
    have g1' : us[off]? = some u := by simpa using g1
    simp only [part, Sem.run_bind, isAgg_run hag rfl, Result.andThen_ok, Bool.false_eq_true, if_false, g1', Sem.run_pure]
  · simp only [cond_true] at h
    split at h
    · rename_i hl
      simp only [Option.some.injEq] at h
      subst h
      refine ⟨.agg (us.extract off (off + sz)), ?_, .agg _ _ _ (fun c hc => h1 c (List.mem_of_mem_drop (List.mem_of_mem_take hc))) ?_⟩
      · simp only [part, Sem.run_bind, isAgg_run hag rfl, Result.andThen_ok, if_true, size_run hsz, Sem.run_pure]
      · have : (us.extract off (off + sz)).toList = (us.toList.drop off).take sz := by
          rw [Array.toList_extract, List.extract_eq_take_drop]
          congr 1
          omega
        rw [this]
        exact (hv.drop off).take sz
    · simp at h

theorem agg_parts {cs : List AV} {u : Value} (h : V C p (.agg cs) u) : ∃ us : Array Value, u = .agg us ∧ Vs C p cs us.toList ∧ ∀ c ∈ cs, c.one = true := by
  cases h with | agg _ _ us h0 h => exact ⟨us, rfl, h, h0⟩

theorem field_ok {t : TypeId} {i : Nat} {f : Field} {ag : Bool} {sz : Nat} {x v : AV} {u0 : Value} (hf : E.fieldOf t i = some f) (hag : E.isAgg f.type = some ag) (hsz : E.size f.type = some sz) (h : A.field ag sz f.offset x = some v) (hx : V C p x u0) :
    ∃ u, (Instr.field t u0 i).run E.P C.w = .ok u C.w ∧ V C p v u := by
  unfold A.field at h
  split at h
  · rename_i cs
    obtain ⟨us, rfl, h1, h2⟩ := agg_parts hx
    obtain ⟨u, g1, g2⟩ := part_ok hag hsz h h1 h2 C.w
    refine ⟨u, ?_, g2⟩
    unfold Env.fieldOf at hf
    split at hf
    · rename_i fs hd
      simp only [Instr.field, Sem.run_bind, run_underlying hd, Result.andThen_ok, hf, asAgg, Sem.run_pure, g1]
    · simp at hf
  · simp at h

theorem indexArr_ok {t e : TypeId} {ag : Bool} {sz n : Nat} {x i v : AV} {u1 u2 : Value} (ht : E.P.underlying t = some (.array n e)) (hag : E.isAgg e = some ag) (hsz : E.size e = some sz) (h : A.indexArr ag sz n x i = some v) (hx : V C p x u1) (hy : V C q i u2) :
    ∃ u, (Instr.index t u1 u2).run E.P C.w = .ok u C.w ∧ V C p v u := by
  unfold A.indexArr at h
  split at h
  · rename_i cs k i
    split at h
    · rename_i hc
      have e2 := hy.int_inv
      subst e2
      obtain ⟨us, rfl, h1, h2⟩ := agg_parts hx
      obtain ⟨u, g1, g2⟩ := part_ok hag hsz h h1 h2 C.w
      refine ⟨u, ?_, g2⟩
      simp only [Instr.index, Sem.run_bind, asIntOf, Sem.run_pure, Result.andThen_ok, run_underlying ht]
      rw [if_pos hc]
      simp only [Sem.run_bind, size_run hsz, Result.andThen_ok, g1]
    · simp at h
  · simp at h

theorem index_ok {t : TypeId} {s i v : AV} {u1 u2 : Value} (ht : E.P.underlying t = some .string) (h : A.index s i = some v) (hx : V C p s u1) (hy : V C q i u2) :
    ∃ u, (Instr.index t u1 u2).run E.P C.w = .ok u C.w ∧ V C true v u := by
  unfold A.index at h
  split at h
  · rename_i l k i
    split at h
    · rename_i h0
      rw [Option.map_eq_some_iff] at h
      obtain ⟨b, hb, rfl⟩ := h
      have e2 := hy.int_inv
      subst e2
      obtain ⟨s, rfl, rfl⟩ := hx.str_inv
      refine ⟨.int .u8 b.toNat, ?_, .int _ _ _⟩
      have hb' : s[i.toNat]? = some b := by
        have h1 : s.data[i.toNat]? = some b := by simpa using hb
        obtain ⟨hlt, he⟩ := Array.getElem?_eq_some_iff.1 h1
        rw [getElem?_pos s i.toNat hlt]
        exact congrArg some he
      simp only [Instr.index, Sem.run_bind, asIntOf, Sem.run_pure, Result.andThen_ok, run_underlying ht, if_pos h0, hb']
    · simp at h
  · simp at h

theorem len_ok {t ty e : TypeId} {x v : AV} {u0 : Value} (ht : E.P.underlying t = some (.slice e)) (h : A.len x C.H = some v) (hx : V C p x u0) : ∃ u, (Builtin.len_ #[t] ty #[u0]).run E.P C.w = .ok u C.w ∧ V C true v u := by
  have hrun : ∀ (b : Option Addr) (n c : Nat), (Builtin.len_ #[t] ty #[.slice b n c]).run E.P C.w = .ok (.int .i64 n) C.w := fun b n c => by
    simp [Builtin.len_, run_underlying ht, goInt]
  unfold A.len at h
  split at h
  · cases hx
    simp only [Option.some.injEq] at h
    subst h
    exact ⟨_, hrun none 0 0, .int _ _ _⟩
  · cases hx
    simp only [Option.some.injEq] at h
    subst h
    exact ⟨_, hrun _ _ _, .int _ _ _⟩
  · rename_i id ver off n cap
    cases ha : A.alive C.H id ver
    · rw [ha] at h; simp at h
    · rw [ha] at h
      simp only [cond_true, Option.some.injEq] at h
      subst h
      obtain ⟨sz, ty', es, hr⟩ := alive_row ha
      cases hx with
      | sl _ _ _ _ _ _ g0 g1 =>
        obtain ⟨a, c, rfl, _⟩ := (g1.2 ver sz ty' es hr).2 rfl
        exact ⟨_, hrun _ _ _, .int _ _ _⟩
  · simp at h

theorem lenStr_ok {t ty : TypeId} {x v : AV} {u0 : Value} (ht : E.P.underlying t = some .string) (h : A.lenStr x = some v) (hx : V C p x u0) : ∃ u, (Builtin.len_ #[t] ty #[u0]).run E.P C.w = .ok u C.w ∧ V C true v u := by
  unfold A.lenStr at h
  split at h
  · obtain ⟨s, rfl, rfl⟩ := hx.str_inv
    simp only [Option.some.injEq] at h
    subst h
    refine ⟨.int .i64 s.size, by simp [Builtin.len_, run_underlying ht, goInt], ?_⟩
    have : s.data.toList.length = s.size := by rw [Array.length_toList]; rfl
    rw [this]
    exact .int _ _ _
  · simp at h

end
end Go.Den

/- DEN, part K: cuts of texts and slices, structs and slices out of parts, as the machine does them. -/
namespace Go.Den
open Go.RowKit

section
variable {E : Env} {C : Ctx} {p q : Bool}

/-- An operand that may lack. -/
def OptV (C : Ctx) : Option AV → Option Value → Prop
  | none, none => True
  | some v, some u => V C false v u
  | _, _ => False

theorem opt_evals {lam : Nat → Nat} {st : St} {a : Act} (hr : HR E C) (hf : FrameR C lam st a) {x : Option Operand} {l : List AV} (h : evals E st x.toList = some l) : OptV C l.head? (x.map a.eval) ∧ (l = [] ↔ x = none) := by
  have := evals_ok hr hf h
  cases x with
  | none => cases this; exact ⟨trivial, by simp⟩
  | some x => cases this with | cons _ v u vs us h1 h2 => cases h2; exact ⟨h1, by simp⟩

theorem bound_some {v : AV} {u : Value} {d a : Nat} (h : A.bound (some v) d = some a) (hv : V C p v u) : ∃ k i, u = .int k i ∧ 0 ≤ i ∧ a = i.toNat := by
  unfold A.bound at h
  split at h
  · rename_i e; cases e
  · rename_i k i e
    injection e with e
    subst e
    split at h
    · simp only [Option.some.injEq] at h
      exact ⟨_, _, hv.int_inv, by assumption, h.symm⟩
    · simp at h
  · simp at h

theorem sliceBound_run {P : Program} {w : World} {k : IntKind} {i : Int} {y : Nat} {code : BoundsCode} (h0 : 0 ≤ i) (h1 : i.toNat ≤ y) : (Instr.sliceBound (.int k i) y code).run P w = .ok i.toNat w := by
  have h2 : 0 ≤ i ∧ i ≤ y := ⟨h0, by omega⟩
  simp only [Instr.sliceBound, Sem.run_bind, asIntOf, Sem.run_pure, Result.andThen_ok]
  rw [if_pos h2]
  rfl

/-- The three bounds. -/
theorem bounds_run {P : Program} {w : World} {isSl : Bool} {len cap ccap a b c : Nat} {lo hi mx : Option AV} {ulo uhi umx : Option Value} (hlo : OptV C lo ulo) (hhi : OptV C hi uhi) (hmx : OptV C mx umx)
    (ha : A.bound lo 0 = some a) (hb : A.bound hi len = some b) (hc : A.bound mx cap = some c) (hmh : mx = none ∨ hi ≠ none) (hab : a ≤ b) (hbc : b ≤ c) (hcc : c ≤ cap) (hcap : cap ≤ ccap) :
    (Instr.sliceBounds isSl len ccap ulo uhi umx).run P w = .ok (a, b, if umx = none then ccap else c) w := by
  have hl : (ulo = none ∧ a = 0) ∨ ∃ k i, ulo = some (.int k i) ∧ 0 ≤ i ∧ a = i.toNat := by
    cases lo with
    | none =>
      cases ulo with
      | none => simp [A.bound] at ha; exact .inl ⟨rfl, ha.symm⟩
      | some _ => exact hlo.elim
    | some v =>
      cases ulo with
      | none => exact hlo.elim
      | some u =>
        obtain ⟨k, i, rfl, h0, rfl⟩ := bound_some ha hlo
        exact .inr ⟨k, i, rfl, h0, rfl⟩
  clear ha hlo
  have hlow : ∀ code, a ≤ b → ((ulo = none ∧ a = 0) ∨ ∃ k i, ulo = some (.int k i) ∧ 0 ≤ i ∧ a = i.toNat ∧ (Instr.sliceBound (.int k i) b code).run P w = .ok i.toNat w) := fun code hab => by
    rcases hl with h | ⟨k, i, h1, h2, h3⟩
    · exact .inl h
    · exact .inr ⟨k, i, h1, h2, h3, sliceBound_run h2 (by omega)⟩
  cases mx with
  | none =>
    cases umx with
    | some _ => exact hmx.elim
    | none =>
      simp only [A.bound, Option.some.injEq] at hc
      subst hc
      have hlow := hlow .sliceB hab
      cases hi with
      | none =>
        cases uhi with
        | some _ => exact hhi.elim
        | none =>
          simp only [A.bound, Option.some.injEq] at hb
          subst hb
          rcases hlow with ⟨rfl, rfl⟩ | ⟨k0, i0, rfl, _, rfl, hr⟩
          · simp [Instr.sliceBounds]
          · simp [Instr.sliceBounds, hr]
      | some v =>
        cases uhi with
        | none => exact hhi.elim
        | some u =>
          obtain ⟨k, i, rfl, h0, rfl⟩ := bound_some hb hhi
          have := sliceBound_run (P := P) (w := w) (k := k) (code := if isSl = true then BoundsCode.sliceAcap else .sliceAlen) h0 (show i.toNat ≤ ccap by omega)
          rcases hlow with ⟨rfl, rfl⟩ | ⟨k0, i0, rfl, _, rfl, hr⟩
          · simp [Instr.sliceBounds, this]
          · simp [Instr.sliceBounds, this, hr]
  | some mv =>
    cases umx with
    | none => exact hmx.elim
    | some um =>
      obtain ⟨k2, j, rfl, g0, rfl⟩ := bound_some hc hmx
      have hm := sliceBound_run (P := P) (w := w) (k := k2) (code := if isSl = true then BoundsCode.slice3Acap else .slice3Alen) g0 (show j.toNat ≤ ccap by omega)
      have hlow := hlow .slice3C hab
      cases hi with
      | none => rcases hmh with h | h <;> simp at h
      | some v =>
        cases uhi with
        | none => exact hhi.elim
        | some u =>
          obtain ⟨k, i, rfl, h0, rfl⟩ := bound_some hb hhi
          have := sliceBound_run (P := P) (w := w) (k := k) (code := BoundsCode.slice3B) h0 hbc
          rcases hlow with ⟨rfl, rfl⟩ | ⟨k0, i0, rfl, _, rfl, hr⟩
          · simp [Instr.sliceBounds, this, hm]
          · simp [Instr.sliceBounds, this, hm, hr]

theorem sliceStr_ok {t : TypeId} {x v : AV} {lo hi : Option AV} {ulo uhi : Option Value} {u0 : Value} (ht : E.P.underlying t = some .string) (hlo : OptV C lo ulo) (hhi : OptV C hi uhi) (h : A.sliceStr x lo hi = some v) (hx : V C p x u0) :
    ∃ u, (Instr.sliceAt t u0 ulo uhi none).run E.P C.w = .ok u C.w ∧ V C true v u := by
  unfold A.sliceStr at h
  split at h
  · rename_i l
    obtain ⟨s, rfl, rfl⟩ := hx.str_inv
    simp only [Option.bind_eq_some_iff] at h
    obtain ⟨a, ha, b, hb, hc⟩ := h
    split at hc
    · rename_i hab
      simp only [Option.some.injEq] at hc
      subst hc
      have hl : s.data.toList.length = s.size := by rw [Array.length_toList]; rfl
      rw [hl] at hb hab
      have hbr := bounds_run (P := E.P) (w := C.w) (isSl := false) (C := C) (len := s.size) (cap := s.size) (ccap := s.size) (mx := none) (umx := none) (c := s.size) hlo hhi trivial ha hb rfl (.inl rfl) hab.1 hab.2 (Nat.le_refl _) (Nat.le_refl _)
      refine ⟨.string (s.extract a b), ?_, ?_⟩
      · simp only [Instr.sliceAt, Sem.run_bind, run_underlying ht, Result.andThen_ok, Instr.slice, hbr, Option.isSome_none, Bool.false_eq_true, if_false, Sem.run_pure]
      · have : (s.data.toList.drop a).take (b - a) = (s.extract a b).data.toList := by
          simp [ByteArray.data_extract, List.extract_eq_take_drop]
        rw [this]
        exact .str _ _
    · simp at hc
  · simp at h

theorem slice_ok {t e : TypeId} {sz : Nat} {x v : AV} {lo hi mx : Option AV} {ulo uhi umx : Option Value} {u0 : Value} (ht : E.P.underlying t = some (.slice e)) (hsz : E.size e = some sz) (hlo : OptV C lo ulo) (hhi : OptV C hi uhi) (hmx : OptV C mx umx) (hmh : mx = none ∨ hi ≠ none)
    (h : A.slice sz x lo hi mx C.H = some v) (hx : V C p x u0) : ∃ u, (Instr.sliceAt t u0 ulo uhi umx).run E.P C.w = .ok u C.w ∧ V C false v u := by
  have hrun : ∀ {b : Option Addr} {len cap l h m : Nat}, (Instr.sliceBounds true len cap ulo uhi umx).run E.P C.w = .ok (l, h, m) C.w → (Instr.sliceAt t (.slice b len cap) ulo uhi umx).run E.P C.w = .ok (.slice (if m = l then b else b.map (·.add (l * sz))) (h - l) (m - l)) C.w := by
    intro b len cap l h m hb
    simp only [Instr.sliceAt, Sem.run_bind, run_underlying ht, Result.andThen_ok, Instr.slice, hb, size_run hsz, Sem.run_pure]
  unfold A.slice at h
  split at h
  · cases hx
    simp only [Option.bind_eq_some_iff] at h
    obtain ⟨a, ha, b, hb, c, hc, h⟩ := h
    split at h
    · rename_i hz
      obtain ⟨rfl, rfl, rfl⟩ := hz
      simp only [Option.some.injEq] at h
      subst h
      have hbr := bounds_run (P := E.P) (w := C.w) (isSl := true) (C := C) (len := 0) (cap := 0) (ccap := 0) hlo hhi hmx ha hb hc hmh (Nat.le_refl _) (Nat.le_refl _) (Nat.le_refl _) (Nat.le_refl _)
      refine ⟨_, hrun hbr, ?_⟩
      have : (if umx = none then 0 else 0) = 0 := by split <;> rfl
      rw [this]
      exact .nils _
    · simp at h
  · rename_i z es
    simp only [Option.bind_eq_some_iff] at h
    obtain ⟨a, ha, b, hb, c, hc, h⟩ := h
    split at h
    · rename_i hz
      obtain ⟨hab, hbc, hcl, rfl⟩ := hz
      simp only [Option.some.injEq] at h
      subst h
      cases hx with
      | sh _ _ _ ad cc us g1 g2 g3 g4 g5 g6 =>
        have hbr := bounds_run (P := E.P) (w := C.w) (isSl := true) (C := C) (cap := es.length) hlo hhi hmx ha hb hc hmh hab hbc hcl g5
        refine ⟨_, hrun hbr, ?_⟩
        have hgd : ∀ e ∈ (es.drop a).take (b - a), Good z e := fun x hx => g2 x (List.mem_of_mem_drop (List.mem_of_mem_take hx))
        have hlen : ((es.drop a).take (b - a)).length = b - a := by rw [List.length_take, List.length_drop]; omega
        have hv : Vs C true (((es.drop a).take (b - a)).flatMap AV.cells) ((us.drop (a * z)).take ((b - a) * z)) := by
          have := (g1.drop (a * z)).take ((b - a) * z)
          rw [flat_drop g2, flat_take (fun x hx => g2 x (List.mem_of_mem_drop hx))] at this
          exact this
        have hwl : ((us.drop (a * z)).take ((b - a) * z)).length = (b - a) * z := by rw [hv.length, flat_length hgd, hlen]
        generalize hM : (if umx = none then cc else c) = M
        have hMb : b ≤ M := by rw [← hM]; split <;> omega
        have hMm : M ≤ maxLen := by rw [← hM]; split <;> omega
        have key : ∀ ad', (es.drop a).take (b - a) ≠ [] → ad' = ad.add (a * z) → C.κ ad'.block = .imm ∧ ad'.block < C.w.heap.size := by
          intro ad' hne e
          subst e
          have hab2 : (ad.add (a * z)).block = ad.block := by unfold Addr.add; split <;> rfl
          rw [hab2]
          refine g4 ?_
          rintro rfl
          simp at hne
        by_cases hm : M = a
        · rw [if_pos hm]
          have hb0 : b - a = 0 := by omega
          have hnil : (es.drop a).take (b - a) = [] := by rw [hb0]; rfl
          rw [hnil, hb0]
          have := V.sh (C := C) false z [] ad (M - a) [] (.nil _) (by simp) (by simp) (by simp) (by simp) (by omega)
          exact this
        · rw [if_neg hm]
          have := V.sh (C := C) false z ((es.drop a).take (b - a)) (ad.add (a * z)) (M - a) _ hv hgd (fun j u hu => by
            rw [List.getElem?_take] at hu
            split at hu
            · rw [List.getElem?_drop] at hu
              rw [add_add]
              exact g3 _ _ hu
            · simp at hu) (fun hne => key _ hne rfl) (by rw [hlen]; omega) (by omega)
          rw [hlen] at this
          exact this
    · simp at h
  · rename_i id ver off n cap
    simp only [Option.bind_eq_some_iff] at h
    obtain ⟨a, ha, b, hb, c, hc, h⟩ := h
    split at h
    · rename_i hz
      obtain ⟨hab, hbc, hcl, hal⟩ := hz
      simp only [Option.some.injEq] at h
      subst h
      obtain ⟨ty, es, hr⟩ := aliveZ_row hal
      cases hx with
      | sl _ _ _ _ _ _ g0 g1 =>
        obtain ⟨ad, cc, rfl, g2, g3, g4, g5, g6⟩ := (g1.2 ver sz ty es hr).2 rfl
        have hbr := bounds_run (P := E.P) (w := C.w) (isSl := true) (C := C) (cap := cap) hlo hhi hmx ha hb hc hmh hab hbc hcl g3
        refine ⟨_, hrun hbr, .sl _ _ _ _ _ _ rfl ⟨g1.1, fun v sz' ty' es' hr' => ?_⟩⟩
        rw [hr] at hr'
        injection hr' with hr'
        injection hr' with e1 e2 e3 e4
        subst e1 e2 e3 e4
        generalize hM : (if umx = none then cc else c) = M
        have hMc : c ≤ M := by rw [← hM]; split <;> omega
        have hMcc : M ≤ cc := by rw [← hM]; split <;> omega
        refine ⟨Nat.le_refl _, fun _ => ⟨(if M = a then ad else ad.add (a * sz)), M - a, ?_, by omega, by omega, by omega, fun h0 => ?_, fun cells t' fr hcl => ?_⟩⟩
        · split <;> rfl
        · rw [if_neg (by omega), g5 (by omega), Addr.add_lit]
          simp only [Addr.mk.injEq, true_and, and_true]
          rw [Nat.add_mul]
          omega
        · have := g6 cells t' fr hcl
          have h1 : (off + a + (M - a)) * sz ≤ (off + cc) * sz ∨ M < a := by
            rcases Nat.lt_or_ge M a with h | h
            · exact .inr h
            · exact .inl (Nat.mul_le_mul_right _ (by omega))
          rcases h1 with h1 | h1
          · omega
          · omega
    · simp at h
  · simp at h

end
end Go.Den

/- DEN, part L: structs, arrays and slices out of parts, as the machine does them. -/
namespace Go.Den
open Go.RowKit

theorem foldl_set {l : List Value} : ∀ (k : Nat) (off : Nat) (cells : Array Value), off + k + l.length ≤ cells.size →
    (((l.zipIdx k).foldl (fun cs p => cs.setIfInBounds (off + p.2) p.1) cells).size = cells.size ∧ ∀ j, ((l.zipIdx k).foldl (fun cs p => cs.setIfInBounds (off + p.2) p.1) cells)[j]? = if off + k ≤ j ∧ j < off + k + l.length then l[j - (off + k)]? else cells[j]?) := by
  induction l with
  | nil =>
    intro k off cells _
    refine ⟨rfl, fun j => ?_⟩
    rw [if_neg (by simp only [List.length_nil]; omega)]
    rfl
  | cons v l ih =>
    intro k off cells h
    simp only [List.length_cons] at h
    simp only [List.zipIdx_cons, List.foldl_cons]
    obtain ⟨h1, h2⟩ := ih (k + 1) off (cells.setIfInBounds (off + k) v) (by simp; omega)
    refine ⟨by rw [h1]; simp, fun j => ?_⟩
    rw [h2]
    simp only [List.length_cons]
    by_cases hj : j = off + k
    · subst hj
      rw [if_neg (by omega), if_pos (by omega)]
      simp only [Nat.sub_self, List.getElem?_cons_zero]
      rw [Array.getElem?_setIfInBounds_self_of_lt (by omega)]
    · by_cases h3 : off + (k + 1) ≤ j ∧ j < off + (k + 1) + l.length
      · rw [if_pos h3, if_pos (by omega), show j - (off + k) = (j - (off + (k + 1))) + 1 by omega]
        simp
      · rw [if_neg h3, if_neg (by omega)]
        exact Array.getElem?_setIfInBounds_ne (Ne.symm hj)

theorem fill_step {cells v : Array Value} {off : Nat} (h : off + v.size ≤ cells.size) :
    (v.zipIdx.foldl (fun cs p => cs.setIfInBounds (off + p.2) p.1) cells).toList = cells.toList.take off ++ v.toList ++ cells.toList.drop (off + v.size) := by
  have h0 : v.zipIdx.foldl (fun cs p => cs.setIfInBounds (off + p.2) p.1) cells = (v.toList.zipIdx 0).foldl (fun cs p => cs.setIfInBounds (off + p.2) p.1) cells := by
    rw [← Array.foldl_toList, Array.toList_zipIdx]
  rw [h0]
  obtain ⟨h1, h2⟩ := foldl_set (l := v.toList) 0 off cells (by simpa using h)
  apply List.ext_getElem?
  intro j
  have := splice_get (us := cells.toList) (ws := v.toList) (s := off) (by simp; omega) j
  simp only [Array.length_toList] at this
  rw [this]
  have h3 := h2 j
  simp only [Nat.add_zero, Array.length_toList] at h3
  simpa using h3

section
variable {E : Env} {C : Ctx} {p q : Bool}

theorem fill_ok (place : Nat → Option (Nat × Nat)) {lam : Nat → Nat} {st : St} {a : Act} (hr : HR E C) (hf : FrameR C lam st a) : ∀ {ps : List (Nat × Operand)} {l : List (Nat × Nat × AV)} {z r : List AV} {cells : Array Value}, parts E st place ps = some l → A.fill z l = some r → Vs C false z cells.toList → (∀ c ∈ z, c.one = true) →
    ∃ cells', Instr.fill place cells (ps.map fun p => (p.1, a.eval p.2)) = some cells' ∧ Vs C false r cells'.toList ∧ ∀ c ∈ r, c.one = true
  | [], l, z, r, cells, hp, h, hv, h1 => by
    simp [parts] at hp
    subst hp
    simp only [A.fill, Option.some.injEq] at h
    subst h
    exact ⟨cells, rfl, hv, h1⟩
  | (i, x) :: ps, l, z, r, cells, hp, h, hv, h1 => by
    unfold parts at hp
    split at hp
    · rename_i off sz v hpl hev
      split at hp
      · rename_i r' hp'
        simp only [Option.some.injEq] at hp
        subst hp
        unfold A.fill at h
        split at h
        · rename_i hc
          obtain ⟨hl, hle, hd⟩ := hc
          have hvx := eval_ok hr hf hev
          obtain ⟨g1, g2⟩ := hvx.cells hd
          have hsz : (a.eval x).cells.size = sz := by rw [← Array.length_toList, g1.length, hl]
          have hcl : cells.size = z.length := by rw [← Array.length_toList, hv.length]
          have hst : ((a.eval x).cells.zipIdx.foldl (fun cs p => cs.setIfInBounds (off + p.2) p.1) cells).toList = cells.toList.take off ++ (a.eval x).cells.toList ++ cells.toList.drop (off + (a.eval x).cells.size) := fill_step (by omega)
          have hv2 : Vs C false (A.splice z off v.cells) ((a.eval x).cells.zipIdx.foldl (fun cs p => cs.setIfInBounds (off + p.2) p.1) cells).toList := by
            rw [hst]
            have := hv.splice g1 off
            rw [Array.length_toList] at this
            exact this
          obtain ⟨cells', k1, k2, k3⟩ := fill_ok place hr hf hp' h hv2 (splice_mem h1 g2)
          refine ⟨cells', ?_, k2, k3⟩
          simp only [List.map_cons, Instr.fill, hpl]
          rw [if_neg (by simp; omega)]
          exact k1
        · simp at h
      · simp at hp
    · simp at hp

theorem list_mapM_run {α β : Type} {P : Program} {w : World} {f : α → Sem β} {g : α → β} : ∀ {l : List α}, (∀ x ∈ l, (f x).run P w = .ok (g x) w) → (l.mapM f).run P w = .ok (l.map g) w
  | [], _ => rfl
  | x :: l, h => by
    rw [List.mapM_cons]
    simp only [Sem.run_bind, h x List.mem_cons_self, Result.andThen_ok, list_mapM_run (fun y hy => h y (List.mem_cons_of_mem _ hy)), Sem.run_pure, List.map_cons]

theorem fieldPlaces_get : ∀ {fs : List Field} {l : List (Nat × Nat)}, fieldPlaces E fs = some l → l = fs.map (fun f => (f.offset, (E.size f.type).getD 0)) ∧ ∀ f ∈ fs, ∃ s, E.size f.type = some s
  | [], l, h => by simp [fieldPlaces] at h; subst h; exact ⟨rfl, by simp⟩
  | f :: fs, l, h => by
    unfold fieldPlaces at h
    split at h
    · rename_i s hs
      split at h
      · rename_i r hr
        simp only [Option.some.injEq] at h
        subst h
        obtain ⟨h1, h2⟩ := fieldPlaces_get hr
        refine ⟨by rw [h1]; simp [hs], fun x hx => ?_⟩
        rcases List.mem_cons.1 hx with rfl | hx
        · exact ⟨s, hs⟩
        · exact h2 x hx
      · simp at h
    · simp at h

theorem zero_run {t : TypeId} {z : AV} (h : E.zero t = some z) (w : World) : ∃ zv, (zeroValue t).run E.P w = .ok zv w ∧ V C true z zv := by
  unfold Env.zero at h
  cases hi : E.P.info? t with
  | none => rw [hi] at h; simp at h
  | some i =>
    rw [hi] at h
    simp only [Option.bind_some, Option.bind_eq_some_iff] at h
    obtain ⟨zv, h1, h2⟩ := h
    exact ⟨zv, by simp [zeroValue, typeInfo, hi, h1], ofConst_ok h2⟩

theorem build_ok {t : TypeId} {lam : Nat → Nat} {st : St} {a : Act} (hr : HR E C) (hf : FrameR C lam st a) {ps : Array (Nat × Operand)} {z : List AV} {pl : Nat → Option (Nat × Nat)} {l : List (Nat × Nat × AV)} {v : AV} (hz : zeroCellsOf E t = some z) (hpl : places E t = some pl) (hp : parts E st pl ps.toList = some l)
    (h : (A.fill z l).map .agg = some v) : ∃ u, (Instr.build t (ps.map fun (i, x) => (i, a.eval x))).run E.P C.w = .ok u C.w ∧ V C false v u := by
  rw [Option.map_eq_some_iff] at h
  obtain ⟨r, h, rfl⟩ := h
  unfold zeroCellsOf at hz
  split at hz
  · rename_i z0 hz0
    cases hd : z0.isDef
    · rw [hd] at hz; simp at hz
    · rw [hd] at hz
      simp only [cond_true, Option.some.injEq] at hz
      subst hz
      obtain ⟨zv, k1, k2⟩ := zero_run (C := C) hz0 C.w
      obtain ⟨g1, g2⟩ := k2.cells hd
      obtain ⟨cells', c1, c2, c3⟩ := fill_ok pl hr hf hp h g1.weakenB g2
      have hps : (ps.map fun (i, x) => (i, a.eval x)).toList = ps.toList.map fun p => (p.1, a.eval p.2) := by simp
      refine ⟨.agg cells', ?_, .agg _ _ _ c3 c2⟩
      unfold places at hpl
      split at hpl
      · rename_i fs hu
        split at hpl
        · rename_i pls hfp
          simp only [Option.some.injEq] at hpl
          subst hpl
          obtain ⟨e1, e2⟩ := fieldPlaces_get hfp
          have hm : (fs.mapM fun f => (do pure (f.offset, ← sizeOf f.type) : Sem (Nat × Nat))).run E.P C.w = .ok pls.toArray C.w := by
            rw [Array.mapM_eq_mapM_toList]
            simp only [Sem.run_map]
            rw [list_mapM_run (g := fun f => (f.offset, (E.size f.type).getD 0)) (fun f hf => by
              obtain ⟨s, hs⟩ := e2 f hf
              simp only [Sem.run_bind, size_run hs, Result.andThen_ok, Sem.run_pure, hs, Option.getD_some])]
            rw [e1]
            rfl
          simp only [Instr.build, Sem.run_bind, k1, Result.andThen_ok, run_underlying hu, hm, hps]
          have : (fun (x : Nat) => pls.toArray[x]?) = fun (i : Nat) => pls[i]? := by funext i; simp
          rw [this, c1]
          rfl
        · simp at hpl
      · rename_i n e hu
        split at hpl
        · rename_i s hs
          simp only [Option.some.injEq] at hpl
          subst hpl
          simp only [Instr.build, Sem.run_bind, k1, Result.andThen_ok, run_underlying hu, size_run hs, hps, c1]
          rfl
        · simp at hpl
      · simp at hpl
  · simp at hz

theorem fillElems_ok {sz : Nat} {lam : Nat → Nat} {st : St} {a : Act} (hr : HR E C) (hf : FrameR C lam st a) : ∀ {ps : List (Nat × Operand)} {l : List (Nat × Nat × AV)} {es r : List AV} {cells : Array Value}, parts E st (fun i => some (i, 1)) ps = some l → A.fillElems sz es l = some r → Vs C false (es.flatMap AV.cells) cells.toList → (∀ e ∈ es, Good sz e) →
    ∃ cells', Instr.fill (fun i => some (i * sz, sz)) cells (ps.map fun p => (p.1, a.eval p.2)) = some cells' ∧ Vs C false (r.flatMap AV.cells) cells'.toList ∧ (∀ e ∈ r, Good sz e) ∧ r.length = es.length
  | [], l, es, r, cells, hp, h, hv, h1 => by
    simp [parts] at hp
    subst hp
    simp only [A.fillElems, Option.some.injEq] at h
    subst h
    exact ⟨cells, rfl, hv, h1, rfl⟩
  | (i, x) :: ps, l, es, r, cells, hp, h, hv, h1 => by
    unfold parts at hp
    split at hp
    · rename_i off sz' v hpl hev
      simp only [Option.some.injEq, Prod.mk.injEq] at hpl
      obtain ⟨rfl, rfl⟩ := hpl
      split at hp
      · rename_i r' hp'
        simp only [Option.some.injEq] at hp
        subst hp
        unfold A.fillElems at h
        split at h
        · rename_i hc
          obtain ⟨hl, hle, hd⟩ := hc
          have hvx := eval_ok hr hf hev
          obtain ⟨g1, g2⟩ := hvx.cells hd
          have hgv : Good sz v := ⟨hl, g2⟩
          have hsz : (a.eval x).cells.size = sz := by rw [← Array.length_toList, g1.length, hl]
          have hcl : cells.size = es.length * sz := by rw [← Array.length_toList, hv.length, flat_length h1]
          have hle2 : i * sz + sz ≤ es.length * sz := by
            have := Nat.mul_le_mul_right sz (show i + 1 ≤ es.length by omega)
            rwa [Nat.succ_mul] at this
          have hst := fill_step (cells := cells) (v := (a.eval x).cells) (off := i * sz) (by omega)
          have hge := h1 es[i] (List.getElem_mem hle)
          have hfs : (es.set i v).flatMap AV.cells = A.splice (es.flatMap AV.cells) (i * sz) v.cells := by
            have := flat_set (e' := v) (off := 0) (vs := v.cells) h1 (List.getElem?_eq_getElem hle) (by
              unfold A.splice
              simp only [List.take_zero, List.nil_append, Nat.zero_add]
              rw [List.drop_eq_nil_of_le (by rw [hge.1, hl]; omega), List.append_nil]) (by omega)
            simpa using this
          have hv2 : Vs C false ((es.set i v).flatMap AV.cells) ((a.eval x).cells.zipIdx.foldl (fun cs p => cs.setIfInBounds (i * sz + p.2) p.1) cells).toList := by
            rw [hst, hfs]
            have := hv.splice g1 (i * sz)
            rw [Array.length_toList] at this
            exact this
          obtain ⟨cells', k1, k2, k3, k4⟩ := fillElems_ok hr hf hp' h hv2 (set_good h1 hgv)
          refine ⟨cells', ?_, k2, k3, by rw [k4]; simp⟩
          simp only [List.map_cons, Instr.fill]
          rw [if_neg (by simp; omega)]
          exact k1
        · simp at h
      · simp at hp
    · simp at hp

theorem buildSlice_ok {t e : TypeId} {n sz : Nat} {lam : Nat → Nat} {st : St} {a : Act} (hr : HR E C) (hf : FrameR C lam st a) {ps : Array (Nat × Operand)} {z : AV} {l : List (Nat × Nat × AV)} {es : List AV} (ht : E.P.underlying t = some (.slice e)) (hsz : E.size e = some sz) (hz : E.zero e = some z)
    (hn : n * sz ≤ 16777216) (hpos : 0 < sz) (hzl : z.cells.length = sz) (hp : parts E st (fun i => some (i, 1)) ps.toList = some l) (h : A.fillElems sz (List.replicate n z) l = some es) :
    ∃ u C', (Instr.buildSlice t n (ps.map fun (i, x) => (i, a.eval x))).run E.P C.w = .ok u C'.w ∧ V C' false (A.newRow sz e es C.H).1 u ∧ HR E C' ∧ EvL C C' ∧ C'.H = (A.newRow sz e es C.H).2 := by
  obtain ⟨zv, k1, k2⟩ := zero_run (C := C) hz C.w
  have hzd : z.isDef = true := by
    unfold Env.zero at hz
    simp only [Option.bind_eq_some_iff] at hz
    obtain ⟨_, _, h2⟩ := hz
    exact ofConst_def h2
  obtain ⟨g1, g2⟩ := k2.cells hzd
  have hzs : zv.cells.size = sz := by rw [← Array.length_toList, g1.length, hzl]
  have hv0 : Vs C false ((List.replicate n z).flatMap AV.cells) ((Array.range (n * sz)).map (zv.cells[· % zv.cells.size]!)).toList := by
    have := (made_vs g1 hzs hpos n).weakenB
    rw [Array.toList_map, Array.toList_range, hzs]
    exact this
  obtain ⟨cells', c1, c2, c3, c4⟩ := fillElems_ok hr hf hp h hv0 (fun x hx => by
    have := List.eq_of_mem_replicate hx
    subst this
    exact ⟨hzl, g2⟩)
  have hps : (ps.map fun (i, x) => (i, a.eval x)).toList = ps.toList.map fun p => (p.1, a.eval p.2) := by simp
  have hlen : es.length = n := by rw [c4]; simp
  have key := row_new (E := E) (ver := 0) (sz := sz) (ty := e) (fr := (0, 0)) (w' := C.w.alloc (.cells cells' e)) hr ⟨rfl, rfl, rfl⟩ rfl hpos c3 (fun j _ h => by simp at h) c2 (fun j u hu => by simpa using hu)
  refine ⟨.slice (some ⟨C.w.heap.size, 0, none⟩) n n, _, ?_, ?_, key.1, key.2, rfl⟩
  · simp only [Instr.buildSlice, Sem.run_bind, run_underlying ht, Result.andThen_ok, size_run hsz]
    rw [if_neg (by omega)]
    simp only [Sem.run_bind, Sem.run_pure, Result.andThen_ok, hps]
    by_cases h0 : n * sz = 0
    · rw [if_pos h0]
      have : n = 0 := by
        rcases Nat.mul_eq_zero.1 h0 with h | h <;> omega
      subst this
      have e0 : (Array.range (0 * sz)).map ((#[] : Array Value)[· % (#[] : Array Value).size]!) = (Array.range (0 * sz)).map (zv.cells[· % zv.cells.size]!) := by simp
      simp only [pure_bind, e0, c1]
      rfl
    · rw [if_neg h0]
      simp only [Sem.run_bind, k1, Result.andThen_ok, Sem.run_pure, c1]
      rfl
  · refine .sl _ _ _ _ _ _ rfl ⟨by simp [Ctx.grow], fun v sz' ty' es' hx => ?_⟩
    simp [Ctx.grow] at hx
    obtain ⟨rfl, rfl, rfl, rfl⟩ := hx
    refine ⟨Nat.le_refl _, fun _ => ⟨⟨C.w.heap.size, 0, none⟩, n, by rw [hlen], Nat.le_refl _, by omega, by unfold maxLen; have := Nat.le_mul_of_pos_right n hpos; omega, fun _ => by simp [Ctx.grow], fun cells t' fr hc => ?_⟩⟩
    rw [grow_place] at hc ⊢
    have hc' := (heap_alloc_new C.w _).symm.trans hc
    injection hc' with hc'
    injection hc' with hc1 hc2 hc3
    subst hc1
    have : cells'.size = n * sz := by rw [← Array.length_toList, c2.length, flat_length c3, hlen]
    simp [this]

end
end Go.Den

/- DEN, part M: what goes on with a result changes nothing of how the result comes about. -/
namespace Go.Den

/-! ### what does not change is frozen already -/
theorem leaf_frz {v : AV} (h : v.leaf = true) (n : Nat) (H : Heap) : A.freezeB true (n + 1) H v = some v ∧ reach (n + 1) H v = [] := by
  cases v <;> first | exact ⟨rfl, rfl⟩ | (simp [AV.leaf] at h)
theorem mapM_same {α : Type} {f : α → Option α} : ∀ {l : List α}, (∀ x ∈ l, f x = some x) → l.mapM f = some l
  | [], _ => rfl
  | x :: l, h => by
    rw [List.mapM_cons, h x List.mem_cons_self, mapM_same fun y hy => h y (List.mem_cons_of_mem _ hy)]
    rfl
theorem flatMap_nil {α β : Type} {f : α → List β} : ∀ {l : List α}, (∀ x ∈ l, f x = []) → l.flatMap f = []
  | [], _ => rfl
  | x :: l, h => by
    rw [List.flatMap_cons, h x List.mem_cons_self, flatMap_nil fun y hy => h y (List.mem_cons_of_mem _ hy)]
    rfl
theorem freeze_agg {b : Bool} {n : Nat} {H : Heap} {cs : List AV} : A.freezeB b (n + 1) H (.agg cs) = (cs.mapM (A.freezeB b n H)).map .agg := rfl
theorem freeze_tup {b : Bool} {n : Nat} {H : Heap} {cs : List AV} : A.freezeB b (n + 1) H (.tup cs) = (cs.mapM (A.freezeB b n H)).map .tup := rfl
theorem freeze_fn {q : Bool} {n : Nat} {H : Heap} {f : Fn} {a b : List AV} : A.freezeB q (n + 1) H (.fn f a b) = (a.mapM (A.freezeB q n H)).bind fun a' => (b.mapM (A.freezeB q n H)).map fun b' => .fn f a' b' := rfl
theorem imm1_frz {v : AV} (h : v.imm1 = true) (n : Nat) (H : Heap) : A.freezeB true (n + 2) H v = some v ∧ reach (n + 2) H v = [] := by
  cases v with
  | agg cs =>
    have h : ∀ c ∈ cs, c.leaf = true := fun c hc => List.all_eq_true.1 h c hc
    exact ⟨by rw [freeze_agg, mapM_same fun x hx => (leaf_frz (h x hx) n H).1]; rfl, flatMap_nil fun x hx => (leaf_frz (h x hx) n H).2⟩
  | tup cs =>
    have h : ∀ c ∈ cs, c.leaf = true := fun c hc => List.all_eq_true.1 h c hc
    exact ⟨by rw [freeze_tup, mapM_same fun x hx => (leaf_frz (h x hx) n H).1]; rfl, flatMap_nil fun x hx => (leaf_frz (h x hx) n H).2⟩
  | fn f a b =>
    simp only [AV.imm1, Bool.and_eq_true] at h
    have h1 : ∀ c ∈ a, c.leaf = true := fun c hc => List.all_eq_true.1 h.1 c hc
    have h2 : ∀ c ∈ b, c.leaf = true := fun c hc => List.all_eq_true.1 h.2 c hc
    refine ⟨by rw [freeze_fn, mapM_same fun x hx => (leaf_frz (h1 x hx) n H).1, mapM_same fun x hx => (leaf_frz (h2 x hx) n H).1]; rfl, ?_⟩
    show a.flatMap (reach (n + 1) H) ++ b.flatMap (reach (n + 1) H) = []
    rw [flatMap_nil fun x hx => (leaf_frz (h1 x hx) n H).2, flatMap_nil fun x hx => (leaf_frz (h2 x hx) n H).2]
    rfl
  | _ => refine leaf_frz ?_ (n + 1) H; exact h
theorem imm_frz {v : AV} (h : v.imm = true) (n : Nat) (H : Heap) : A.freezeB true (n + 3) H v = some v ∧ reach (n + 3) H v = [] := by
  cases v with
  | tup cs =>
    have h : ∀ c ∈ cs, c.imm1 = true := fun c hc => List.all_eq_true.1 h c hc
    exact ⟨by rw [freeze_tup, mapM_same fun x hx => (imm1_frz (h x hx) n H).1]; rfl, flatMap_nil fun x hx => (imm1_frz (h x hx) n H).2⟩
  | _ => refine imm1_frz ?_ (n + 1) H; exact h
theorem freezeAll_imm {H : Heap} : ∀ {args : List AV}, args.all AV.imm = true → freezeAll H args = some args ∧ args.flatMap (reach 64 H) = []
  | [], _ => ⟨rfl, rfl⟩
  | a :: args, h => by
    simp only [List.all_cons, Bool.and_eq_true] at h
    obtain ⟨g1, g2⟩ := imm_frz h.1 61 H
    obtain ⟨k1, k2⟩ := freezeAll_imm (H := H) h.2
    refine ⟨?_, ?_⟩
    · unfold freezeAll
      rw [g1, k1]
    · rw [List.flatMap_cons, g2, k2]
      rfl
theorem pureF_imm {F : List AV → Option AV} {args : List AV} {H : Heap} (h : args.all AV.imm = true) : pureF F args H = (F args).map (·, H) := by
  unfold pureF
  rw [(freezeAll_imm h).1]
  dsimp only
  cases F args with
  | none => rfl
  | some v =>
    dsimp only
    rw [(freezeAll_imm h).2]
    cases v.flat <;> rfl

/-- What goes on with a call's result is asked for nothing. -/
def CNat (cf : CallFn) : Prop :=
  ∀ (R : Type) (f : FuncId) (args : List AV) (H : Heap) (k : AV → Heap → Option R), cf R f args H k = (cf (AV × Heap) f args H fun v G => some (v, G)).bind fun p => k p.1 p.2

section
variable {E : Env} {cf : CallFn} {R S : Type}

theorem withV_to {x : Option AV} {k : AV → Option R} {g : AV → Option S} {f : S → Option R} (h : ∀ v, k v = (g v).bind f) : withV x k = (withV x g).bind f := by
  cases x
  · rfl
  · exact h _
theorem bif_to {c : Bool} {a b : Option R} {a' b' : Option S} {f : S → Option R} (h1 : a = a'.bind f) (h2 : b = b'.bind f) : (bif c then a else b) = (bif c then a' else b').bind f := by
  cases c
  · exact h2
  · exact h1

theorem callK_nat (hc : CNat cf) (f : FuncId) (args : List AV) (H : Heap) {k : AV → Heap → Option R} {g : AV → Heap → Option S} {h : S → Option R} (hk : ∀ v G, k v G = (g v G).bind h) :
    callK E cf f args H k = (callK E cf f args H g).bind h := by
  unfold callK
  split
  · rw [hc R, hc S, Option.bind_assoc]
    congr 1
    funext p
    exact hk _ _
  · split
    · exact hk _ _
    · rfl
  · split
    · exact hk _ _
    · rfl

theorem callQ_nat (f : FuncId) (args : List AV) (H : Heap) {k : AV → Heap → Option R} {g : AV → Heap → Option S} {h : S → Option R} (hk : ∀ v G, k v G = (g v G).bind h) :
    callQ E f args H k = (callQ E f args H g).bind h := by
  unfold callQ
  split
  · refine bif_to ?_ rfl
    split
    · exact hk _ _
    · rfl
  · rfl

/-- What a quiet call does, the call does. -/
theorem callQ_callK {f : FuncId} {args : List AV} {H : Heap} {p : AV × Heap} (h : callQ E f args H (fun v G => some (v, G)) = some p) : callK E cf f args H (fun v G => some (v, G)) = some p := by
  unfold callQ at h
  unfold callK
  split at h
  · rename_i F hF
    rw [hF]
    dsimp only
    cases hi : args.all AV.imm
    · rw [hi] at h; cases h
    · rw [hi] at h
      simp only [cond_true] at h
      rw [pureF_imm hi]
      cases hx : F args with
      | none => rw [hx] at h; cases h
      | some v => rw [hx] at h; exact h
  · cases h

theorem callV_nat (hc : CNat cf) (f : AV) (args : List AV) (H : Heap) {k : AV → Heap → Option R} {g : AV → Heap → Option S} {h : S → Option R} (hk : ∀ v G, k v G = (g v G).bind h) :
    callV E cf f args H k = (callV E cf f args H g).bind h := by
  unfold callV
  split
  · exact callK_nat hc _ _ _ hk
  · rfl

theorem builtinK_nat (b : Builtin) (ts : List TypeId) (args : List AV) (H : Heap) {k : AV → Heap → Option R} {g : AV → Heap → Option S} {h : S → Option R} (hk : ∀ v G, k v G = (g v G).bind h) :
    builtinK E b ts args H k = (builtinK E b ts args H g).bind h := by
  unfold builtinK
  repeat' (first | rfl | exact hk _ _ | exact withV_to fun v => hk _ _ | apply bif_to | split)

theorem convertK_nat (src dst : TypeId) (x : AV) (H : Heap) {k : AV → Heap → Option R} {g : AV → Heap → Option S} {h : S → Option R} (hk : ∀ v G, k v G = (g v G).bind h) :
    convertK E src dst x H k = (convertK E src dst x H g).bind h := by
  unfold convertK
  split
  · exact hk _ _
  · split
    · exact hk _ _
    · split
      · exact hk _ _
      · rfl

theorem layK_nat (s : Nat) (cs : List AV) (st : St) (H : Heap) {k : SV → St → Heap → Option R} {g : SV → St → Heap → Option S} {h : S → Option R} (hk : ∀ v s G, k v s G = (g v s G).bind h) :
    layK s cs st H k = (layK s cs st H g).bind h := by
  unfold layK
  repeat' (first | rfl | exact hk _ _ _ | split)

theorem opK_to (hc : CNat cf) (site : Option Nat) (o : Oper) (st : St) (H : Heap) {k : SV → St → Heap → Option R} {g : SV → St → Heap → Option S} {h : S → Option R} (hk : ∀ v s G, k v s G = (g v s G).bind h) :
    opK E cf site o st H k = (opK E cf site o st H g).bind h := by
  unfold opK
  generalize ho : o.op = op
  cases op <;> dsimp only
  all_goals repeat' (first | (exfalso; contradiction) | split | (with_reducible exact hk _ _ _) | (with_reducible exact (Option.bind_none _).symm) | (with_reducible apply bif_to) | (with_reducible exact withV_to fun v => hk _ _ _) | (with_reducible refine layK_nat _ _ _ _ hk) | (with_reducible refine convertK_nat _ _ _ _ ?_; intro v G; exact hk _ _ _))
  case h_1 => exact callV_nat hc _ _ _ fun v G => hk _ _ _
  case h_1 => exact callQ_nat _ _ _ fun v G => hk _ _ _
  case h_2 => exact builtinK_nat _ _ _ _ fun v G => hk _ _ _
  all_goals exact callK_nat hc _ _ _ fun v G => hk _ _ _

theorem opK_nat (hc : CNat cf) (site : Option Nat) (o : Oper) (st : St) (H : Heap) (k : SV → St → Heap → Option R) :
    opK E cf site o st H k = (opK E cf site o st H fun x s G => some (x, s, G)).bind fun p => k p.1 p.2.1 p.2.2 :=
  opK_to hc site o st H fun _ _ _ => rfl

theorem opsK_to (hc : CNat cf) (sites : List (Nat × Nat × Nat)) (rid : Nat) (ops : Array Oper) : ∀ (l : List Oper) (i : Nat) (st : St) (H : Heap) {k : St → Heap → Option R} {g : St → Heap → Option S} {h : S → Option R} (_ : ∀ s G, k s G = (g s G).bind h),
    opsK E cf sites rid ops l i st H k = (opsK E cf sites rid ops l i st H g).bind h := by
  intro l
  induction l with
  | nil => intro i st H k g h hk; exact hk _ _
  | cons o l ih =>
    intro i st H k g h hk
    unfold opsK
    split
    · exact opK_to hc _ _ _ _ fun x s G => ih _ _ _ hk
    · split
      · split
        · exact ih _ _ _ hk
        · rfl
      · rfl

theorem opsD_to (hc : CNat cf) (sites : List (Nat × Nat × Nat)) (d : DInfo) (rid : Nat) (ops : Array Oper) (H0 : Heap) : ∀ (l : List Oper) (i : Nat) (r : List Rec) (st : St) (H : Heap) {k : St → Heap → Option R} {g : St → Heap → Option S} {h : S → Option R} (_ : ∀ s G, k s G = (g s G).bind h),
    opsD E cf sites d rid ops H0 l i r st H k = (opsD E cf sites d rid ops H0 l i r st H g).bind h := by
  intro l
  induction l with
  | nil => intro i r st H k g h hk; exact bif_to (hk _ _) rfl
  | cons o l ih =>
    intro i r st H k g h hk
    unfold opsD
    split
    · exact opK_to hc _ _ _ _ fun x s G => ih _ _ _ _ hk
    · split
      · split
        · exact ih _ _ _ _ hk
        · rfl
      · rfl

theorem iter_to {σ : Type} {G : σ → Heap → (σ → Heap → Option R) → Option R} {G' : σ → Heap → (σ → Heap → Option S) → Option S} {h : S → Option R}
    (hg : ∀ st H r r', (∀ s G, r s G = (r' s G).bind h) → G st H r = (G' st H r').bind h) : ∀ (m : Nat) (st : σ) (H : Heap), iter G m st H = (iter G' m st H).bind h
  | 0, _, _ => rfl
  | m + 1, st, H => hg st H _ _ (iter_to hg m)

/-- A piece asks for nothing of what goes on. -/
def FNat (F : (S : Type) → (AExit → St → Heap → Option S) → Option S) : Prop :=
  ∀ {R S : Type} {k : AExit → St → Heap → Option R} {g : AExit → St → Heap → Option S} {h : S → Option R}, (∀ e s G, k e s G = (g e s G).bind h) → F R k = (F S g).bind h

theorem pickK_to {k : AExit → Option R} {g : AExit → Option S} {h : S → Option R} (hk : ∀ e, k e = (g e).bind h) (i : Nat) : ∀ (outs : List AExit) (j : Nat), pickK k i outs j = (pickK g i outs j).bind h
  | [], _ => rfl
  | x :: r, j => bif_to (hk x) (pickK_to hk i r (j + 1))

theorem bar_to {F : (S : Type) → (AExit → St → Heap → Option S) → Option S} (hF : FNat F) {an : Ann} {N : Nat} {k : AExit → St → Heap → Option R} {g : AExit → St → Heap → Option S} {h : S → Option R} (hk : ∀ e s G, k e s G = (g e s G).bind h) :
    bar an N F k = (bar an N F g).bind h := by
  unfold bar
  split
  · unfold bindX
    split
    · exact pickK_to (fun e => hk _ _ _) _ _ _
    · rfl
  · exact hF hk

theorem test_to {v : AV} {a b : Option R} {a' b' : Option S} {f : S → Option R} (h1 : a = a'.bind f) (h2 : b = b'.bind f) : A.test v a b = (A.test v a' b').bind f := by
  unfold A.test
  split
  · exact bif_to h1 h2
  · rfl

theorem loopK_to {kh : LK} {r : Live → Heap → Option R} {r' : Live → Heap → Option S} {h : S → Option R} (hr : ∀ s G, r s G = (r' s G).bind h) {k : AExit → St → Heap → Option R} {g : AExit → St → Heap → Option S} (hk : ∀ e s G, k e s G = (g e s G).bind h) (e : AExit) (s : St) (G : Heap) :
    loopK kh r k e s G = (loopK kh r' g e s G).bind h := by
  unfold loopK
  cases e with
  | normal =>
    dsimp only
    split
    · exact hr _ _
    · rfl
  | exit _ => exact hk _ _ _
  | ret => exact hk _ _ _

theorem loopS_to {r : St → Heap → Option R} {r' : St → Heap → Option S} {h : S → Option R} (hr : ∀ s G, r s G = (r' s G).bind h) {k : AExit → St → Heap → Option R} {g : AExit → St → Heap → Option S} (hk : ∀ e s G, k e s G = (g e s G).bind h) (e : AExit) (s : St) (G : Heap) :
    loopS r k e s G = (loopS r' g e s G).bind h := by
  cases e with
  | normal => exact hr _ _
  | exit _ => exact hk _ _ _
  | ret => exact hk _ _ _

theorem seqK_to {r : St → Heap → Option R} {r' : St → Heap → Option S} {h : S → Option R} (hr : ∀ s G, r s G = (r' s G).bind h) {k : AExit → St → Heap → Option R} {g : AExit → St → Heap → Option S} (hk : ∀ e s G, k e s G = (g e s G).bind h) (e : AExit) (s : St) (G : Heap) :
    seqK r k e s G = (seqK r' g e s G).bind h := by
  cases e with
  | normal => exact hr _ _
  | exit _ => exact hk _ _ _
  | ret => exact hk _ _ _

theorem blockK_to {id : Nat} {h : S → Option R} {k : AExit → St → Heap → Option R} {g : AExit → St → Heap → Option S} (hk : ∀ e s G, k e s G = (g e s G).bind h) (e : AExit) (s : St) (G : Heap) :
    blockK id k e s G = (blockK id g e s G).bind h := by
  cases e with
  | normal => exact hk _ _ _
  | exit _ => exact bif_to (hk _ _ _) (hk _ _ _)
  | ret => exact hk _ _ _

theorem exec_to (hc : CNat cf) (n : Nat) (fa : FAnn) : ∀ (c : Code) (an : Ann) (R S : Type) (st : St) (H : Heap) {k : AExit → St → Heap → Option R} {g : AExit → St → Heap → Option S} {h : S → Option R} (_ : ∀ e s G, k e s G = (g e s G).bind h),
    exec E cf n fa c an R st H k = (exec E cf n fa c an S st H g).bind h := by
  intro c
  induction c with
  | skip => intro an R S st H k g h hk; exact hk _ _ _
  | label _ => intro an R S st H k g h hk; exact hk _ _ _
  | exit _ => intro an R S st H k g h hk; exact hk _ _ _
  | ret => intro an R S st H k g h hk; exact hk _ _ _
  | region rid ops draw =>
    intro an R S st H k g h hk
    unfold exec
    refine bif_to ?_ ?_
    · split
      · exact opsD_to hc _ _ _ _ _ _ _ _ _ _ fun s G => hk _ _ _
      · rfl
    · exact opsK_to hc _ _ _ _ _ _ _ fun s G => hk _ _ _
  | seq a b iha ihb =>
    intro an R S st H k g h hk
    unfold exec
    refine bar_to (fun hk => ?_) hk
    exact iha _ _ _ _ _ fun e s G => seqK_to (fun s G => ihb _ _ _ _ _ hk) hk _ _ _
  | cond c x y ihx ihy =>
    intro an R S st H k g h hk
    unfold exec
    split
    · refine bar_to (fun hk => ?_) hk
      exact test_to (ihx _ _ _ _ _ hk) (ihy _ _ _ _ _ hk)
    · rfl
  | block id c ih =>
    intro an R S st H k g h hk
    unfold exec
    refine bar_to (fun hk => ?_) hk
    exact ih _ _ _ _ _ fun e s G => blockK_to hk _ _ _
  | loop c ih =>
    intro an R S st H k g h hk
    unfold exec
    split
    · split
      · refine bar_to (fun hk => ?_) hk
        refine iter_to ?_ _ _ _
        intro l H r r' hr
        exact ih _ _ _ _ _ fun e s G => loopK_to hr hk e s G
      · rfl
    · refine bar_to (fun hk => ?_) hk
      refine iter_to ?_ _ _ _
      intro l H r r' hr
      exact ih _ _ _ _ _ fun e s G => loopS_to hr hk e s G
  | scope c ih =>
    intro an R S st H k g h hk
    unfold exec
    refine bar_to (fun hk => ?_) hk
    exact ih _ _ _ _ _ hk
  | rangeFunc _ _ _ _ _ _ => intro an R S st H k g h hk; rfl
  | goto _ => intro an R S st H k g h hk; rfl
  | refuse _ => intro an R S st H k g h hk; rfl

theorem resultVars_to {st : St} {H : Heap} : ∀ (rs : List ResultVar) (acc : List AV) {k : List AV → Option R} {g : List AV → Option S} {h : S → Option R} (_ : ∀ vs, k vs = (g vs).bind h),
    resultVars E st H rs acc k = (resultVars E st H rs acc g).bind h
  | [], _, _, _, _, hk => hk _
  | r :: rs, acc, k, g, h, hk => by
    unfold resultVars
    split
    · exact resultVars_to rs _ hk
    · rfl

theorem callF_nat : ∀ n, CNat (callF E n)
  | 0 => fun _ _ _ _ _ => rfl
  | n + 1 => fun R f args H k => by
    unfold callF
    split
    · split
      · split
        · refine exec_to (callF_nat n) _ _ _ _ _ _ _ _ fun e s G => ?_
          cases e with
          | normal => exact resultVars_to _ _ fun vs => rfl
          | exit _ => rfl
          | ret => exact resultVars_to _ _ fun vs => rfl
        · rfl
      · rfl
    · rfl

end
end Go.Den

/- DEN, part N: calls and the frame's own variables. -/
namespace Go.Den
open Go.RowKit

def Ctx.noLoc (C : Ctx) : Prop := ∀ b s, C.κ b ≠ .loc s

/-- The frame's own variables are put out of sight. -/
def Ctx.strip (C : Ctx) : Ctx := { C with κ := fun b => match C.κ b with | .loc _ => .oth | x => x }
/-- .. and are seen again. -/
def Ctx.back (C C' : Ctx) : Ctx := { C' with κ := fun b => match C.κ b with | .loc s => .loc s | _ => C'.κ b }

section
variable {E : Env} {C C' : Ctx} {b : Nat}

theorem strip_of {b : Nat} {r : Role} (h : C.κ b = r) (hr : ∀ s, r ≠ .loc s) : C.strip.κ b = r := by
  show (match C.κ b with | .loc _ => Role.oth | x => x) = r
  rw [h]
  cases r <;> first | rfl | exact absurd rfl (hr _)
theorem strip_loc {b s : Nat} (h : C.κ b = .loc s) : C.strip.κ b = .oth := by
  show (match C.κ b with | .loc _ => Role.oth | x => x) = .oth
  rw [h]
theorem strip_noLoc : C.strip.noLoc := fun b s => by
  show (match C.κ b with | .loc _ => Role.oth | x => x) ≠ .loc s
  cases C.κ b <;> simp
theorem strip_evV : EvV C C.strip :=
  ⟨Nat.le_refl _, fun b _ h => ⟨rfl, strip_of h (by simp)⟩, Nat.le_refl _, fun id _ v' sz' ty' es' h => ⟨v', es', h, Nat.le_refl _, fun _ => ⟨rfl, fun cells t fr h => ⟨cells, t, fr, h, rfl⟩⟩⟩,
    fun _ _ l pos h => ⟨⟨l, pos, h⟩, rfl⟩, fun _ _ k e es h => ⟨⟨k, e, es, h⟩, rfl⟩⟩

theorem HR.evV (hr : HR E C) (ev : EvV C C') (hH : C'.H = C.H) (hw : C'.w = C.w) (hρ : C'.ρ = C.ρ) (hκ : ∀ b id, C.κ b = .obj id → C'.κ b = .obj id) (hn : ∀ b, C.κ b = .oth → C'.w.heap.size ≤ b → C'.κ b = .oth) : HR E C' := by
  refine ⟨fun id v sz ty es h => ?_, fun id l pos h => ?_, fun b hb => ?_, fun g cs h => (hr.glob g cs h).evV ev, fun id v sz ty es h => by rw [hρ]; exact hr.al id v sz ty es (hH ▸ h)⟩
  · rw [hH] at h
    obtain ⟨g0, g1, g2, cur, fr, us, g3, g4, g5, g6⟩ := hr.row id v sz ty es h
    exact ⟨g0, g1, by rw [hρ]; exact hκ _ _ g2, cur, fr, us, by rw [hρ, hw]; exact g3, g4, g5.evV ev, by rw [hρ]; exact g6⟩
  · rw [hH] at h
    obtain ⟨g0, s, g1, g2⟩ := hr.iter id l pos h
    exact ⟨by rw [hρ]; exact hκ _ _ g0, s, g1, by rw [hρ, hw]; exact g2⟩
  · exact hn b (hr.new b (by rw [← hw]; exact hb)) hb

theorem strip_hr (hr : HR E C) : HR E C.strip :=
  hr.evV strip_evV rfl rfl rfl (fun b id h => strip_of h (by simp)) (fun b h _ => strip_of h (by simp))

theorem back_evV (hr : HR E C) (h : Ev C.strip C') : EvV C' (C.back C') :=
  ⟨Nat.le_refl _, fun b _ hi => ⟨rfl, by
    show (match C.κ b with | .loc s => Role.loc s | _ => C'.κ b) = .imm
    cases hc : C.κ b with
    | loc s =>
      exfalso
      have hb : b < C.w.heap.size := by
        rcases Nat.lt_or_ge b C.w.heap.size with h1 | h1
        · exact h1
        · rw [hr.new b h1] at hc; cases hc
      have := (h.keep b hb (.inr (strip_loc hc))).2
      rw [hi, strip_loc hc] at this
      cases this
    | _ => exact hi⟩, Nat.le_refl _, fun id _ v' sz' ty' es' h => ⟨v', es', h, Nat.le_refl _, fun _ => ⟨rfl, fun cells t fr h => ⟨cells, t, fr, h, rfl⟩⟩⟩,
    fun _ _ l pos h => ⟨⟨l, pos, h⟩, rfl⟩, fun _ _ k e es h => ⟨⟨k, e, es, h⟩, rfl⟩⟩

theorem back_of (h : ∀ s, C.κ b ≠ .loc s) : (C.back C').κ b = C'.κ b := by
  show (match C.κ b with | .loc s => Role.loc s | _ => C'.κ b) = C'.κ b
  cases hc : C.κ b with
  | loc s => exact absurd hc (h s)
  | _ => rfl
theorem back_loc {s : Nat} (h : C.κ b = .loc s) : (C.back C').κ b = .loc s := by
  show (match C.κ b with | .loc s => Role.loc s | _ => C'.κ b) = .loc s
  rw [h]

theorem loc_lt (hr : HR E C) {b s : Nat} (h : C.κ b = .loc s) : b < C.w.heap.size := by
  rcases Nat.lt_or_ge b C.w.heap.size with h1 | h1
  · exact h1
  · rw [hr.new b h1] at h; cases h

theorem back_ok (hr : HR E C) (hr' : HR E C') (h : Ev C.strip C') : EvL C (C.back C') ∧ HR E (C.back C') := by
  have hloc : ∀ b s, C.κ b = .loc s → C'.κ b = .oth ∧ C'.w.heap[b]? = C.w.heap[b]? := fun b s hb => by
    have := h.keep b (loc_lt hr hb) (.inr (strip_loc hb))
    exact ⟨this.2.trans (strip_loc hb), this.1⟩
  have hobj : ∀ b id, C'.κ b = .obj id → ∀ s, C.κ b ≠ .loc s := fun b id h1 s h2 => by
    rw [(hloc b s h2).1] at h1
    cases h1
  refine ⟨⟨⟨h.os, h.tape, h.output, h.size, ?_, h.hlen, h.rows, h.iters, h.maps⟩, ?_⟩, ?_⟩
  · intro b hb hk
    have hn : ∀ s, C.κ b ≠ .loc s := fun s e => by rcases hk with hk | hk <;> rw [hk] at e <;> cases e
    have hs : C.strip.κ b = C.κ b := strip_of rfl hn
    obtain ⟨h1, h2⟩ := h.keep b hb (by rw [hs]; exact hk)
    exact ⟨h1, (back_of hn).trans (h2.trans hs)⟩
  · intro b hb s hs
    exact ⟨(hloc b s hs).2, back_loc hs⟩
  · refine hr'.evV (back_evV hr h) rfl rfl rfl (fun b id hb => (back_of (hobj b id hb)).trans hb) fun b ho hb => ?_
    exact (back_of (fun s e => by
      have := loc_lt hr e
      have h2 : C.w.heap.size ≤ C'.w.heap.size := h.size
      have h3 : (C.back C').w.heap.size = C'.w.heap.size := rfl
      omega)).trans ho

/-- What a function's call comes to. -/
def Lands (P : Program) (f : FuncId) (us : Array Value) (w : World) (R : Value → World → Prop) : Prop :=
  ((callFunc f us).run P w = .ok (.enter f us) w ∧ Calls P f us w fun e w' => ∃ u, e = .returned u ∧ R u w') ∨ ∃ u w', (callFunc f us).run P w = .ok (.value u) w' ∧ R u w'

theorem Lands.mono {P : Program} {f : FuncId} {us : Array Value} {w : World} {R R' : Value → World → Prop} (h : Lands P f us w R) (hr : ∀ u w, R u w → R' u w) : Lands P f us w R' := by
  rcases h with ⟨h1, h2⟩ | ⟨u, w', h1, h2⟩
  · exact .inl ⟨h1, Calls.mono h2 fun e w' ⟨u, h3, h4⟩ => ⟨u, h3, hr _ _ h4⟩⟩
  · exact .inr ⟨u, w', h1, hr _ _ h2⟩

def Gives (E : Env) (C : Ctx) (v : AV) (H' : Heap) (u : Value) (w' : World) : Prop :=
  ∃ C' : Ctx, C'.w = w' ∧ C'.H = H' ∧ V C' false v u ∧ HR E C' ∧ Ev C C' ∧ C'.noLoc

def GivesL (E : Env) (C : Ctx) (v : AV) (H' : Heap) (u : Value) (w' : World) : Prop :=
  ∃ C' : Ctx, C'.w = w' ∧ C'.H = H' ∧ V C' false v u ∧ HR E C' ∧ EvL C C'

/-- Calls do what is said of them. -/
def CallOK (E : Env) (cf : CallFn) : Prop :=
  ∀ (f : FuncId) (args : List AV) (C : Ctx) (us : Array Value) (v : AV) (H' : Heap), cf (AV × Heap) f args C.H (fun v G => some (v, G)) = some (v, H') → HR E C → C.noLoc → Vs C false args us.toList →
    Lands E.P f us C.w (Gives E C v H')

def CallKOK (E : Env) (cf : CallFn) : Prop :=
  ∀ (f : FuncId) (args : List AV) (C : Ctx) (us : Array Value) (v : AV) (H' : Heap), callK E cf f args C.H (fun v G => some (v, G)) = some (v, H') → HR E C → Vs C false args us.toList →
    Lands E.P f us C.w (GivesL E C v H')

theorem gives_back (hr : HR E C) {v : AV} {H' : Heap} {u : Value} {w' : World} (h : Gives E C.strip v H' u w') : GivesL E C v H' u w' := by
  obtain ⟨C', h1, h2, h3, h4, h5, h6⟩ := h
  obtain ⟨g1, g2⟩ := back_ok hr h4 h5
  exact ⟨C.back C', h1, h2, h3.evV (back_evV hr h5), g2, g1⟩

/-- What an operation leaves. -/
def Post (E : Env) (C : Ctx) (st' : St) (H' : Heap) (a' : Act) (w' : World) : Prop :=
  ∃ C' lam', C'.w = w' ∧ C'.H = H' ∧ HR E C' ∧ Ev C C' ∧ FrameR C' lam' st' a'

variable {lam : Nat → Nat} {st : St} {a : Act} {o : Oper} {Q : Exit → Act → World → Prop}

theorem value_wp {u : Value} {v : AV} (hf : FrameR C lam st a) (hrun : (execOp a.eval o).run E.P C.w = .ok (.value u) C'.w) (ev : EvL C C') (hr' : HR E C') (hv : V C' false v u) :
    o.wp E.P a C.w (Post E C (stPut st o.dst (.val v)) C'.H) Q := by
  unfold Oper.wp
  rw [hrun]
  exact ⟨C', lam, rfl, rfl, hr', ev.ev, (hf.ev ev).put hv⟩

theorem skip_wp (hf : FrameR C lam st a) (hrun : (execOp a.eval o).run E.P C.w = .ok .skip C'.w) (ev : EvL C C') (hr' : HR E C') :
    o.wp E.P a C.w (Post E C (stPut st o.dst (.val .undef)) C'.H) Q := by
  unfold Oper.wp
  rw [hrun]
  exact ⟨C', lam, rfl, rfl, hr', ev.ev, (hf.ev ev).put (.undef _)⟩

theorem lp_wp {s off : Nat} (hr : HR E C) (hf : FrameR C lam st a) (hrun : (execOp a.eval o).run E.P C.w = .ok (.value (.pointer (some ⟨lam s, off, none⟩))) C.w) (hs : st.var s ≠ none) :
    o.wp E.P a C.w (Post E C (stPut st o.dst (.lp s off)) C.H) Q := by
  unfold Oper.wp
  rw [hrun]
  exact ⟨C, lam, rfl, rfl, hr, Ev.refl C, hf.put ⟨rfl, hs⟩⟩

theorem lands_wp {f : FuncId} {us : Array Value} {v : AV} {H' : Heap} (hf : FrameR C lam st a) (hrun : (execOp a.eval o).run E.P C.w = (callFunc f us).run E.P C.w) (h : Lands E.P f us C.w (GivesL E C v H')) :
    o.wp E.P a C.w (Post E C (stPut st o.dst (.val v)) H') Q := by
  unfold Oper.wp
  rw [hrun]
  rcases h with ⟨h1, h2⟩ | ⟨u, w', h1, C', rfl, rfl, h4, h5, h6⟩
  · rw [h1]
    refine Calls.mono h2 fun e w' h3 => ?_
    obtain ⟨u, rfl, C', rfl, rfl, h4, h5, h6⟩ := h3
    exact ⟨C', lam, rfl, rfl, h5, h6.ev, (hf.ev h6).put h4⟩
  · rw [h1]
    exact ⟨C', lam, rfl, rfl, h5, h6.ev, (hf.ev h6).put h4⟩

end
end Go.Den

/- DEN, part O: the frame's own variables: laid, written, read. -/
namespace Go.Den
open Go.RowKit

section
variable {E : Env} {C C' : Ctx} {lam : Nat → Nat} {st : St} {a : Act} {o : Oper} {Q : Exit → Act → World → Prop} {q : Bool}

theorem var_set_ne {s s' : Nat} {cs : List AV} (h : s ≠ s') : (st.setVar s cs).var s' = st.var s' := Tr.get_set_ne h
theorem var_set_self {s : Nat} {cs x : List AV} (h : (st.setVar s cs).var s = some x) : x = cs := by
  rcases Tr.get_set_self (z := (none : Option (List AV))) (t := st.L) (i := s) (x := some cs) with h1 | h1
  · have : (some cs : Option (List AV)) = some x := h1.symm.trans h
    injection this with this
    exact this.symm
  · have : (none : Option (List AV)) = some x := h1.1.symm.trans h
    cases this
theorem var_set_some {s : Nat} {cs ds : List AV} (h : st.var s = some ds) : (st.setVar s cs).var s = some cs := by
  rcases Tr.get_set_self (z := (none : Option (List AV))) (t := st.L) (i := s) (x := some cs) with h1 | h1
  · exact h1
  · have : (none : Option (List AV)) = some ds := h1.2.symm.trans h
    cases this
theorem get_setVar {s t : Nat} {cs : List AV} : (st.setVar s cs).get t = st.get t := rfl

def Ctx.lay (C : Ctx) (s : Nat) (w' : World) : Ctx := { C with w := w', κ := fun b => if b = C.w.heap.size then .loc s else C.κ b }

theorem lay_ok (hr : HR E C) {s : Nat} {w' : World} {b : Obj} (hs : Same C.w w') (hheap : w'.heap = C.w.heap.push b) : EvL C (C.lay s w') ∧ HR E (C.lay s w') := by
  have hold : ∀ i, i < C.w.heap.size → w'.heap[i]? = C.w.heap[i]? := fun i hi => by rw [hheap, Array.getElem?_push, if_neg (by omega)]
  have hne : ∀ i, i < C.w.heap.size → (C.lay s w').κ i = C.κ i := fun i hi => by show (if i = _ then _ else _) = _; rw [if_neg (by omega)]
  have ev : EvL C (C.lay s w') := by
    refine ⟨⟨hs.os, hs.tape, hs.output, by show _ ≤ w'.heap.size; rw [hheap]; simp, fun i hi _ => ⟨hold i hi, hne i hi⟩, Nat.le_refl _, ?_, ?_, ?_⟩, fun i hi s hl => ⟨hold i hi, (hne i hi).trans hl⟩⟩
    · intro i hi v sz ty es h
      refine ⟨v, es, h, Nat.le_refl _, fun _ => ⟨rfl, fun cells t f hc => ⟨cells, t, f, ?_, rfl⟩⟩⟩
      obtain ⟨_, _, _, cur, fr, us, hcur, _⟩ := hr.row i v sz ty es h
      rw [← hold _ (Array.getElem?_eq_some_iff.1 hcur).1]
      exact hc
    · exact fun i hi l pos h => ⟨⟨l, pos, h⟩, rfl⟩
    · exact fun i hi k e es h => ⟨⟨k, e, es, h⟩, rfl⟩
  refine ⟨ev, hr.step ev.ev ?_ ?_ ?_⟩
  · intro i v sz ty es h
    obtain ⟨_, _, hk, cur, fr, us, hcur, _⟩ := hr.row i v sz ty es h
    have hlt := (Array.getElem?_eq_some_iff.1 hcur).1
    exact .inl ⟨h, rfl, (hne _ hlt).trans hk, hold _ hlt⟩
  · intro i l pos h
    obtain ⟨hk, s, _, hcur⟩ := hr.iter i l pos h
    have hlt := (Array.getElem?_eq_some_iff.1 hcur).1
    exact .inl ⟨h, rfl, (hne _ hlt).trans hk, hold _ hlt⟩
  · intro i hi
    have hi' : C.w.heap.size + 1 ≤ i := by
      have : (C.lay s w').w.heap.size = C.w.heap.size + 1 := by show w'.heap.size = _; rw [hheap]; simp
      omega
    show (if i = _ then _ else _) = _
    rw [if_neg (by omega)]
    exact hr.new i (by omega)

theorem lay_wp (hr : HR E C) (hf : FrameR C lam st a) {s : Nat} {v : AV} {uv : Value} {x : SV} {st' : St} {H' : Heap} {t : TypeId} (h : layK s v.cells st C.H (fun x s G => some (x, s, G)) = some (x, st', H')) (hd : v.isDef = true) (hv : V C q v uv)
    (hrun : (execOp a.eval o).run E.P C.w = .ok (.value (.pointer (some ⟨C.w.heap.size, 0, none⟩))) (C.w.alloc (.cells uv.cells t))) : o.wp E.P a C.w (Post E C (stPut st' o.dst x) H') Q := by
  unfold layK at h
  split at h
  · rename_i hn
    split at h
    · rename_i ds hds
      simp only [Option.some.injEq, Prod.mk.injEq] at h
      obtain ⟨rfl, rfl, rfl⟩ := h
      have := var_set_self hds
      subst this
      obtain ⟨ev, hr'⟩ := lay_ok (s := s) (w' := C.w.alloc (.cells uv.cells t)) hr ⟨rfl, rfl, rfl⟩ rfl
      obtain ⟨hvc, h1⟩ := hv.cells hd
      have hf' := hf.ev ev
      have hF : FrameR (C.lay s (C.w.alloc (.cells uv.cells t))) (fun i => if i = s then C.w.heap.size else lam i) (st.setVar s v.cells) a := by
        refine ⟨hf.size, hf.defers, fun i => ?_, fun s' cs hs' => ?_⟩
        · have hi := hf'.slots i
          unfold SlotOk at hi ⊢
          rw [get_setVar]
          split at hi
          · exact hi
          · rename_i s2 off _
            have hne : s2 ≠ s := fun e => hi.2 (by rw [e]; exact hn)
            refine ⟨by simp only [if_neg hne]; exact hi.1, ?_⟩
            rw [var_set_ne (fun e => hne e.symm)]
            exact hi.2
          · trivial
        · by_cases e : s' = s
          · subst e
            rw [hds] at hs'
            injection hs' with hs'
            subst hs'
            simp only [if_true]
            have hsz : (C.w.alloc (.cells uv.cells t)).heap.size = C.w.heap.size + 1 := by simp
            refine ⟨by simp [Ctx.lay], by show _ < (C.w.alloc (.cells uv.cells t)).heap.size; omega, uv.cells, t, (0, 0), by show (C.w.heap.push _)[_]? = _; simp, fun j _ h => by omega, hvc.weakenB.ev ev.ev, h1⟩
          · simp only [if_neg e]
            exact hf'.vars s' cs (by rw [← hs', var_set_ne (fun e' => e e'.symm)])
      unfold Oper.wp
      rw [hrun]
      refine ⟨C.lay s (C.w.alloc (.cells uv.cells t)), _, rfl, rfl, hr', ev.ev, hF.put (x := .lp s 0) ⟨by simp, by rw [hds]; simp⟩⟩
    · simp at h
  · simp at h

/-- What a variable of the frame's own holds. -/
theorem loc_load (hf : FrameR C lam st a) {s off : Nat} {cs : List AV} {t : TypeId} {ag : Bool} {sz : Nat} {v : AV} (hs : st.var s = some cs) (hag : E.isAgg t = some ag) (hsz : E.size t = some sz) (h : A.ofList ag sz cs off = some v) :
    ∃ u, (loadVar t ⟨lam s, off, none⟩).run E.P C.w = .ok u C.w ∧ V C false v u := by
  obtain ⟨h1, h2, cur, ty, fr, h3, h4, h5, h6⟩ := hf.vars s cs hs
  exact load_cells (a := ⟨lam s, off, none⟩) hag hsz (ofList_drop h) (h5.drop off) (fun c hc => h6 c (List.mem_of_mem_drop hc)) fun j u hu => by
    rw [List.getElem?_drop, Array.getElem?_toList] at hu
    rw [Addr.add_lit]
    simp only [World.cell?, h3]
    simpa using hu

theorem loc_store (hr : HR E C) (hf : FrameR C lam st a) {s off : Nat} {cs : List AV} {t : TypeId} {sz : Nat} {v : AV} {uv : Value} (hs : st.var s = some cs) (hsz : E.size t = some sz) (hfit : A.fits sz v = true) (hle : off + v.cells.length ≤ cs.length) (hv : V C q v uv) :
    ∃ C', (storeVar t ⟨lam s, off, none⟩ uv).run E.P C.w = .ok () C'.w ∧ C'.H = C.H ∧ HR E C' ∧ Ev C C' ∧ FrameR C' lam (st.setVar s (A.splice cs off v.cells)) a := by
  obtain ⟨hd, hl, h1⟩ := fits_def hfit
  obtain ⟨hvc, _⟩ := hv.cells hd
  obtain ⟨k1, k2, cur, ty, fr, k3, k4, k5, k6⟩ := hf.vars s cs hs
  have hwl : uv.cells.toList.length = v.cells.length := hvc.length
  have hcl : cur.size = cs.length := by rw [← Array.length_toList]; exact k5.length
  have hrun : (storeVar t ⟨lam s, off, none⟩ uv).run E.P C.w = .ok () (C.w.setCells (lam s) off uv.cells.toList) := by
    have hcs : uv.cells.size = sz := by rw [← Array.length_toList, hwl, hl]
    simp only [storeVar, Sem.run_bind, Sem.run_pure, Result.andThen_ok, size_run hsz, hcs, ne_eq, not_true_eq_false, if_false]
    have := run_storeCells_cells (P := E.P) (lam s) off uv.cells.toList 0 C.w (fun j hj => by
      simp only [World.cell?, k3, Option.isSome_none, Bool.false_eq_true, if_false, Nat.add_zero]
      rw [Array.getElem?_eq_getElem (by omega)]
      rfl) (fun j hj => by
      simp only [World.frozen?, k3, Nat.add_zero]
      have := k4 (off + j) (by omega)
      simp only [Bool.and_eq_false_iff, decide_eq_false_iff_not]
      rcases Nat.lt_or_ge (off + j) fr.1 with h | h
      · exact .inl (by omega)
      · exact .inr (fun h2 => this ⟨h, h2⟩)) (hvc.one h1)
    simpa using this
  obtain ⟨cur', g1, g2, g3⟩ := setCells_heap (lam s) uv.cells.toList off C.w cur ty fr k3 (by rw [hwl, hcl]; exact hle)
  obtain ⟨f1, f2, f3, f4⟩ := setCells_frame (lam s) uv.cells.toList off C.w
  have hot : ∀ b, b ≠ lam s → (C.w.setCells (lam s) off uv.cells.toList).heap[b]? = C.w.heap[b]? := fun b hb => setCells_other _ _ _ _ _ hb
  have hobj : ∀ b id, C.κ b = .obj id → b ≠ lam s := fun b id hb e => by rw [e, k1] at hb; cases hb
  have ev : Ev C { C with w := C.w.setCells (lam s) off uv.cells.toList } := by
    refine ⟨f2, f3, f4, Nat.le_of_eq f1.symm, fun b hb hk => ⟨hot b fun e => ?_, rfl⟩, Nat.le_refl _, ?_, ?_, ?_⟩
    · rw [e, k1] at hk
      rcases hk with hk | hk <;> cases hk
    · intro i hi v sz ty es h
      refine ⟨v, es, h, Nat.le_refl _, fun _ => ⟨rfl, fun cells t f hc => ⟨cells, t, f, ?_, rfl⟩⟩⟩
      rw [← hot _ (hobj _ i (hr.row i v sz ty es h).2.2.1)]
      exact hc
    · exact fun i hi l pos h => ⟨⟨l, pos, h⟩, rfl⟩
    · exact fun i hi k e es h => ⟨⟨k, e, es, h⟩, rfl⟩
  refine ⟨{ C with w := C.w.setCells (lam s) off uv.cells.toList }, hrun, rfl, hr.step ev ?_ ?_ ?_, ev, ⟨hf.size, hf.defers, fun i => ?_, fun s' cs' hs' => ?_⟩⟩
  · intro i v sz ty es h
    exact .inl ⟨h, rfl, (hr.row i v sz ty es h).2.2.1, hot _ (hobj _ i (hr.row i v sz ty es h).2.2.1)⟩
  · intro i l pos h
    exact .inl ⟨h, rfl, (hr.iter i l pos h).1, hot _ (hobj _ i (hr.iter i l pos h).1)⟩
  · intro b hb
    exact hr.new b (by rw [← f1]; exact hb)
  · have hi := hf.slots i
    unfold SlotOk at hi ⊢
    rw [get_setVar]
    split at hi
    · exact hi.ev ev
    · rename_i s2 o2 _
      refine ⟨hi.1, ?_⟩
      by_cases e : s2 = s
      · rw [e, var_set_some hs]; simp
      · rw [var_set_ne (fun e' => e e'.symm)]; exact hi.2
    · trivial
  · by_cases e : s' = s
    · subst e
      rw [var_set_some hs] at hs'
      injection hs' with hs'
      subst hs'
      refine ⟨k1, by show _ < _; rw [f1]; exact k2, cur', ty, fr, g1, by rw [g2]; exact k4, ?_, splice_mem k6 h1⟩
      have hsp := (k5.splice hvc.weakenB off).ev ev
      have : cur'.toList = cur.toList.take off ++ uv.cells.toList ++ cur.toList.drop (off + uv.cells.toList.length) := by
        apply List.ext_getElem?
        intro j
        rw [splice_get (by rw [Array.length_toList]; omega)]
        simp only [Array.getElem?_toList, g3]
      rw [this]
      exact hsp
    · rw [var_set_ne (fun e' => e e'.symm)] at hs'
      obtain ⟨m1, m2, cur2, ty2, fr2, m3, m4, m5, m6⟩ := hf.vars s' cs' hs'
      have hne : lam s' ≠ lam s := fun e2 => by
        rw [e2, k1] at m1
        injection m1 with m1
        exact e m1.symm
      exact ⟨m1, by show _ < _; rw [f1]; exact m2, cur2, ty2, fr2, (hot _ hne).trans m3, m4, m5.ev ev, m6⟩

end
end Go.Den

/- DEN, part P: each operation does what it is said to do. -/
namespace Go.Den
open Go.RowKit

section
variable {E : Env} {cf : CallFn} {C C' : Ctx} {lam : Nat → Nat} {st : St} {a : Act} {o : Oper} {Q : Exit → Act → World → Prop} {q p : Bool}

theorem withV_some {R : Type} {x : Option AV} {k : AV → Option R} {r : R} (h : withV x k = some r) : ∃ v, x = some v ∧ k v = some r := by
  cases x with
  | none => cases h
  | some v => exact ⟨v, rfl, h⟩

theorem run_v {P : Program} {s : Sem Value} {w w' : World} {u : Value} (h : s.run P w = .ok u w') : (do pure (.value (← s)) : Sem Next).run P w = .ok (.value u) w' := by
  simp [Sem.run_bind, h]
theorem run_u {P : Program} {s : Sem Unit} {w w' : World} (h : s.run P w = .ok () w') : (do s; pure .skip : Sem Next).run P w = .ok .skip w' := by
  simp [Sem.run_bind, h]

/-- A reading of the small heap. -/
theorem pure_wp {u : Value} {v : AV} {x : SV} {st' : St} {H' : Heap} (hr : HR E C) (hf : FrameR C lam st a) (h : (some (SV.val v, st, C.H) : Option (SV × St × Heap)) = some (x, st', H')) (hrun : (execOp a.eval o).run E.P C.w = .ok (.value u) C.w) (hv : V C p v u) :
    o.wp E.P a C.w (Post E C (stPut st' o.dst x) H') Q := by
  simp only [Option.some.injEq, Prod.mk.injEq] at h
  obtain ⟨rfl, rfl, rfl⟩ := h
  exact value_wp hf hrun (EvL.refl C) hr hv.weakenB

theorem make_wp {u : Value} {v : AV} {x : SV} {st' : St} {H1 H' : Heap} (hf : FrameR C lam st a) (h : (some (SV.val v, st, H1) : Option (SV × St × Heap)) = some (x, st', H')) (hrun : (execOp a.eval o).run E.P C.w = .ok (.value u) C'.w) (hr' : HR E C') (ev : EvL C C') (hH : C'.H = H1) (hv : V C' false v u) :
    o.wp E.P a C.w (Post E C (stPut st' o.dst x) H') Q := by
  simp only [Option.some.injEq, Prod.mk.injEq] at h
  obtain ⟨rfl, rfl, rfl⟩ := h
  rw [← hH]
  exact value_wp hf hrun ev hr' hv

theorem lpe_wp {s off : Nat} {x : SV} {st' : St} {H' : Heap} (hr : HR E C) (hf : FrameR C lam st a) (h : (some (SV.lp s off, st, C.H) : Option (SV × St × Heap)) = some (x, st', H'))
    (hrun : (execOp a.eval o).run E.P C.w = .ok (.value (.pointer (some ⟨lam s, off, none⟩))) C.w) (hs : st.var s ≠ none) : o.wp E.P a C.w (Post E C (stPut st' o.dst x) H') Q := by
  simp only [Option.some.injEq, Prod.mk.injEq] at h
  obtain ⟨rfl, rfl, rfl⟩ := h
  exact lp_wp hr hf hrun hs

theorem move_sound (hr : HR E C) (hf : FrameR C lam st a) {y : Operand} {x : SV} {st' : St} {H' : Heap}
    (h : (match y with
      | .tmp t => match st.get t with
        | .val w => some (SV.val w, st, C.H)
        | .lp s off => some (SV.lp s off, st, C.H)
        | .no => none
      | y => withV (st.eval E y) fun v => some (SV.val v, st, C.H)) = some (x, st', H'))
    (hrun : (execOp a.eval o).run E.P C.w = .ok (.value (a.eval y)) C.w) : o.wp E.P a C.w (Post E C (stPut st' o.dst x) H') Q := by
  cases y with
  | tmp t =>
    dsimp only at h
    split at h
    · rename_i w hw
      exact pure_wp hr hf h hrun (slot_val hf hw)
    · rename_i s off hw
      obtain ⟨h1, h2⟩ := slot_lp hf hw
      exact lpe_wp hr hf h (by rw [hrun, h1]) h2
    · cases h
  | _ =>
    dsimp only at h
    obtain ⟨v, hv, h⟩ := withV_some h
    exact pure_wp hr hf h hrun (eval_ok hr hf hv)

theorem newVar_run {P : Program} {t : TypeId} {uv : Value} {w : World} : (newVar t uv).run P w = .ok ⟨w.heap.size, 0, none⟩ (w.alloc (.cells uv.cells t)) := rfl

theorem zero_def {t : TypeId} {z : AV} (h : E.zero t = some z) : z.isDef = true := by
  simp only [Env.zero, Option.bind_eq_some_iff] at h
  obtain ⟨_, _, h⟩ := h
  exact ofConst_def h

/-- A new variable: of the frame's own, or of the small heap. -/
theorem var_sound (hr : HR E C) (hf : FrameR C lam st a) {site : Option Nat} {t : TypeId} {sz : Nat} {v : AV} {uv : Value} {x : SV} {st' : St} {H' : Heap}
    (hrun : ∀ u w', (newVar t uv).run E.P C.w = .ok u w' → (execOp a.eval o).run E.P C.w = .ok (.value (.pointer (some u))) w') (hd : v.isDef = true) (hv : V C q v uv) (hl : v.cells.length = sz) (hz : 0 < sz)
    (h : (match site with
      | some s => layK s v.cells st C.H (fun x s G => some (x, s, G))
      | none => some (SV.val (A.newBox sz t v C.H).1, st, (A.newBox sz t v C.H).2)) = some (x, st', H')) : o.wp E.P a C.w (Post E C (stPut st' o.dst x) H') Q := by
  split at h
  · exact lay_wp hr hf h hd hv (hrun _ _ newVar_run)
  · obtain ⟨C', u, g1, g2, g3, g4, g5⟩ := newBox_ok hr hl hd hz hv
    exact make_wp hf h (hrun _ _ g1) g2 g3 g4 g5

theorem alloc_sound (hr : HR E C) (hf : FrameR C lam st a) {site : Option Nat} {t : TypeId} {x : SV} {st' : St} {H' : Heap} (ho : o.op = .alloc t)
    (h : opK E cf site o st C.H (fun x s G => some (x, s, G)) = some (x, st', H')) : o.wp E.P a C.w (Post E C (stPut st' o.dst x) H') Q := by
  unfold opK at h
  simp only [ho] at h
  split at h
  · rename_i z sz hz hsz
    obtain ⟨zv, k1, k2⟩ := zero_run hz C.w
    have hrun : ∀ u w', (newVar t zv).run E.P C.w = .ok u w' → (execOp a.eval o).run E.P C.w = .ok (.value (.pointer (some u))) w' := fun u w' hn => by
      unfold execOp
      simp only [ho]
      refine run_v ?_
      simp only [Instr.alloc, Sem.run_bind, k1, Result.andThen_ok, hn, Sem.run_pure]
    cases hc : (z.cells.length == sz && decide (0 < sz))
    · simp only [hc, cond_false] at h
      split at h <;> cases h
    · simp only [hc, cond_true] at h
      simp only [Bool.and_eq_true, beq_iff_eq, decide_eq_true_eq] at hc
      exact var_sound hr hf hrun (zero_def hz) k2 hc.1 hc.2 h
  · cases h

theorem box_sound (hr : HR E C) (hf : FrameR C lam st a) {site : Option Nat} {t : TypeId} {y : Operand} {x : SV} {st' : St} {H' : Heap} (ho : o.op = .box t y)
    (h : opK E cf site o st C.H (fun x s G => some (x, s, G)) = some (x, st', H')) : o.wp E.P a C.w (Post E C (stPut st' o.dst x) H') Q := by
  unfold opK at h
  simp only [ho] at h
  split at h
  · rename_i v sz hv hsz
    have hrun : ∀ u w', (newVar t (a.eval y)).run E.P C.w = .ok u w' → (execOp a.eval o).run E.P C.w = .ok (.value (.pointer (some u))) w' := fun u w' hn => by
      unfold execOp
      simp only [ho]
      refine run_v ?_
      simp only [Instr.box, Sem.run_bind, Result.andThen_ok, hn, Sem.run_pure]
    cases hc : (v.cells.length == sz && v.isDef && decide (0 < sz))
    · simp only [hc, cond_false] at h
      split at h <;> cases h
    · simp only [hc, cond_true] at h
      simp only [Bool.and_eq_true, beq_iff_eq, decide_eq_true_eq] at hc
      exact var_sound hr hf hrun hc.1.2 (eval_ok hr hf hv) hc.1.1 hc.2 h
  · cases h

theorem load_sound (hr : HR E C) (hf : FrameR C lam st a) {site : Option Nat} {t : TypeId} {y : Operand} {x : SV} {st' : St} {H' : Heap} (ho : o.op = .load t y)
    (h : opK E cf site o st C.H (fun x s G => some (x, s, G)) = some (x, st', H')) : o.wp E.P a C.w (Post E C (stPut st' o.dst x) H') Q := by
  unfold opK at h
  simp only [ho] at h
  have hrun : ∀ u, (Instr.loadAt t (a.eval y)).run E.P C.w = .ok u C.w → (execOp a.eval o).run E.P C.w = .ok (.value u) C.w := fun u hn => by
    unfold execOp
    simp only [ho]
    exact run_v hn
  split at h
  · rename_i ag sz hag hsz
    split at h
    · rename_i t'
      split at h
      · rename_i s off hw
        obtain ⟨h1, h2⟩ := slot_lp hf hw
        split at h
        · rename_i cs hcs
          obtain ⟨v, hv, h⟩ := withV_some h
          obtain ⟨u, g1, g2⟩ := loc_load hf hcs hag hsz hv
          exact pure_wp hr hf h (hrun u (by rw [h1]; simpa [Instr.loadAt, Instr.sureAddr] using g1)) g2
        · cases h
      · rename_i w hw
        obtain ⟨v, hv, h⟩ := withV_some h
        obtain ⟨u, g1, g2⟩ := loadH_ok hr hag hsz hv (slot_val hf hw)
        exact pure_wp hr hf h (hrun u g1) g2
      · cases h
    · split at h
      · rename_i w hw
        obtain ⟨v, hv, h⟩ := withV_some h
        obtain ⟨u, g1, g2⟩ := loadH_ok hr hag hsz hv (eval_ok hr hf hw)
        exact pure_wp hr hf h (hrun u g1) g2
      · cases h
  · cases h

theorem store_sound (hr : HR E C) (hf : FrameR C lam st a) {site : Option Nat} {t : TypeId} {y z : Operand} {x : SV} {st' : St} {H' : Heap} (ho : o.op = .store t y z)
    (h : opK E cf site o st C.H (fun x s G => some (x, s, G)) = some (x, st', H')) : o.wp E.P a C.w (Post E C (stPut st' o.dst x) H') Q := by
  unfold opK at h
  simp only [ho] at h
  have hrun : ∀ w', (Instr.storeAt t (a.eval y) (a.eval z)).run E.P C.w = .ok () w' → (execOp a.eval o).run E.P C.w = .ok .skip w' := fun u hn => by
    unfold execOp
    simp only [ho]
    exact run_u hn
  split at h
  · rename_i v sz hv hsz
    split at h
    · rename_i t'
      split at h
      · rename_i s off hw
        obtain ⟨h1, h2⟩ := slot_lp hf hw
        split at h
        · rename_i cs hcs
          cases hc : (A.fits sz v && decide (off + v.cells.length ≤ cs.length))
          · simp only [hc, cond_false] at h
            cases h
          · simp only [hc, cond_true, Option.some.injEq, Prod.mk.injEq] at h
            obtain ⟨rfl, rfl, rfl⟩ := h
            simp only [Bool.and_eq_true, decide_eq_true_eq] at hc
            obtain ⟨C', g1, g2, g3, g4, g5⟩ := loc_store hr hf hcs hsz hc.1 hc.2 (eval_ok hr hf hv)
            unfold Oper.wp
            rw [hrun C'.w (by rw [h1]; simpa [Instr.storeAt, Instr.sureAddr] using g1)]
            exact ⟨C', lam, rfl, g2, g3, g4, g5.put (x := .val .undef) (.undef _)⟩
        · cases h
      · rename_i w hw
        split at h
        · rename_i H1 hH
          obtain ⟨C', g1, g2, g3, g4⟩ := storeH_ok hr hsz hH (slot_val hf hw) (eval_ok hr hf hv)
          simp only [Option.some.injEq, Prod.mk.injEq] at h
          obtain ⟨rfl, rfl, rfl⟩ := h
          rw [← g4]
          exact skip_wp hf (hrun _ g1) g3 g2
        · cases h
      · cases h
    · cases h
  · cases h

end
end Go.Den
