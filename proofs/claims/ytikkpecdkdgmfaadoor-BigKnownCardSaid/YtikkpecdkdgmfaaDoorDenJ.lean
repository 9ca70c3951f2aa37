/- DEN, part J: addresses, indexes, cuts, structs, lengths, as the machine does them. -/
import Derived.Test.YtikkpecdkdgmfaaDoorDenI
namespace Go.Den
open Go.RowKit

section
variable {E : Env} {C : Ctx} {p q : Bool}

theorem aliveZ_row {H : Heap} {id ver sz : Nat} (h : A.aliveZ H id ver sz = true) : ∃ ty es, H[id]? = some (.row ver sz ty es) := by
  unfold A.aliveZ at h
  split at h
  · rename_i v z ty es hr
    simp only [Bool.and_eq_true, beq_iff_eq] at h
    obtain ⟨rfl, rfl⟩ := h
    exact ⟨ty, es, hr⟩
  · simp at h

theorem ptr_alive {id ver i off : Nat} {u : Value} (h : V C p (.ptr id ver i off) u) (ha : A.alive C.H id ver = true) : ∃ sz ty es, C.H[id]? = some (.row ver sz ty es) ∧ u = .pointer (some ⟨(C.ρ id).1, (C.ρ id).2 + (i * sz + off), none⟩) ∧ PtrOk C id ver i off u := by
  obtain ⟨sz, ty, es, hr⟩ := alive_row ha
  cases h with
  | ptr _ _ _ _ _ h0 h1 => exact ⟨sz, ty, es, hr, (h1.2 ver sz ty es hr).2 rfl, h1⟩

theorem fieldOff_run {s i fo : Nat} (h : E.fieldOff s i = some fo) (a : Addr) (w : World) : (Instr.fieldAt s (.pointer (some a)) i).run E.P w = .ok (.pointer (some (a.add fo))) w := by
  unfold Env.fieldOff Env.fieldOf at h
  split at h
  · rename_i f hf
    split at h
    · rename_i k hk
      simp only [Option.some.injEq] at h
      subst h
      split at hf
      · rename_i fs hd
        have hs := size_run (w := w) hk
        simp only [Instr.fieldAt, Sem.run_bind, run_underlying hd, Result.andThen_ok, hf, Instr.sureAddr, Sem.run_pure, fieldPlace, hs, Nat.add_one_ne_zero, if_false]
      · simp at hf
    · simp at h
  · simp at h

theorem fa_ok {s i fo : Nat} {x v : AV} {u0 : Value} (hf : E.fieldOff s i = some fo) (h : A.fa fo x C.H = some v) (hx : V C p x u0) : ∃ u, (Instr.fieldAt s u0 i).run E.P C.w = .ok u C.w ∧ V C false v u := by
  unfold A.fa at h
  split at h
  · rename_i cs
    simp only [Option.some.injEq] at h
    subst h
    cases hx with
    | rop _ _ a us h0 h1 h2 h3 h4 =>
      have hab : (a.add fo).block = a.block := by unfold Addr.add; split <;> rfl
      refine ⟨_, fieldOff_run hf a C.w, .rop _ _ _ _ (fun c hc => h0 c (List.mem_of_mem_drop hc)) (h1.drop fo) (fun j u hu => ?_) (by rw [hab]; exact h3) (by rw [hab]; exact h4)⟩
      rw [List.getElem?_drop] at hu
      rw [add_add]
      exact h2 _ _ hu
  · rename_i id ver i' o
    cases ha : A.alive C.H id ver
    · rw [ha] at h; simp at h
    · rw [ha] at h
      simp only [cond_true, Option.some.injEq] at h
      subst h
      obtain ⟨sz, ty, es, hr, rfl, h1⟩ := ptr_alive hx ha
      refine ⟨_, fieldOff_run hf _ C.w, .ptr _ _ _ _ _ rfl ⟨h1.1, fun v sz' ty' es' hr' => ?_⟩⟩
      obtain ⟨g1, g2⟩ := h1.2 v sz' ty' es' hr'
      refine ⟨g1, fun e => ?_⟩
      have := g2 e
      injection this with this
      injection this with this
      rw [this, Addr.add_lit]
      congr 2
      simp only [Addr.mk.injEq, true_and, and_true]
      omega
  · simp at h

/-- The same at a place that is reckoned. -/
theorem add_ok {x v : AV} {n : Nat} {u0 : Value} (h : A.fa n x C.H = some v) (hx : V C p x u0) : ∃ a, u0 = .pointer (some a) ∧ V C false v (.pointer (some (a.add n))) := by
  unfold A.fa at h
  split at h
  · rename_i cs
    simp only [Option.some.injEq] at h
    subst h
    cases hx with
    | rop _ _ a us h0 h1 h2 h3 h4 =>
      have hab : (a.add n).block = a.block := by unfold Addr.add; split <;> rfl
      refine ⟨a, rfl, .rop _ _ _ _ (fun c hc => h0 c (List.mem_of_mem_drop hc)) (h1.drop n) (fun j u hu => ?_) (by rw [hab]; exact h3) (by rw [hab]; exact h4)⟩
      rw [List.getElem?_drop] at hu
      rw [add_add]
      exact h2 _ _ hu
  · rename_i id ver i' o
    cases ha : A.alive C.H id ver
    · rw [ha] at h; simp at h
    · rw [ha] at h
      simp only [cond_true, Option.some.injEq] at h
      subst h
      obtain ⟨sz, ty, es, hr, rfl, h1⟩ := ptr_alive hx ha
      refine ⟨_, rfl, .ptr _ _ _ _ _ rfl ⟨h1.1, fun v sz' ty' es' hr' => ?_⟩⟩
      obtain ⟨g1, g2⟩ := h1.2 v sz' ty' es' hr'
      refine ⟨g1, fun e => ?_⟩
      have := g2 e
      injection this with this
      injection this with this
      rw [this, Addr.add_lit]
      congr 2
      simp only [Addr.mk.injEq, true_and, and_true]
      omega
  · simp at h

theorem nilCheck_ok {x v : AV} {u0 : Value} {P : Program} (h : A.nilCheck x C.H = some v) (hx : V C p x u0) : V C false v u0 ∧ (∀ o : Oper, ∀ a : Act, ∀ y, o.op = .nilCheck y → a.eval y = u0 → (execOp a.eval o).run P C.w = .ok (.value u0) C.w) := by
  unfold A.nilCheck at h
  split at h
  · simp only [Option.some.injEq] at h
    subst h
    cases hx with
    | rop _ _ a us h0 h1 h2 h3 h4 =>
      refine ⟨.rop _ _ _ _ h0 h1 h2 h3 h4, fun o act y ho he => ?_⟩
      unfold execOp
      simp only [ho, he]
      rfl
  · rename_i id ver i o
    cases ha : A.alive C.H id ver
    · rw [ha] at h; simp at h
    · rw [ha] at h
      simp only [cond_true, Option.some.injEq] at h
      subst h
      have hx' := hx.weakenB
      obtain ⟨sz, ty, es, hr, rfl, h1⟩ := ptr_alive hx ha
      refine ⟨hx', fun o act y ho he => ?_⟩
      unfold execOp
      simp only [ho, he]
      rfl
  · simp only [Option.some.injEq] at h
    subst h
    cases hx with
    | fn _ f a b as bs h1 h2 =>
      refine ⟨.fn _ _ _ _ _ _ h1.weakenB h2.weakenB, fun o act y ho he => ?_⟩
      unfold execOp
      simp only [ho, he]
      rfl
  · simp at h

theorem idx_ok {t e : TypeId} {sz : Nat} {s i v : AV} {u1 u2 : Value} (ht : E.P.underlying t = some (.slice e)) (hsz : E.size e = some sz) (h : A.idx sz s i C.H = some v) (hx : V C p s u1) (hy : V C q i u2) :
    ∃ u, (Instr.indexAt t u1 u2).run E.P C.w = .ok u C.w ∧ V C false v u := by
  have hrun : ∀ (a : Addr) (n c : Nat) (k : IntKind) (i : Int), 0 ≤ i → i < n → (Instr.indexAt t (.slice (some a) n c) (.int k i)).run E.P C.w = .ok (.pointer (some (a.add (i.toNat * sz)))) C.w := by
    intro a n c k i h0 h1
    simp only [Instr.indexAt, Sem.run_bind, asIntOf, Sem.run_pure, Result.andThen_ok, run_underlying ht, size_run hsz]
    rw [if_pos ⟨h0, h1⟩]
    simp only [Sem.run_bind, size_run hsz, Result.andThen_ok, Sem.run_pure]
  unfold A.idx at h
  split at h
  · rename_i z es k i
    split at h
    · rename_i hc
      obtain ⟨h0, h1, rfl⟩ := hc
      rw [Option.map_eq_some_iff] at h
      obtain ⟨e', he, rfl⟩ := h
      have e2 := hy.int_inv
      subst e2
      cases hx with
      | sh _ _ _ a c us g1 g2 g3 g4 g5 g6 =>
        have hge : Good z e' := g2 e' (List.mem_of_getElem? he)
        have hne : es ≠ [] := by rintro rfl; simp at he
        have hab : (a.add (i.toNat * z)).block = a.block := by unfold Addr.add; split <;> rfl
        refine ⟨_, hrun a _ _ k i h0 (by omega), .rop _ _ _ _ hge.2 (elem_cells g2 he g1) (fun j u hu => ?_) (by rw [hab]; exact (g4 hne).1) (by rw [hab]; exact (g4 hne).2)⟩
        rw [List.getElem?_take] at hu
        split at hu
        · rw [List.getElem?_drop] at hu
          rw [add_add]
          exact g3 _ _ hu
        · simp at hu
    · simp at h
  · rename_i id ver off n cap k i
    split at h
    · rename_i hc
      obtain ⟨h0, h1, ha⟩ := hc
      simp only [Option.some.injEq] at h
      subst h
      obtain ⟨ty, es, hr⟩ := aliveZ_row ha
      have e2 := hy.int_inv
      subst e2
      cases hx with
      | sl _ _ _ _ _ _ g0 g1 =>
        obtain ⟨a, c, rfl, g2, g3, g4, g5, g6⟩ := (g1.2 ver sz ty es hr).2 rfl
        have hab := g5 (by omega)
        subst hab
        refine ⟨_, hrun _ _ _ k i h0 (by omega), .ptr _ _ _ _ _ rfl ⟨g1.1, fun v sz' ty' es' hr' => ?_⟩⟩
        rw [hr] at hr'
        injection hr' with hr'
        injection hr' with e1 e2 e3 e4
        subst e1 e2 e3 e4
        refine ⟨Nat.le_refl _, fun _ => ?_⟩
        rw [Addr.add_lit]
        congr 2
        simp only [Addr.mk.injEq, true_and, and_true]
        rw [Nat.add_mul]
        omega
    · simp at h
  · simp at h

theorem idxArr_ok {t e : TypeId} {sz n : Nat} {x i v : AV} {u1 u2 : Value} (ht : E.P.underlying t = some (.array n e)) (hsz : E.size e = some sz) (h : A.idxArr sz n x i C.H = some v) (hx : V C p x u1) (hy : V C q i u2) :
    ∃ u, (Instr.indexAt t u1 u2).run E.P C.w = .ok u C.w ∧ V C false v u := by
  unfold A.idxArr at h
  split at h
  · rename_i k i
    split at h
    · rename_i hc
      have e2 := hy.int_inv
      subst e2
      obtain ⟨a, rfl, hv⟩ := add_ok h hx
      refine ⟨_, ?_, hv⟩
      simp only [Instr.indexAt, Sem.run_bind, asIntOf, Sem.run_pure, Result.andThen_ok, run_underlying ht, size_run hsz, Instr.sureAddr]
      rw [if_pos hc]
      simp only [Sem.run_bind, size_run hsz, Result.andThen_ok, Sem.run_pure]
    · simp at h
  · simp at h

theorem idxArr_lp {t e : TypeId} {sz n : Nat} {k : IntKind} {j : Int} (ht : E.P.underlying t = some (.array n e)) (hsz : E.size e = some sz) (h0 : 0 ≤ j ∧ j < n) (a : Addr) (w : World) :
    (Instr.indexAt t (.pointer (some a)) (.int k j)).run E.P w = .ok (.pointer (some (a.add (j.toNat * sz)))) w := by
  simp only [Instr.indexAt, Sem.run_bind, asIntOf, Sem.run_pure, Result.andThen_ok, run_underlying ht, size_run hsz, Instr.sureAddr]
  rw [if_pos h0]
  simp only [Sem.run_bind, size_run hsz, Result.andThen_ok, Sem.run_pure]

/-- Part of a struct, of an array, by value. -/
theorem part_ok {t : TypeId} {ag : Bool} {sz off : Nat} {cs : List AV} {us : Array Value} {v : AV} (hag : E.isAgg t = some ag) (hsz : E.size t = some sz) (h : A.ofList ag sz cs off = some v) (hv : Vs C p cs us.toList) (h1 : ∀ c ∈ cs, c.one = true) (w : World) :
    ∃ u, (part t us off).run E.P w = .ok u w ∧ V C p v u := by
  unfold A.ofList at h
  cases ag
  · simp only [cond_false] at h
    obtain ⟨u, g1, g2⟩ := hv.get h
    refine ⟨u, ?_, g2⟩
    have g1' : us[off]? = some u := by simpa using g1
    simp only [part, Sem.run_bind, isAgg_run hag rfl, Result.andThen_ok, Bool.false_eq_true, if_false, g1', Sem.run_pure]
  · simp only [cond_true] at h
    split at h
    · rename_i hl
      simp only [Option.some.injEq] at h
      subst h
      refine ⟨.agg (us.extract off (off + sz)), ?_, .agg _ _ _ (fun c hc => h1 c (List.mem_of_mem_drop (List.mem_of_mem_take hc))) ?_⟩
      · simp only [part, Sem.run_bind, isAgg_run hag rfl, Result.andThen_ok, if_true, size_run hsz, Sem.run_pure]
      · have : (us.extract off (off + sz)).toList = (us.toList.drop off).take sz := by
          rw [Array.toList_extract, List.extract_eq_take_drop]
          congr 1
          omega
        rw [this]
        exact (hv.drop off).take sz
    · simp at h

theorem agg_parts {cs : List AV} {u : Value} (h : V C p (.agg cs) u) : ∃ us : Array Value, u = .agg us ∧ Vs C p cs us.toList ∧ ∀ c ∈ cs, c.one = true := by
  cases h with | agg _ _ us h0 h => exact ⟨us, rfl, h, h0⟩

theorem field_ok {t : TypeId} {i : Nat} {f : Field} {ag : Bool} {sz : Nat} {x v : AV} {u0 : Value} (hf : E.fieldOf t i = some f) (hag : E.isAgg f.type = some ag) (hsz : E.size f.type = some sz) (h : A.field ag sz f.offset x = some v) (hx : V C p x u0) :
    ∃ u, (Instr.field t u0 i).run E.P C.w = .ok u C.w ∧ V C p v u := by
  unfold A.field at h
  split at h
  · rename_i cs
    obtain ⟨us, rfl, h1, h2⟩ := agg_parts hx
    obtain ⟨u, g1, g2⟩ := part_ok hag hsz h h1 h2 C.w
    refine ⟨u, ?_, g2⟩
    unfold Env.fieldOf at hf
    split at hf
    · rename_i fs hd
      simp only [Instr.field, Sem.run_bind, run_underlying hd, Result.andThen_ok, hf, asAgg, Sem.run_pure, g1]
    · simp at hf
  · simp at h

theorem indexArr_ok {t e : TypeId} {ag : Bool} {sz n : Nat} {x i v : AV} {u1 u2 : Value} (ht : E.P.underlying t = some (.array n e)) (hag : E.isAgg e = some ag) (hsz : E.size e = some sz) (h : A.indexArr ag sz n x i = some v) (hx : V C p x u1) (hy : V C q i u2) :
    ∃ u, (Instr.index t u1 u2).run E.P C.w = .ok u C.w ∧ V C p v u := by
  unfold A.indexArr at h
  split at h
  · rename_i cs k i
    split at h
    · rename_i hc
      have e2 := hy.int_inv
      subst e2
      obtain ⟨us, rfl, h1, h2⟩ := agg_parts hx
      obtain ⟨u, g1, g2⟩ := part_ok hag hsz h h1 h2 C.w
      refine ⟨u, ?_, g2⟩
      simp only [Instr.index, Sem.run_bind, asIntOf, Sem.run_pure, Result.andThen_ok, run_underlying ht]
      rw [if_pos hc]
      simp only [Sem.run_bind, size_run hsz, Result.andThen_ok, g1]
    · simp at h
  · simp at h

theorem index_ok {t : TypeId} {s i v : AV} {u1 u2 : Value} (ht : E.P.underlying t = some .string) (h : A.index s i = some v) (hx : V C p s u1) (hy : V C q i u2) :
    ∃ u, (Instr.index t u1 u2).run E.P C.w = .ok u C.w ∧ V C true v u := by
  unfold A.index at h
  split at h
  · rename_i l k i
    split at h
    · rename_i h0
      rw [Option.map_eq_some_iff] at h
      obtain ⟨b, hb, rfl⟩ := h
      have e2 := hy.int_inv
      subst e2
      obtain ⟨s, rfl, rfl⟩ := hx.str_inv
      refine ⟨.int .u8 b.toNat, ?_, .int _ _ _⟩
      have hb' : s[i.toNat]? = some b := by
        have h1 : s.data[i.toNat]? = some b := by simpa using hb
        obtain ⟨hlt, he⟩ := Array.getElem?_eq_some_iff.1 h1
        rw [getElem?_pos s i.toNat hlt]
        exact congrArg some he
      simp only [Instr.index, Sem.run_bind, asIntOf, Sem.run_pure, Result.andThen_ok, run_underlying ht, if_pos h0, hb']
    · simp at h
  · simp at h

theorem len_ok {t ty e : TypeId} {x v : AV} {u0 : Value} (ht : E.P.underlying t = some (.slice e)) (h : A.len x C.H = some v) (hx : V C p x u0) : ∃ u, (Builtin.len_ #[t] ty #[u0]).run E.P C.w = .ok u C.w ∧ V C true v u := by
  have hrun : ∀ (b : Option Addr) (n c : Nat), (Builtin.len_ #[t] ty #[.slice b n c]).run E.P C.w = .ok (.int .i64 n) C.w := fun b n c => by
    simp [Builtin.len_, run_underlying ht, goInt]
  unfold A.len at h
  split at h
  · cases hx
    simp only [Option.some.injEq] at h
    subst h
    exact ⟨_, hrun none 0 0, .int _ _ _⟩
  · cases hx
    simp only [Option.some.injEq] at h
    subst h
    exact ⟨_, hrun _ _ _, .int _ _ _⟩
  · rename_i id ver off n cap
    cases ha : A.alive C.H id ver
    · rw [ha] at h; simp at h
    · rw [ha] at h
      simp only [cond_true, Option.some.injEq] at h
      subst h
      obtain ⟨sz, ty', es, hr⟩ := alive_row ha
      cases hx with
      | sl _ _ _ _ _ _ g0 g1 =>
        obtain ⟨a, c, rfl, _⟩ := (g1.2 ver sz ty' es hr).2 rfl
        exact ⟨_, hrun _ _ _, .int _ _ _⟩
  · simp at h

theorem lenStr_ok {t ty : TypeId} {x v : AV} {u0 : Value} (ht : E.P.underlying t = some .string) (h : A.lenStr x = some v) (hx : V C p x u0) : ∃ u, (Builtin.len_ #[t] ty #[u0]).run E.P C.w = .ok u C.w ∧ V C true v u := by
  unfold A.lenStr at h
  split at h
  · obtain ⟨s, rfl, rfl⟩ := hx.str_inv
    simp only [Option.some.injEq] at h
    subst h
    refine ⟨.int .i64 s.size, by simp [Builtin.len_, run_underlying ht, goInt], ?_⟩
    have : s.data.toList.length = s.size := by rw [Array.length_toList]; rfl
    rw [this]
    exact .int _ _ _
  · simp at h

end
end Go.Den
