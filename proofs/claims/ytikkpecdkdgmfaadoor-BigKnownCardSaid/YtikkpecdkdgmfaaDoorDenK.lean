/- DEN, part K: cuts of texts and slices, structs and slices out of parts, as the machine does them. -/
import Derived.Test.YtikkpecdkdgmfaaDoorDenJ
namespace Go.Den
open Go.RowKit

section
variable {E : Env} {C : Ctx} {p q : Bool}

/-- An operand that may lack. -/
def OptV (C : Ctx) : Option AV → Option Value → Prop
  | none, none => True
  | some v, some u => V C false v u
  | _, _ => False

theorem opt_evals {lam : Nat → Nat} {st : St} {a : Act} (hr : HR E C) (hf : FrameR C lam st a) {x : Option Operand} {l : List AV} (h : evals E st x.toList = some l) : OptV C l.head? (x.map a.eval) ∧ (l = [] ↔ x = none) := by
  have := evals_ok hr hf h
  cases x with
  | none => cases this; exact ⟨trivial, by simp⟩
  | some x => cases this with | cons _ v u vs us h1 h2 => cases h2; exact ⟨h1, by simp⟩

theorem bound_some {v : AV} {u : Value} {d a : Nat} (h : A.bound (some v) d = some a) (hv : V C p v u) : ∃ k i, u = .int k i ∧ 0 ≤ i ∧ a = i.toNat := by
  unfold A.bound at h
  split at h
  · rename_i e; cases e
  · rename_i k i e
    injection e with e
    subst e
    split at h
    · simp only [Option.some.injEq] at h
      exact ⟨_, _, hv.int_inv, by assumption, h.symm⟩
    · simp at h
  · simp at h

theorem sliceBound_run {P : Program} {w : World} {k : IntKind} {i : Int} {y : Nat} {code : BoundsCode} (h0 : 0 ≤ i) (h1 : i.toNat ≤ y) : (Instr.sliceBound (.int k i) y code).run P w = .ok i.toNat w := by
  have h2 : 0 ≤ i ∧ i ≤ y := ⟨h0, by omega⟩
  simp only [Instr.sliceBound, Sem.run_bind, asIntOf, Sem.run_pure, Result.andThen_ok]
  rw [if_pos h2]
  rfl

/-- The three bounds. -/
theorem bounds_run {P : Program} {w : World} {isSl : Bool} {len cap ccap a b c : Nat} {lo hi mx : Option AV} {ulo uhi umx : Option Value} (hlo : OptV C lo ulo) (hhi : OptV C hi uhi) (hmx : OptV C mx umx)
    (ha : A.bound lo 0 = some a) (hb : A.bound hi len = some b) (hc : A.bound mx cap = some c) (hmh : mx = none ∨ hi ≠ none) (hab : a ≤ b) (hbc : b ≤ c) (hcc : c ≤ cap) (hcap : cap ≤ ccap) :
    (Instr.sliceBounds isSl len ccap ulo uhi umx).run P w = .ok (a, b, if umx = none then ccap else c) w := by
  have hl : (ulo = none ∧ a = 0) ∨ ∃ k i, ulo = some (.int k i) ∧ 0 ≤ i ∧ a = i.toNat := by
    cases lo with
    | none =>
      cases ulo with
      | none => simp [A.bound] at ha; exact .inl ⟨rfl, ha.symm⟩
      | some _ => exact hlo.elim
    | some v =>
      cases ulo with
      | none => exact hlo.elim
      | some u =>
        obtain ⟨k, i, rfl, h0, rfl⟩ := bound_some ha hlo
        exact .inr ⟨k, i, rfl, h0, rfl⟩
  clear ha hlo
  have hlow : ∀ code, a ≤ b → ((ulo = none ∧ a = 0) ∨ ∃ k i, ulo = some (.int k i) ∧ 0 ≤ i ∧ a = i.toNat ∧ (Instr.sliceBound (.int k i) b code).run P w = .ok i.toNat w) := fun code hab => by
    rcases hl with h | ⟨k, i, h1, h2, h3⟩
    · exact .inl h
    · exact .inr ⟨k, i, h1, h2, h3, sliceBound_run h2 (by omega)⟩
  cases mx with
  | none =>
    cases umx with
    | some _ => exact hmx.elim
    | none =>
      simp only [A.bound, Option.some.injEq] at hc
      subst hc
      have hlow := hlow .sliceB hab
      cases hi with
      | none =>
        cases uhi with
        | some _ => exact hhi.elim
        | none =>
          simp only [A.bound, Option.some.injEq] at hb
          subst hb
          rcases hlow with ⟨rfl, rfl⟩ | ⟨k0, i0, rfl, _, rfl, hr⟩
          · simp [Instr.sliceBounds]
          · simp [Instr.sliceBounds, hr]
      | some v =>
        cases uhi with
        | none => exact hhi.elim
        | some u =>
          obtain ⟨k, i, rfl, h0, rfl⟩ := bound_some hb hhi
          have := sliceBound_run (P := P) (w := w) (k := k) (code := if isSl = true then BoundsCode.sliceAcap else .sliceAlen) h0 (show i.toNat ≤ ccap by omega)
          rcases hlow with ⟨rfl, rfl⟩ | ⟨k0, i0, rfl, _, rfl, hr⟩
          · simp [Instr.sliceBounds, this]
          · simp [Instr.sliceBounds, this, hr]
  | some mv =>
    cases umx with
    | none => exact hmx.elim
    | some um =>
      obtain ⟨k2, j, rfl, g0, rfl⟩ := bound_some hc hmx
      have hm := sliceBound_run (P := P) (w := w) (k := k2) (code := if isSl = true then BoundsCode.slice3Acap else .slice3Alen) g0 (show j.toNat ≤ ccap by omega)
      have hlow := hlow .slice3C hab
      cases hi with
      | none => rcases hmh with h | h <;> simp at h
      | some v =>
        cases uhi with
        | none => exact hhi.elim
        | some u =>
          obtain ⟨k, i, rfl, h0, rfl⟩ := bound_some hb hhi
          have := sliceBound_run (P := P) (w := w) (k := k) (code := BoundsCode.slice3B) h0 hbc
          rcases hlow with ⟨rfl, rfl⟩ | ⟨k0, i0, rfl, _, rfl, hr⟩
          · simp [Instr.sliceBounds, this, hm]
          · simp [Instr.sliceBounds, this, hm, hr]

theorem sliceStr_ok {t : TypeId} {x v : AV} {lo hi : Option AV} {ulo uhi : Option Value} {u0 : Value} (ht : E.P.underlying t = some .string) (hlo : OptV C lo ulo) (hhi : OptV C hi uhi) (h : A.sliceStr x lo hi = some v) (hx : V C p x u0) :
    ∃ u, (Instr.sliceAt t u0 ulo uhi none).run E.P C.w = .ok u C.w ∧ V C true v u := by
  unfold A.sliceStr at h
  split at h
  · rename_i l
    obtain ⟨s, rfl, rfl⟩ := hx.str_inv
    simp only [Option.bind_eq_some_iff] at h
    obtain ⟨a, ha, b, hb, hc⟩ := h
    split at hc
    · rename_i hab
      simp only [Option.some.injEq] at hc
      subst hc
      have hl : s.data.toList.length = s.size := by rw [Array.length_toList]; rfl
      rw [hl] at hb hab
      have hbr := bounds_run (P := E.P) (w := C.w) (isSl := false) (C := C) (len := s.size) (cap := s.size) (ccap := s.size) (mx := none) (umx := none) (c := s.size) hlo hhi trivial ha hb rfl (.inl rfl) hab.1 hab.2 (Nat.le_refl _) (Nat.le_refl _)
      refine ⟨.string (s.extract a b), ?_, ?_⟩
      · simp only [Instr.sliceAt, Sem.run_bind, run_underlying ht, Result.andThen_ok, Instr.slice, hbr, Option.isSome_none, Bool.false_eq_true, if_false, Sem.run_pure]
      · have : (s.data.toList.drop a).take (b - a) = (s.extract a b).data.toList := by
          simp [ByteArray.data_extract, List.extract_eq_take_drop]
        rw [this]
        exact .str _ _
    · simp at hc
  · simp at h

theorem slice_ok {t e : TypeId} {sz : Nat} {x v : AV} {lo hi mx : Option AV} {ulo uhi umx : Option Value} {u0 : Value} (ht : E.P.underlying t = some (.slice e)) (hsz : E.size e = some sz) (hlo : OptV C lo ulo) (hhi : OptV C hi uhi) (hmx : OptV C mx umx) (hmh : mx = none ∨ hi ≠ none)
    (h : A.slice sz x lo hi mx C.H = some v) (hx : V C p x u0) : ∃ u, (Instr.sliceAt t u0 ulo uhi umx).run E.P C.w = .ok u C.w ∧ V C false v u := by
  have hrun : ∀ {b : Option Addr} {len cap l h m : Nat}, (Instr.sliceBounds true len cap ulo uhi umx).run E.P C.w = .ok (l, h, m) C.w → (Instr.sliceAt t (.slice b len cap) ulo uhi umx).run E.P C.w = .ok (.slice (if m = l then b else b.map (·.add (l * sz))) (h - l) (m - l)) C.w := by
    intro b len cap l h m hb
    simp only [Instr.sliceAt, Sem.run_bind, run_underlying ht, Result.andThen_ok, Instr.slice, hb, size_run hsz, Sem.run_pure]
  unfold A.slice at h
  split at h
  · cases hx
    simp only [Option.bind_eq_some_iff] at h
    obtain ⟨a, ha, b, hb, c, hc, h⟩ := h
    split at h
    · rename_i hz
      obtain ⟨rfl, rfl, rfl⟩ := hz
      simp only [Option.some.injEq] at h
      subst h
      have hbr := bounds_run (P := E.P) (w := C.w) (isSl := true) (C := C) (len := 0) (cap := 0) (ccap := 0) hlo hhi hmx ha hb hc hmh (Nat.le_refl _) (Nat.le_refl _) (Nat.le_refl _) (Nat.le_refl _)
      refine ⟨_, hrun hbr, ?_⟩
      have : (if umx = none then 0 else 0) = 0 := by split <;> rfl
      rw [this]
      exact .nils _
    · simp at h
  · rename_i z es
    simp only [Option.bind_eq_some_iff] at h
    obtain ⟨a, ha, b, hb, c, hc, h⟩ := h
    split at h
    · rename_i hz
      obtain ⟨hab, hbc, hcl, rfl⟩ := hz
      simp only [Option.some.injEq] at h
      subst h
      cases hx with
      | sh _ _ _ ad cc us g1 g2 g3 g4 g5 g6 =>
        have hbr := bounds_run (P := E.P) (w := C.w) (isSl := true) (C := C) (cap := es.length) hlo hhi hmx ha hb hc hmh hab hbc hcl g5
        refine ⟨_, hrun hbr, ?_⟩
        have hgd : ∀ e ∈ (es.drop a).take (b - a), Good z e := fun x hx => g2 x (List.mem_of_mem_drop (List.mem_of_mem_take hx))
        have hlen : ((es.drop a).take (b - a)).length = b - a := by rw [List.length_take, List.length_drop]; omega
        have hv : Vs C true (((es.drop a).take (b - a)).flatMap AV.cells) ((us.drop (a * z)).take ((b - a) * z)) := by
          have := (g1.drop (a * z)).take ((b - a) * z)
          rw [flat_drop g2, flat_take (fun x hx => g2 x (List.mem_of_mem_drop hx))] at this
          exact this
        have hwl : ((us.drop (a * z)).take ((b - a) * z)).length = (b - a) * z := by rw [hv.length, flat_length hgd, hlen]
        generalize hM : (if umx = none then cc else c) = M
        have hMb : b ≤ M := by rw [← hM]; split <;> omega
        have hMm : M ≤ maxLen := by rw [← hM]; split <;> omega
        have key : ∀ ad', (es.drop a).take (b - a) ≠ [] → ad' = ad.add (a * z) → C.κ ad'.block = .imm ∧ ad'.block < C.w.heap.size := by
          intro ad' hne e
          subst e
          have hab2 : (ad.add (a * z)).block = ad.block := by unfold Addr.add; split <;> rfl
          rw [hab2]
          refine g4 ?_
          rintro rfl
          simp at hne
        by_cases hm : M = a
        · rw [if_pos hm]
          have hb0 : b - a = 0 := by omega
          have hnil : (es.drop a).take (b - a) = [] := by rw [hb0]; rfl
          rw [hnil, hb0]
          have := V.sh (C := C) false z [] ad (M - a) [] (.nil _) (by simp) (by simp) (by simp) (by simp) (by omega)
          exact this
        · rw [if_neg hm]
          have := V.sh (C := C) false z ((es.drop a).take (b - a)) (ad.add (a * z)) (M - a) _ hv hgd (fun j u hu => by
            rw [List.getElem?_take] at hu
            split at hu
            · rw [List.getElem?_drop] at hu
              rw [add_add]
              exact g3 _ _ hu
            · simp at hu) (fun hne => key _ hne rfl) (by rw [hlen]; omega) (by omega)
          rw [hlen] at this
          exact this
    · simp at h
  · rename_i id ver off n cap
    simp only [Option.bind_eq_some_iff] at h
    obtain ⟨a, ha, b, hb, c, hc, h⟩ := h
    split at h
    · rename_i hz
      obtain ⟨hab, hbc, hcl, hal⟩ := hz
      simp only [Option.some.injEq] at h
      subst h
      obtain ⟨ty, es, hr⟩ := aliveZ_row hal
      cases hx with
      | sl _ _ _ _ _ _ g0 g1 =>
        obtain ⟨ad, cc, rfl, g2, g3, g4, g5, g6⟩ := (g1.2 ver sz ty es hr).2 rfl
        have hbr := bounds_run (P := E.P) (w := C.w) (isSl := true) (C := C) (cap := cap) hlo hhi hmx ha hb hc hmh hab hbc hcl g3
        refine ⟨_, hrun hbr, .sl _ _ _ _ _ _ rfl ⟨g1.1, fun v sz' ty' es' hr' => ?_⟩⟩
        rw [hr] at hr'
        injection hr' with hr'
        injection hr' with e1 e2 e3 e4
        subst e1 e2 e3 e4
        generalize hM : (if umx = none then cc else c) = M
        have hMc : c ≤ M := by rw [← hM]; split <;> omega
        have hMcc : M ≤ cc := by rw [← hM]; split <;> omega
        refine ⟨Nat.le_refl _, fun _ => ⟨(if M = a then ad else ad.add (a * sz)), M - a, ?_, by omega, by omega, by omega, fun h0 => ?_, fun cells t' fr hcl => ?_⟩⟩
        · split <;> rfl
        · rw [if_neg (by omega), g5 (by omega), Addr.add_lit]
          simp only [Addr.mk.injEq, true_and, and_true]
          rw [Nat.add_mul]
          omega
        · have := g6 cells t' fr hcl
          have h1 : (off + a + (M - a)) * sz ≤ (off + cc) * sz ∨ M < a := by
            rcases Nat.lt_or_ge M a with h | h
            · exact .inr h
            · exact .inl (Nat.mul_le_mul_right _ (by omega))
          rcases h1 with h1 | h1
          · omega
          · omega
    · simp at h
  · simp at h

end
end Go.Den
