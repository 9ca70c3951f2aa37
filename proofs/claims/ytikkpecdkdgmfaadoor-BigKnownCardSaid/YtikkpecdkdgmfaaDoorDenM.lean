/- DEN, part M: what goes on with a result changes nothing of how the result comes about. -/
import Derived.Test.YtikkpecdkdgmfaaDoorDenL
namespace Go.Den

/-! ### what does not change is frozen already -/
theorem leaf_frz {v : AV} (h : v.leaf = true) (n : Nat) (H : Heap) : A.freezeB true (n + 1) H v = some v ∧ reach (n + 1) H v = [] := by
  cases v <;> first | exact ⟨rfl, rfl⟩ | (simp [AV.leaf] at h)
theorem mapM_same {α : Type} {f : α → Option α} : ∀ {l : List α}, (∀ x ∈ l, f x = some x) → l.mapM f = some l
  | [], _ => rfl
  | x :: l, h => by
    rw [List.mapM_cons, h x List.mem_cons_self, mapM_same fun y hy => h y (List.mem_cons_of_mem _ hy)]
    rfl
theorem flatMap_nil {α β : Type} {f : α → List β} : ∀ {l : List α}, (∀ x ∈ l, f x = []) → l.flatMap f = []
  | [], _ => rfl
  | x :: l, h => by
    rw [List.flatMap_cons, h x List.mem_cons_self, flatMap_nil fun y hy => h y (List.mem_cons_of_mem _ hy)]
    rfl
theorem freeze_agg {b : Bool} {n : Nat} {H : Heap} {cs : List AV} : A.freezeB b (n + 1) H (.agg cs) = (cs.mapM (A.freezeB b n H)).map .agg := rfl
theorem freeze_tup {b : Bool} {n : Nat} {H : Heap} {cs : List AV} : A.freezeB b (n + 1) H (.tup cs) = (cs.mapM (A.freezeB b n H)).map .tup := rfl
theorem freeze_fn {q : Bool} {n : Nat} {H : Heap} {f : Fn} {a b : List AV} : A.freezeB q (n + 1) H (.fn f a b) = (a.mapM (A.freezeB q n H)).bind fun a' => (b.mapM (A.freezeB q n H)).map fun b' => .fn f a' b' := rfl
theorem imm1_frz {v : AV} (h : v.imm1 = true) (n : Nat) (H : Heap) : A.freezeB true (n + 2) H v = some v ∧ reach (n + 2) H v = [] := by
  cases v with
  | agg cs =>
    have h : ∀ c ∈ cs, c.leaf = true := fun c hc => List.all_eq_true.1 h c hc
    exact ⟨by rw [freeze_agg, mapM_same fun x hx => (leaf_frz (h x hx) n H).1]; rfl, flatMap_nil fun x hx => (leaf_frz (h x hx) n H).2⟩
  | tup cs =>
    have h : ∀ c ∈ cs, c.leaf = true := fun c hc => List.all_eq_true.1 h c hc
    exact ⟨by rw [freeze_tup, mapM_same fun x hx => (leaf_frz (h x hx) n H).1]; rfl, flatMap_nil fun x hx => (leaf_frz (h x hx) n H).2⟩
  | fn f a b =>
    simp only [AV.imm1, Bool.and_eq_true] at h
    have h1 : ∀ c ∈ a, c.leaf = true := fun c hc => List.all_eq_true.1 h.1 c hc
    have h2 : ∀ c ∈ b, c.leaf = true := fun c hc => List.all_eq_true.1 h.2 c hc
    refine ⟨by rw [freeze_fn, mapM_same fun x hx => (leaf_frz (h1 x hx) n H).1, mapM_same fun x hx => (leaf_frz (h2 x hx) n H).1]; rfl, ?_⟩
    show a.flatMap (reach (n + 1) H) ++ b.flatMap (reach (n + 1) H) = []
    rw [flatMap_nil fun x hx => (leaf_frz (h1 x hx) n H).2, flatMap_nil fun x hx => (leaf_frz (h2 x hx) n H).2]
    rfl
  | _ => refine leaf_frz ?_ (n + 1) H; exact h
theorem imm_frz {v : AV} (h : v.imm = true) (n : Nat) (H : Heap) : A.freezeB true (n + 3) H v = some v ∧ reach (n + 3) H v = [] := by
  cases v with
  | tup cs =>
    have h : ∀ c ∈ cs, c.imm1 = true := fun c hc => List.all_eq_true.1 h c hc
    exact ⟨by rw [freeze_tup, mapM_same fun x hx => (imm1_frz (h x hx) n H).1]; rfl, flatMap_nil fun x hx => (imm1_frz (h x hx) n H).2⟩
  | _ => refine imm1_frz ?_ (n + 1) H; exact h
theorem freezeAll_imm {H : Heap} : ∀ {args : List AV}, args.all AV.imm = true → freezeAll H args = some args ∧ args.flatMap (reach 64 H) = []
  | [], _ => ⟨rfl, rfl⟩
  | a :: args, h => by
    simp only [List.all_cons, Bool.and_eq_true] at h
    obtain ⟨g1, g2⟩ := imm_frz h.1 61 H
    obtain ⟨k1, k2⟩ := freezeAll_imm (H := H) h.2
    refine ⟨?_, ?_⟩
    · unfold freezeAll
      rw [g1, k1]
    · rw [List.flatMap_cons, g2, k2]
      rfl
theorem pureF_imm {F : List AV → Option AV} {args : List AV} {H : Heap} (h : args.all AV.imm = true) : pureF F args H = (F args).map (·, H) := by
  unfold pureF
  rw [(freezeAll_imm h).1]
  dsimp only
  cases F args with
  | none => rfl
  | some v =>
    dsimp only
    rw [(freezeAll_imm h).2]
    cases v.flat <;> rfl

/-- What goes on with a call's result is asked for nothing. -/
def CNat (cf : CallFn) : Prop :=
  ∀ (R : Type) (f : FuncId) (args : List AV) (H : Heap) (k : AV → Heap → Option R), cf R f args H k = (cf (AV × Heap) f args H fun v G => some (v, G)).bind fun p => k p.1 p.2

section
variable {E : Env} {cf : CallFn} {R S : Type}

theorem withV_to {x : Option AV} {k : AV → Option R} {g : AV → Option S} {f : S → Option R} (h : ∀ v, k v = (g v).bind f) : withV x k = (withV x g).bind f := by
  cases x
  · rfl
  · exact h _
theorem bif_to {c : Bool} {a b : Option R} {a' b' : Option S} {f : S → Option R} (h1 : a = a'.bind f) (h2 : b = b'.bind f) : (bif c then a else b) = (bif c then a' else b').bind f := by
  cases c
  · exact h2
  · exact h1

theorem callK_nat (hc : CNat cf) (f : FuncId) (args : List AV) (H : Heap) {k : AV → Heap → Option R} {g : AV → Heap → Option S} {h : S → Option R} (hk : ∀ v G, k v G = (g v G).bind h) :
    callK E cf f args H k = (callK E cf f args H g).bind h := by
  unfold callK
  split
  · rw [hc R, hc S, Option.bind_assoc]
    congr 1
    funext p
    exact hk _ _
  · split
    · exact hk _ _
    · rfl
  · split
    · exact hk _ _
    · rfl

theorem callQ_nat (f : FuncId) (args : List AV) (H : Heap) {k : AV → Heap → Option R} {g : AV → Heap → Option S} {h : S → Option R} (hk : ∀ v G, k v G = (g v G).bind h) :
    callQ E f args H k = (callQ E f args H g).bind h := by
  unfold callQ
  split
  · refine bif_to ?_ rfl
    split
    · exact hk _ _
    · rfl
  · rfl

/-- What a quiet call does, the call does. -/
theorem callQ_callK {f : FuncId} {args : List AV} {H : Heap} {p : AV × Heap} (h : callQ E f args H (fun v G => some (v, G)) = some p) : callK E cf f args H (fun v G => some (v, G)) = some p := by
  unfold callQ at h
  unfold callK
  split at h
  · rename_i F hF
    rw [hF]
    dsimp only
    cases hi : args.all AV.imm
    · rw [hi] at h; cases h
    · rw [hi] at h
      simp only [cond_true] at h
      rw [pureF_imm hi]
      cases hx : F args with
      | none => rw [hx] at h; cases h
      | some v => rw [hx] at h; exact h
  · cases h

theorem callV_nat (hc : CNat cf) (f : AV) (args : List AV) (H : Heap) {k : AV → Heap → Option R} {g : AV → Heap → Option S} {h : S → Option R} (hk : ∀ v G, k v G = (g v G).bind h) :
    callV E cf f args H k = (callV E cf f args H g).bind h := by
  unfold callV
  split
  · exact callK_nat hc _ _ _ hk
  · rfl

theorem builtinK_nat (b : Builtin) (ts : List TypeId) (args : List AV) (H : Heap) {k : AV → Heap → Option R} {g : AV → Heap → Option S} {h : S → Option R} (hk : ∀ v G, k v G = (g v G).bind h) :
    builtinK E b ts args H k = (builtinK E b ts args H g).bind h := by
  unfold builtinK
  repeat' (first | rfl | exact hk _ _ | exact withV_to fun v => hk _ _ | apply bif_to | split)

theorem convertK_nat (src dst : TypeId) (x : AV) (H : Heap) {k : AV → Heap → Option R} {g : AV → Heap → Option S} {h : S → Option R} (hk : ∀ v G, k v G = (g v G).bind h) :
    convertK E src dst x H k = (convertK E src dst x H g).bind h := by
  unfold convertK
  split
  · exact hk _ _
  · split
    · exact hk _ _
    · split
      · exact hk _ _
      · rfl

theorem layK_nat (s : Nat) (cs : List AV) (st : St) (H : Heap) {k : SV → St → Heap → Option R} {g : SV → St → Heap → Option S} {h : S → Option R} (hk : ∀ v s G, k v s G = (g v s G).bind h) :
    layK s cs st H k = (layK s cs st H g).bind h := by
  unfold layK
  repeat' (first | rfl | exact hk _ _ _ | split)

theorem opK_to (hc : CNat cf) (site : Option Nat) (o : Oper) (st : St) (H : Heap) {k : SV → St → Heap → Option R} {g : SV → St → Heap → Option S} {h : S → Option R} (hk : ∀ v s G, k v s G = (g v s G).bind h) :
    opK E cf site o st H k = (opK E cf site o st H g).bind h := by
  unfold opK
  generalize ho : o.op = op
  cases op <;> dsimp only
  all_goals repeat' (first | (exfalso; contradiction) | split | (with_reducible exact hk _ _ _) | (with_reducible exact (Option.bind_none _).symm) | (with_reducible apply bif_to) | (with_reducible exact withV_to fun v => hk _ _ _) | (with_reducible refine layK_nat _ _ _ _ hk) | (with_reducible refine convertK_nat _ _ _ _ ?_; intro v G; exact hk _ _ _))
  case h_1 => exact callV_nat hc _ _ _ fun v G => hk _ _ _
  case h_1 => exact callQ_nat _ _ _ fun v G => hk _ _ _
  case h_2 => exact builtinK_nat _ _ _ _ fun v G => hk _ _ _
  all_goals exact callK_nat hc _ _ _ fun v G => hk _ _ _

theorem opK_nat (hc : CNat cf) (site : Option Nat) (o : Oper) (st : St) (H : Heap) (k : SV → St → Heap → Option R) :
    opK E cf site o st H k = (opK E cf site o st H fun x s G => some (x, s, G)).bind fun p => k p.1 p.2.1 p.2.2 :=
  opK_to hc site o st H fun _ _ _ => rfl

theorem opsK_to (hc : CNat cf) (sites : List (Nat × Nat × Nat)) (rid : Nat) (ops : Array Oper) : ∀ (l : List Oper) (i : Nat) (st : St) (H : Heap) {k : St → Heap → Option R} {g : St → Heap → Option S} {h : S → Option R} (_ : ∀ s G, k s G = (g s G).bind h),
    opsK E cf sites rid ops l i st H k = (opsK E cf sites rid ops l i st H g).bind h := by
  intro l
  induction l with
  | nil => intro i st H k g h hk; exact hk _ _
  | cons o l ih =>
    intro i st H k g h hk
    unfold opsK
    split
    · exact opK_to hc _ _ _ _ fun x s G => ih _ _ _ hk
    · split
      · split
        · exact ih _ _ _ hk
        · rfl
      · rfl

theorem opsD_to (hc : CNat cf) (sites : List (Nat × Nat × Nat)) (d : DInfo) (rid : Nat) (ops : Array Oper) (H0 : Heap) : ∀ (l : List Oper) (i : Nat) (r : List Rec) (st : St) (H : Heap) {k : St → Heap → Option R} {g : St → Heap → Option S} {h : S → Option R} (_ : ∀ s G, k s G = (g s G).bind h),
    opsD E cf sites d rid ops H0 l i r st H k = (opsD E cf sites d rid ops H0 l i r st H g).bind h := by
  intro l
  induction l with
  | nil => intro i r st H k g h hk; exact bif_to (hk _ _) rfl
  | cons o l ih =>
    intro i r st H k g h hk
    unfold opsD
    split
    · exact opK_to hc _ _ _ _ fun x s G => ih _ _ _ _ hk
    · split
      · split
        · exact ih _ _ _ _ hk
        · rfl
      · rfl

theorem iter_to {σ : Type} {G : σ → Heap → (σ → Heap → Option R) → Option R} {G' : σ → Heap → (σ → Heap → Option S) → Option S} {h : S → Option R}
    (hg : ∀ st H r r', (∀ s G, r s G = (r' s G).bind h) → G st H r = (G' st H r').bind h) : ∀ (m : Nat) (st : σ) (H : Heap), iter G m st H = (iter G' m st H).bind h
  | 0, _, _ => rfl
  | m + 1, st, H => hg st H _ _ (iter_to hg m)

/-- A piece asks for nothing of what goes on. -/
def FNat (F : (S : Type) → (AExit → St → Heap → Option S) → Option S) : Prop :=
  ∀ {R S : Type} {k : AExit → St → Heap → Option R} {g : AExit → St → Heap → Option S} {h : S → Option R}, (∀ e s G, k e s G = (g e s G).bind h) → F R k = (F S g).bind h

theorem pickK_to {k : AExit → Option R} {g : AExit → Option S} {h : S → Option R} (hk : ∀ e, k e = (g e).bind h) (i : Nat) : ∀ (outs : List AExit) (j : Nat), pickK k i outs j = (pickK g i outs j).bind h
  | [], _ => rfl
  | x :: r, j => bif_to (hk x) (pickK_to hk i r (j + 1))

theorem bar_to {F : (S : Type) → (AExit → St → Heap → Option S) → Option S} (hF : FNat F) {an : Ann} {N : Nat} {k : AExit → St → Heap → Option R} {g : AExit → St → Heap → Option S} {h : S → Option R} (hk : ∀ e s G, k e s G = (g e s G).bind h) :
    bar an N F k = (bar an N F g).bind h := by
  unfold bar
  split
  · unfold bindX
    split
    · exact pickK_to (fun e => hk _ _ _) _ _ _
    · rfl
  · exact hF hk

theorem test_to {v : AV} {a b : Option R} {a' b' : Option S} {f : S → Option R} (h1 : a = a'.bind f) (h2 : b = b'.bind f) : A.test v a b = (A.test v a' b').bind f := by
  unfold A.test
  split
  · exact bif_to h1 h2
  · rfl

theorem loopK_to {kh : LK} {r : Live → Heap → Option R} {r' : Live → Heap → Option S} {h : S → Option R} (hr : ∀ s G, r s G = (r' s G).bind h) {k : AExit → St → Heap → Option R} {g : AExit → St → Heap → Option S} (hk : ∀ e s G, k e s G = (g e s G).bind h) (e : AExit) (s : St) (G : Heap) :
    loopK kh r k e s G = (loopK kh r' g e s G).bind h := by
  unfold loopK
  cases e with
  | normal =>
    dsimp only
    split
    · exact hr _ _
    · rfl
  | exit _ => exact hk _ _ _
  | ret => exact hk _ _ _

theorem loopS_to {r : St → Heap → Option R} {r' : St → Heap → Option S} {h : S → Option R} (hr : ∀ s G, r s G = (r' s G).bind h) {k : AExit → St → Heap → Option R} {g : AExit → St → Heap → Option S} (hk : ∀ e s G, k e s G = (g e s G).bind h) (e : AExit) (s : St) (G : Heap) :
    loopS r k e s G = (loopS r' g e s G).bind h := by
  cases e with
  | normal => exact hr _ _
  | exit _ => exact hk _ _ _
  | ret => exact hk _ _ _

theorem seqK_to {r : St → Heap → Option R} {r' : St → Heap → Option S} {h : S → Option R} (hr : ∀ s G, r s G = (r' s G).bind h) {k : AExit → St → Heap → Option R} {g : AExit → St → Heap → Option S} (hk : ∀ e s G, k e s G = (g e s G).bind h) (e : AExit) (s : St) (G : Heap) :
    seqK r k e s G = (seqK r' g e s G).bind h := by
  cases e with
  | normal => exact hr _ _
  | exit _ => exact hk _ _ _
  | ret => exact hk _ _ _

theorem blockK_to {id : Nat} {h : S → Option R} {k : AExit → St → Heap → Option R} {g : AExit → St → Heap → Option S} (hk : ∀ e s G, k e s G = (g e s G).bind h) (e : AExit) (s : St) (G : Heap) :
    blockK id k e s G = (blockK id g e s G).bind h := by
  cases e with
  | normal => exact hk _ _ _
  | exit _ => exact bif_to (hk _ _ _) (hk _ _ _)
  | ret => exact hk _ _ _

theorem exec_to (hc : CNat cf) (n : Nat) (fa : FAnn) : ∀ (c : Code) (an : Ann) (R S : Type) (st : St) (H : Heap) {k : AExit → St → Heap → Option R} {g : AExit → St → Heap → Option S} {h : S → Option R} (_ : ∀ e s G, k e s G = (g e s G).bind h),
    exec E cf n fa c an R st H k = (exec E cf n fa c an S st H g).bind h := by
  intro c
  induction c with
  | skip => intro an R S st H k g h hk; exact hk _ _ _
  | label _ => intro an R S st H k g h hk; exact hk _ _ _
  | exit _ => intro an R S st H k g h hk; exact hk _ _ _
  | ret => intro an R S st H k g h hk; exact hk _ _ _
  | region rid ops draw =>
    intro an R S st H k g h hk
    unfold exec
    refine bif_to ?_ ?_
    · split
      · exact opsD_to hc _ _ _ _ _ _ _ _ _ _ fun s G => hk _ _ _
      · rfl
    · exact opsK_to hc _ _ _ _ _ _ _ fun s G => hk _ _ _
  | seq a b iha ihb =>
    intro an R S st H k g h hk
    unfold exec
    refine bar_to (fun hk => ?_) hk
    exact iha _ _ _ _ _ fun e s G => seqK_to (fun s G => ihb _ _ _ _ _ hk) hk _ _ _
  | cond c x y ihx ihy =>
    intro an R S st H k g h hk
    unfold exec
    split
    · refine bar_to (fun hk => ?_) hk
      exact test_to (ihx _ _ _ _ _ hk) (ihy _ _ _ _ _ hk)
    · rfl
  | block id c ih =>
    intro an R S st H k g h hk
    unfold exec
    refine bar_to (fun hk => ?_) hk
    exact ih _ _ _ _ _ fun e s G => blockK_to hk _ _ _
  | loop c ih =>
    intro an R S st H k g h hk
    unfold exec
    split
    · split
      · refine bar_to (fun hk => ?_) hk
        refine iter_to ?_ _ _ _
        intro l H r r' hr
        exact ih _ _ _ _ _ fun e s G => loopK_to hr hk e s G
      · rfl
    · refine bar_to (fun hk => ?_) hk
      refine iter_to ?_ _ _ _
      intro l H r r' hr
      exact ih _ _ _ _ _ fun e s G => loopS_to hr hk e s G
  | scope c ih =>
    intro an R S st H k g h hk
    unfold exec
    refine bar_to (fun hk => ?_) hk
    exact ih _ _ _ _ _ hk
  | rangeFunc _ _ _ _ _ _ => intro an R S st H k g h hk; rfl
  | goto _ => intro an R S st H k g h hk; rfl
  | refuse _ => intro an R S st H k g h hk; rfl

theorem resultVars_to {st : St} {H : Heap} : ∀ (rs : List ResultVar) (acc : List AV) {k : List AV → Option R} {g : List AV → Option S} {h : S → Option R} (_ : ∀ vs, k vs = (g vs).bind h),
    resultVars E st H rs acc k = (resultVars E st H rs acc g).bind h
  | [], _, _, _, _, hk => hk _
  | r :: rs, acc, k, g, h, hk => by
    unfold resultVars
    split
    · exact resultVars_to rs _ hk
    · rfl

theorem callF_nat : ∀ n, CNat (callF E n)
  | 0 => fun _ _ _ _ _ => rfl
  | n + 1 => fun R f args H k => by
    unfold callF
    split
    · split
      · split
        · refine exec_to (callF_nat n) _ _ _ _ _ _ _ _ fun e s G => ?_
          cases e with
          | normal => exact resultVars_to _ _ fun vs => rfl
          | exit _ => rfl
          | ret => exact resultVars_to _ _ fun vs => rfl
        · rfl
      · rfl
    · rfl

end
end Go.Den
