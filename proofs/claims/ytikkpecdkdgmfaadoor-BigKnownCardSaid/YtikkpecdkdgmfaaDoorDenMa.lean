/- DEN, part Ma: more steps change no answer. -/
import Derived.Test.YtikkpecdkdgmfaaDoorDenSc
namespace Go.Den

def Le {R : Type} (x y : Option R) : Prop := ∀ r, x = some r → y = some r

theorem Le.refl {R : Type} (x : Option R) : Le x x := fun _ h => h
theorem Le.none {R : Type} {y : Option R} : Le Option.none y := fun _ h => by cases h

/-- The second calls answer where the first do. -/
def CLe (cf cg : CallFn) : Prop :=
  ∀ (R : Type) (f : FuncId) (args : List AV) (H : Heap) (k g : AV → Heap → Option R), (∀ v G, Le (k v G) (g v G)) → Le (cf R f args H k) (cg R f args H g)

section
variable {E : Env} {cf cg : CallFn} {R : Type}

theorem withV_le {x : Option AV} {k g : AV → Option R} (h : ∀ v, Le (k v) (g v)) : Le (withV x k) (withV x g) := by
  cases x
  · exact Le.none
  · exact h _
theorem bif_le {c : Bool} {a b a' b' : Option R} (h1 : Le a a') (h2 : Le b b') : Le (bif c then a else b) (bif c then a' else b') := by
  cases c
  · exact h2
  · exact h1

theorem callK_le (hc : CLe cf cg) (f : FuncId) (args : List AV) (H : Heap) {k g : AV → Heap → Option R} (hk : ∀ v G, Le (k v G) (g v G)) : Le (callK E cf f args H k) (callK E cg f args H g) := by
  unfold callK
  split
  · exact hc _ _ _ _ _ _ hk
  · split
    · exact hk _ _
    · exact Le.refl _
  · split
    · exact hk _ _
    · exact Le.refl _

theorem callQ_le (f : FuncId) (args : List AV) (H : Heap) {k g : AV → Heap → Option R} (hk : ∀ v G, Le (k v G) (g v G)) : Le (callQ E f args H k) (callQ E f args H g) := by
  unfold callQ
  split
  · refine bif_le ?_ Le.none
    split
    · exact hk _ _
    · exact Le.none
  · exact Le.none

theorem callV_le (hc : CLe cf cg) (f : AV) (args : List AV) (H : Heap) {k g : AV → Heap → Option R} (hk : ∀ v G, Le (k v G) (g v G)) : Le (callV E cf f args H k) (callV E cg f args H g) := by
  unfold callV
  split
  · exact callK_le hc _ _ _ hk
  · exact Le.none

theorem builtinK_le (b : Builtin) (ts : List TypeId) (args : List AV) (H : Heap) {k g : AV → Heap → Option R} (hk : ∀ v G, Le (k v G) (g v G)) : Le (builtinK E b ts args H k) (builtinK E b ts args H g) := by
  unfold builtinK
  repeat' (first | exact Le.none | exact hk _ _ | exact withV_le fun v => hk _ _ | apply bif_le | split)

theorem convertK_le (src dst : TypeId) (x : AV) (H : Heap) {k g : AV → Heap → Option R} (hk : ∀ v G, Le (k v G) (g v G)) : Le (convertK E src dst x H k) (convertK E src dst x H g) := by
  unfold convertK
  split
  · exact hk _ _
  · split
    · exact hk _ _
    · split
      · exact hk _ _
      · exact Le.none

theorem layK_le (s : Nat) (cs : List AV) (st : St) (H : Heap) {k g : SV → St → Heap → Option R} (hk : ∀ v s G, Le (k v s G) (g v s G)) : Le (layK s cs st H k) (layK s cs st H g) := by
  unfold layK
  repeat' (first | exact Le.none | exact hk _ _ _ | split)

theorem opK_le (hc : CLe cf cg) (site : Option Nat) (o : Oper) (st : St) (H : Heap) {k g : SV → St → Heap → Option R} (hk : ∀ v s G, Le (k v s G) (g v s G)) : Le (opK E cf site o st H k) (opK E cg site o st H g) := by
  unfold opK
  generalize ho : o.op = op
  cases op <;> dsimp only
  all_goals repeat' (first | (exfalso; contradiction) | split | (with_reducible exact hk _ _ _) | (with_reducible exact Le.none) | (with_reducible apply bif_le) | (with_reducible exact withV_le fun v => hk _ _ _) | (with_reducible refine layK_le _ _ _ _ hk) | (with_reducible refine convertK_le _ _ _ _ ?_; intro v G; exact hk _ _ _))
  case h_1 => exact callV_le hc _ _ _ fun v G => hk _ _ _
  case h_2 => exact builtinK_le _ _ _ _ fun v G => hk _ _ _
  all_goals first | exact callK_le hc _ _ _ fun v G => hk _ _ _ | exact callQ_le _ _ _ fun v G => hk _ _ _

theorem guardedK_le (hc : CLe cf cg) (o : Oper) (st : St) (H : Heap) : Le (guardedK E cf o st H) (guardedK E cg o st H) := by
  unfold guardedK
  exact bif_le (opK_le hc _ _ _ _ fun v s G => Le.refl _) Le.none

theorem guarded_le {b want : Bool} {H : Heap} {x y : Option (AV × Heap)} (h : Le x y) : Le (guarded b want H x) (guarded b want H y) := by
  unfold guarded
  exact bif_le h (Le.refl _)

theorem opsK_le (hc : CLe cf cg) (sites : List (Nat × Nat × Nat)) (rid : Nat) (ops : Array Oper) : ∀ (l : List Oper) (i : Nat) (st : St) (H : Heap) {k g : St → Heap → Option R} (_ : ∀ s G, Le (k s G) (g s G)),
    Le (opsK E cf sites rid ops l i st H k) (opsK E cg sites rid ops l i st H g) := by
  intro l
  induction l with
  | nil => intro i st H k g hk; exact hk _ _
  | cons o l ih =>
    intro i st H k g hk
    unfold opsK
    split
    · exact opK_le hc _ _ _ _ fun x s G => ih _ _ _ hk
    · split
      · rename_i j want hg b hb
        intro r h
        split at h
        · rename_i p hp
          rw [guarded_le (guardedK_le hc o st H) p hp]
          exact ih _ _ _ hk r h
        · cases h
      · exact Le.none

theorem opsD_le (hc : CLe cf cg) (sites : List (Nat × Nat × Nat)) (d : DInfo) (rid : Nat) (ops : Array Oper) (H0 : Heap) : ∀ (l : List Oper) (i : Nat) (tr : List Rec) (st : St) (H : Heap) {k g : St → Heap → Option R} (_ : ∀ s G, Le (k s G) (g s G)),
    Le (opsD E cf sites d rid ops H0 l i tr st H k) (opsD E cg sites d rid ops H0 l i tr st H g) := by
  intro l
  induction l with
  | nil => intro i tr st H k g hk; exact bif_le (hk _ _) Le.none
  | cons o l ih =>
    intro i tr st H k g hk
    unfold opsD
    split
    · exact opK_le hc _ _ _ _ fun x s G => ih _ _ _ _ hk
    · split
      · rename_i j want hg b hb
        intro r h
        split at h
        · rename_i p hp
          rw [guarded_le (guardedK_le hc o st H) p hp]
          exact ih _ _ _ _ hk r h
        · cases h
      · exact Le.none

theorem test_le {v : AV} {a b a' b' : Option R} (h1 : Le a a') (h2 : Le b b') : Le (A.test v a b) (A.test v a' b') := by
  unfold A.test
  split
  · exact bif_le h1 h2
  · exact Le.none

theorem iter_le {σ : Type} {G G' : σ → Heap → (σ → Heap → Option R) → Option R} (hg : ∀ st H r r', (∀ s H, Le (r s H) (r' s H)) → Le (G st H r) (G' st H r')) : ∀ (m m' : Nat), m ≤ m' → ∀ (st : σ) (H : Heap), Le (iter G m st H) (iter G' m' st H)
  | 0, _, _, _, _ => Le.none
  | m + 1, 0, h, _, _ => by omega
  | m + 1, m' + 1, h, st, H => hg st H _ _ (iter_le hg m m' (by omega))

def FLe (F F' : (S : Type) → (AExit → St → Heap → Option S) → Option S) : Prop :=
  ∀ {R : Type} {k g : AExit → St → Heap → Option R}, (∀ e s G, Le (k e s G) (g e s G)) → Le (F R k) (F' R g)

theorem pickK_le {k g : AExit → Option R} (hk : ∀ e, Le (k e) (g e)) (i : Nat) : ∀ (outs : List AExit) (j : Nat), Le (pickK k i outs j) (pickK g i outs j)
  | [], _ => Le.none
  | x :: r, j => bif_le (hk x) (pickK_le hk i r (j + 1))

theorem bar_le {F F' : (S : Type) → (AExit → St → Heap → Option S) → Option S} (hF : FLe F F') {an : Ann} {N : Nat} {k g : AExit → St → Heap → Option R} (hk : ∀ e s G, Le (k e s G) (g e s G)) : Le (bar an N F k) (bar an N F' g) := by
  unfold bar
  split
  · rename_i kp outs a
    have := hF (k := pairL kp outs) (g := pairL kp outs) fun e s G => Le.refl _
    intro r h
    unfold bindX at h
    split at h
    · rename_i i l H hx
      rw [this _ hx]
      exact pickK_le (fun e => hk _ _ _) _ _ _ r h
    · cases h
  · exact hF hk

theorem loopK_le {kh : LK} {r r' : Live → Heap → Option R} (hr : ∀ s G, Le (r s G) (r' s G)) {k g : AExit → St → Heap → Option R} (hk : ∀ e s G, Le (k e s G) (g e s G)) (e : AExit) (s : St) (G : Heap) : Le (loopK kh r k e s G) (loopK kh r' g e s G) := by
  unfold loopK
  cases e with
  | normal =>
    dsimp only
    split
    · exact hr _ _
    · exact Le.none
  | exit _ => exact hk _ _ _
  | ret => exact hk _ _ _
theorem loopS_le {r r' : St → Heap → Option R} (hr : ∀ s G, Le (r s G) (r' s G)) {k g : AExit → St → Heap → Option R} (hk : ∀ e s G, Le (k e s G) (g e s G)) (e : AExit) (s : St) (G : Heap) : Le (loopS r k e s G) (loopS r' g e s G) := by
  cases e with
  | normal => exact hr _ _
  | exit _ => exact hk _ _ _
  | ret => exact hk _ _ _
theorem seqK_le {r r' : St → Heap → Option R} (hr : ∀ s G, Le (r s G) (r' s G)) {k g : AExit → St → Heap → Option R} (hk : ∀ e s G, Le (k e s G) (g e s G)) (e : AExit) (s : St) (G : Heap) : Le (seqK r k e s G) (seqK r' g e s G) := by
  cases e with
  | normal => exact hr _ _
  | exit _ => exact hk _ _ _
  | ret => exact hk _ _ _
theorem blockK_le {id : Nat} {k g : AExit → St → Heap → Option R} (hk : ∀ e s G, Le (k e s G) (g e s G)) (e : AExit) (s : St) (G : Heap) : Le (blockK id k e s G) (blockK id g e s G) := by
  cases e with
  | normal => exact hk _ _ _
  | exit _ => exact bif_le (hk _ _ _) (hk _ _ _)
  | ret => exact hk _ _ _

theorem exec_le (hc : CLe cf cg) {n n' : Nat} (hn : n ≤ n') (fa : FAnn) : ∀ (c : Code) (an : Ann) (R : Type) (st : St) (H : Heap) {k g : AExit → St → Heap → Option R} (_ : ∀ e s G, Le (k e s G) (g e s G)),
    Le (exec E cf n fa c an R st H k) (exec E cg n' fa c an R st H g) := by
  intro c
  induction c with
  | skip => intro an R st H k g hk; exact hk _ _ _
  | label _ => intro an R st H k g hk; exact hk _ _ _
  | exit _ => intro an R st H k g hk; exact hk _ _ _
  | ret => intro an R st H k g hk; exact hk _ _ _
  | region rid ops draw =>
    intro an R st H k g hk
    unfold exec
    refine bif_le ?_ ?_
    · split
      · exact opsD_le hc _ _ _ _ _ _ _ _ _ _ fun s G => hk _ _ _
      · exact Le.none
    · exact opsK_le hc _ _ _ _ _ _ _ fun s G => hk _ _ _
  | seq a b iha ihb =>
    intro an R st H k g hk
    unfold exec
    refine bar_le (fun hk => ?_) hk
    exact iha _ _ _ _ fun e s G => seqK_le (fun s G => ihb _ _ _ _ hk) hk _ _ _
  | cond c x y ihx ihy =>
    intro an R st H k g hk
    unfold exec
    split
    · refine bar_le (fun hk => ?_) hk
      exact test_le (ihx _ _ _ _ hk) (ihy _ _ _ _ hk)
    · exact Le.none
  | block id c ih =>
    intro an R st H k g hk
    unfold exec
    refine bar_le (fun hk => ?_) hk
    exact ih _ _ _ _ fun e s G => blockK_le hk _ _ _
  | loop c ih =>
    intro an R st H k g hk
    unfold exec
    split
    · split
      · refine bar_le (fun hk => ?_) hk
        refine iter_le ?_ _ _ hn _ _
        intro l H r r' hr
        exact ih _ _ _ _ fun e s G => loopK_le hr hk e s G
      · exact Le.none
    · refine bar_le (fun hk => ?_) hk
      refine iter_le ?_ _ _ hn _ _
      intro l H r r' hr
      exact ih _ _ _ _ fun e s G => loopS_le hr hk e s G
  | scope c ih =>
    intro an R st H k g hk
    unfold exec
    refine bar_le (fun hk => ?_) hk
    exact ih _ _ _ _ hk
  | rangeFunc _ _ _ _ _ _ => intro an R st H k g hk; exact Le.none
  | goto _ => intro an R st H k g hk; exact Le.none
  | refuse _ => intro an R st H k g hk; exact Le.none

theorem resultVars_le {st : St} {H : Heap} : ∀ (rs : List ResultVar) (acc : List AV) {k g : List AV → Option R} (_ : ∀ vs, Le (k vs) (g vs)), Le (resultVars E st H rs acc k) (resultVars E st H rs acc g)
  | [], _, _, _, hk => hk _
  | r :: rs, acc, k, g, hk => by
    unfold resultVars
    split
    · exact resultVars_le rs _ hk
    · exact Le.none

theorem callF_le : ∀ {n n' : Nat}, n ≤ n' → CLe (callF E n) (callF E n')
  | 0, _, _ => fun _ _ _ _ _ _ _ => Le.none
  | n + 1, 0, h => by omega
  | n + 1, n' + 1, h => fun R f args H k g hk => by
    unfold callF
    split
    · split
      · split
        · refine exec_le (callF_le (by omega)) (by omega) _ _ _ _ _ _ fun e s G => ?_
          cases e with
          | normal => exact resultVars_le _ _ fun vs => hk _ _
          | exit _ => exact Le.none
          | ret => exact resultVars_le _ _ fun vs => hk _ _
        · exact Le.none
      · exact Le.none
    · exact Le.none

/-- What was reckoned once. -/
theorem Does.of_some {f : FuncId} {args : List AV} {H : Heap} {v : AV} {H' : Heap} {n : Nat} (h : callF E n (AV × Heap) f args H (fun v H => some (v, H)) = some (v, H')) : Does E f args H v H' := by
  refine ⟨n, fun m hm R k => ?_⟩
  rw [callF_nat (E := E) m R f args H k, callF_le hm _ _ _ _ _ _ (fun v G => Le.refl _) _ h]
  rfl

def saysTrue : Option (AV × Heap) → Bool
  | some (.bool true, _) => true
  | _ => false

theorem Does.of_true {f : FuncId} {args : List AV} {H : Heap} {n : Nat} (h : saysTrue (callF E n (AV × Heap) f args H (fun v H => some (v, H))) = true) : ∃ H', Does E f args H (.bool true) H' := by
  unfold saysTrue at h
  split at h
  · rename_i H' hx
    exact ⟨H', Does.of_some hx⟩
  · cases h

/-- The answer from outside. -/
theorem Does.answer {f : FuncId} {args : List AV} {v : AV} {H' : Heap} (h : Does E f args [] v H') : ∃ n, answer E n f args = some v := by
  obtain ⟨N, h⟩ := h
  exact ⟨N, h N (Nat.le_refl _) _ _⟩

end
end Go.Den
