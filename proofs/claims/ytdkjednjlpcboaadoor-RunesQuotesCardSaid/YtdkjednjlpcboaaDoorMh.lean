/- Texts put together: Q5, AwakeR, LwR, LwQ. -/
import Derived.Test.YtdkjednjlpcboaaDoorMg
import Derived.Test.YtdkjednjlpcboaaDoorRows

/- Names as they are written: what is said of them. -/
set_option maxRecDepth 100000
set_option maxHeartbeats 8000000
namespace Go.Proofs.YtdkjednjlpcboaaDoor
open Go Go.Den Go.Lib
def lowC (c : Nat) : Prop := c < 32 ∨ c = 127
def qr (c : Nat) : List Nat :=
  if c = 39 ∨ c = 92 then [92, c] else if c = 10 then [92, 110] else if c < 32 ∨ c = 127 then 92 :: 120 :: ((fmtr.hexS c).map UInt8.toNat ++ [59]) else [c]
theorem q2y {c : Nat} (h : c < 128) : enc c = [UInt8.ofNat c] := q4p h
theorem qis : (127 :: List.range 32).all (fun c : Nat => (fmtr.hexS c).all fun b => decide (48 ≤ b.toNat) && decide (b.toNat < 127) && decide (b.toNat ≠ 59)) = true := by decide
theorem qba {c : Nat} (h : c < 32 ∨ c = 127) : c ∈ (127 :: List.range 32) := by
  rcases h with h | h
  · exact List.mem_cons_of_mem _ (List.mem_range.2 h)
  · rw [h]; exact List.mem_cons_self
theorem qc3 {c : Nat} (h : c < 32 ∨ c = 127) : ∀ b ∈ fmtr.hexS c, 48 ≤ b.toNat ∧ b.toNat < 127 ∧ b.toNat ≠ 59 := fun b hb => by
  have := List.all_eq_true.1 (List.all_eq_true.1 qis c (qba h)) b hb
  simp only [Bool.and_eq_true, decide_eq_true_eq] at this
  exact ⟨this.1.1, this.1.2, this.2⟩
theorem qb2 : (127 :: List.range 32).all (fun c : Nat => (127 :: List.range 32).all fun d : Nat => decide (fmtr.hexS c = fmtr.hexS d → c = d)) = true := by decide
theorem qit {c d : Nat} (hc : c < 32 ∨ c = 127) (hd : d < 32 ∨ d = 127) (h : fmtr.hexS c = fmtr.hexS d) : c = d := by
  have := List.all_eq_true.1 (List.all_eq_true.1 qb2 c (qba hc)) d (qba hd)
  exact of_decide_eq_true this h
theorem q62 : ∀ l : List UInt8, (∀ b ∈ l, b.toNat < 128) → (l.map UInt8.toNat).flatMap enc = l
  | [], _ => rfl
  | b :: l, h => by
    rw [List.map_cons, List.flatMap_cons, q2y (h b List.mem_cons_self), q62 l fun x hx => h x (List.mem_cons_of_mem _ hx)]
    simp
theorem qi4 {c : Nat} : escR c = (qr c).flatMap enc := by
  unfold escR qr
  split
  · simp only [List.flatMap_cons, List.flatMap_nil, List.append_nil]
    rw [q2y (show 92 < 128 by omega)]
    rfl
  split
  · decide
  split
  · rename_i h
    have hx := qc3 h
    rw [List.flatMap_cons, List.flatMap_cons, List.flatMap_append, q62 _ (fun b hb => by have := hx b hb; omega)]
    simp only [List.flatMap_cons, List.flatMap_nil, List.append_nil]
    rw [q2y (show 92 < 128 by omega), q2y (show 120 < 128 by omega), q2y (show 59 < 128 by omega)]
    simp
  · simp
theorem qr_ok {c : Nat} (hs : scal c) : ∀ x ∈ qr c, scal x ∧ 32 ≤ x ∧ x ≠ 127 := fun x hx => by
  have sm : ∀ y, y < 128 → scal y := fun y hy => .inl (by omega)
  unfold qr at hx
  split at hx
  · rename_i h
    simp only [List.mem_cons, List.not_mem_nil, or_false] at hx
    rcases hx with rfl | rfl
    · exact ⟨sm _ (by omega), by omega, by omega⟩
    · exact ⟨hs, by omega, by omega⟩
  split at hx
  · simp only [List.mem_cons, List.not_mem_nil, or_false] at hx
    rcases hx with rfl | rfl <;> exact ⟨sm _ (by omega), by omega, by omega⟩
  split at hx
  · rename_i h
    simp only [List.mem_cons, List.mem_append, List.not_mem_nil, or_false, List.mem_map] at hx
    rcases hx with rfl | rfl | ⟨b, hb, rfl⟩ | rfl
    · exact ⟨sm _ (by omega), by omega, by omega⟩
    · exact ⟨sm _ (by omega), by omega, by omega⟩
    · have := qc3 h b hb
      exact ⟨sm _ (by omega), by omega, by omega⟩
    · exact ⟨sm _ (by omega), by omega, by omega⟩
  · rename_i h1 h2 h3
    simp only [List.mem_cons, List.not_mem_nil, or_false] at hx
    subst hx
    exact ⟨hs, by omega, by omega⟩
theorem qec : ∀ (p q : List UInt8) (X Y : List Nat), (∀ b ∈ p, b.toNat ≠ 59) → (∀ b ∈ q, b.toNat ≠ 59) → p.map UInt8.toNat ++ 59 :: X = q.map UInt8.toNat ++ 59 :: Y → p = q ∧ X = Y
  | [], [], X, Y, _, _, h => by
    simp at h
    exact ⟨rfl, h⟩
  | [], b :: q, X, Y, _, hq, h => by
    simp at h
    exact absurd h.1.symm (hq b List.mem_cons_self)
  | a :: p, [], X, Y, hp, _, h => by
    simp at h
    exact absurd h.1 (hp a List.mem_cons_self)
  | a :: p, b :: q, X, Y, hp, hq, h => by
    simp only [List.map_cons, List.cons_append, List.cons.injEq] at h
    obtain ⟨h1, h2⟩ := qec p q X Y (fun x hx => hp x (List.mem_cons_of_mem _ hx)) (fun x hx => hq x (List.mem_cons_of_mem _ hx)) h.2
    exact ⟨by rw [h1, UInt8.toNat_inj.1 h.1], h2⟩
theorem qr_cut {c d : Nat} {X Y : List Nat} (h : qr c ++ X = qr d ++ Y) : c = d ∧ X = Y := by
  unfold qr at h
  by_cases c1 : c = 39 ∨ c = 92
  · rw [if_pos c1] at h
    by_cases d1 : d = 39 ∨ d = 92
    · rw [if_pos d1] at h
      simp at h
      exact h
    rw [if_neg d1] at h
    by_cases d2 : d = 10
    · rw [if_pos d2] at h
      simp at h
      omega
    rw [if_neg d2] at h
    by_cases d3 : d < 32 ∨ d = 127
    · rw [if_pos d3] at h
      simp at h
      omega
    · rw [if_neg d3] at h
      simp at h
      omega
  rw [if_neg c1] at h
  by_cases c2 : c = 10
  · rw [if_pos c2] at h
    by_cases d1 : d = 39 ∨ d = 92
    · rw [if_pos d1] at h
      simp at h
      omega
    rw [if_neg d1] at h
    by_cases d2 : d = 10
    · rw [if_pos d2] at h
      simp at h
      exact ⟨by omega, h⟩
    rw [if_neg d2] at h
    by_cases d3 : d < 32 ∨ d = 127
    · rw [if_pos d3] at h
      simp at h
    · rw [if_neg d3] at h
      simp at h
      omega
  rw [if_neg c2] at h
  by_cases c3 : c < 32 ∨ c = 127
  · rw [if_pos c3] at h
    by_cases d1 : d = 39 ∨ d = 92
    · rw [if_pos d1] at h
      simp at h
      omega
    rw [if_neg d1] at h
    by_cases d2 : d = 10
    · rw [if_pos d2] at h
      simp at h
    rw [if_neg d2] at h
    by_cases d3 : d < 32 ∨ d = 127
    · rw [if_pos d3] at h
      simp only [List.cons_append, List.append_assoc, List.cons.injEq, true_and] at h
      obtain ⟨h1, h2⟩ := qec _ _ X Y (fun b hb => (qc3 c3 b hb).2.2) (fun b hb => (qc3 d3 b hb).2.2) h
      exact ⟨qit c3 d3 h1, h2⟩
    · rw [if_neg d3] at h
      simp at h
      omega
  · rw [if_neg c3] at h
    by_cases d1 : d = 39 ∨ d = 92
    · rw [if_pos d1] at h
      simp at h
      omega
    rw [if_neg d1] at h
    by_cases d2 : d = 10
    · rw [if_pos d2] at h
      simp at h
      omega
    rw [if_neg d2] at h
    by_cases d3 : d < 32 ∨ d = 127
    · rw [if_pos d3] at h
      simp at h
      omega
    · rw [if_neg d3] at h
      simp at h
      exact h
theorem qr_ne (c : Nat) : qr c ≠ [] := by
  unfold qr
  split
  · simp
  split
  · simp
  split <;> simp
theorem qf7 : ∀ L M : List Nat, L.flatMap qr = M.flatMap qr → L = M
  | [], [], _ => rfl
  | [], d :: M, h => by
    rw [List.flatMap_nil, List.flatMap_cons] at h
    have := congrArg List.length h
    have h2 := List.length_pos_iff.2 (qr_ne d)
    simp only [List.length_nil, List.length_append] at this
    omega
  | c :: L, [], h => by
    rw [List.flatMap_nil, List.flatMap_cons] at h
    have := congrArg List.length h
    have h2 := List.length_pos_iff.2 (qr_ne c)
    simp only [List.length_nil, List.length_append] at this
    omega
  | c :: L, d :: M, h => by
    rw [List.flatMap_cons, List.flatMap_cons] at h
    obtain ⟨h1, h2⟩ := qr_cut h
    rw [h1, qf7 L M h2]
/-! ### a plain name -/
theorem qf6 : ∀ (f : Bool) (l : List UInt8), plB f l = l.length → (∀ b ∈ l, goesZ (b.toNat : Int) = true) ∧ (f = true → ∀ b r, l = b :: r → firstZ (b.toNat : Int) = true)
  | _, [], _ => ⟨fun b hb => (by cases hb), fun _ b r h => (by cases h)⟩
  | f, b :: l, h => by
    unfold plB at h
    split at h
    · rename_i hb
      have h2 : plB false l = l.length := by
        simp only [List.length_cons] at h
        omega
      have hg : goesZ (b.toNat : Int) = true := by
        cases f
        · exact hb
        · exact q7m hb
      refine ⟨fun x hx => ?_, fun hf x r hx => ?_⟩
      · rcases List.mem_cons.1 hx with rfl | hx
        · exact hg
        · exact (qf6 false l h2).1 x hx
      · injection hx with hx _
        subst hx hf
        exact hb
    · simp at h
theorem qeb {z : Int} (h : goesZ z = true) : 32 ≤ z ∧ z < 127 := by
  unfold goesZ firstZ at h
  simp only [Bool.or_eq_true, Bool.and_eq_true, decide_eq_true_eq] at h
  omega
theorem q94 {a : List UInt8} (h : isPl a = true) : (∀ x ∈ rs a, 32 ≤ x ∧ x ≠ 127) ∧ ∀ r, a ≠ 39 :: r := by
  unfold isPl plN at h
  simp only [Bool.and_eq_true, decide_eq_true_eq] at h
  obtain ⟨h1, h2⟩ := qf6 true a h.1
  have hsm : ∀ b ∈ a, b.toNat < 128 := fun b hb => by have := qeb (h1 b hb); omega
  have hr : rs a = a.map UInt8.toNat := by
    have := (q2f (a.map UInt8.toNat) fun r hr => by
      obtain ⟨b, hb, rfl⟩ := List.mem_map.1 hr
      have := hsm b hb
      exact .inl (by omega)).1
    rw [q62 a hsm] at this
    exact this
  refine ⟨fun x hx => ?_, fun r hr2 => ?_⟩
  · rw [hr] at hx
    obtain ⟨b, hb, rfl⟩ := List.mem_map.1 hx
    have := qeb (h1 b hb)
    omega
  · have := h2 rfl 39 r hr2
    cases this
/-! ### a written name -/
theorem quo_rs {a : List UInt8} (hv : validD a = true) : validD (quoS a) = true ∧ ∀ x ∈ rs (quoS a), 32 ≤ x ∧ x ≠ 127 := by
  unfold quoS
  rw [if_pos hv]
  cases hp : isPl a
  · rw [if_neg (by simp)]
    obtain ⟨-, hs⟩ := q20 _ a (Nat.le_refl _) hv
    have e : [39] ++ (rs a).flatMap escR ++ [39] = (39 :: ((rs a).flatMap qr ++ [39])).flatMap enc := by
      have : (rs a).flatMap escR = ((rs a).flatMap qr).flatMap enc := by
        rw [List.flatMap_assoc]
        congr 1
        exact funext fun c => qi4
      rw [List.flatMap_cons, List.flatMap_append, ← this]
      simp only [List.flatMap_cons, List.flatMap_nil, List.append_nil]
      rw [q2y (show 39 < 128 by omega)]
      simp
    have hall : ∀ x ∈ (39 :: ((rs a).flatMap qr ++ [39])), scal x ∧ 32 ≤ x ∧ x ≠ 127 := fun x hx => by
      simp only [List.mem_cons, List.mem_append, List.mem_flatMap, List.not_mem_nil, or_false] at hx
      rcases hx with rfl | ⟨c, hc, hx⟩ | rfl
      · exact ⟨.inl (by omega), by omega, by omega⟩
      · exact qr_ok (hs c hc) x hx
      · exact ⟨.inl (by omega), by omega, by omega⟩
    obtain ⟨h1, h2⟩ := q2f _ fun r hr => (hall r hr).1
    rw [e]
    exact ⟨h2, fun x hx => by rw [h1] at hx; exact (hall x hx).2⟩
  · rw [if_pos rfl]
    exact ⟨hv, (q94 hp).1⟩
theorem esc_ge {c : Nat} : (enc c).length ≤ (escR c).length := by
  unfold escR
  split
  · simp
  split
  · rename_i h
    rw [h, q2y (by omega)]
    simp
  split
  · rename_i h
    rw [q2y (by omega)]
    simp
  · exact Nat.le_refl _
theorem qe7 : ∀ L : List Nat, (L.flatMap enc).length ≤ (L.flatMap escR).length
  | [] => by
    rw [List.flatMap_nil, List.flatMap_nil]
    exact Nat.zero_le _
  | c :: L => by
    rw [List.flatMap_cons, List.flatMap_cons, List.length_append, List.length_append]
    have := qe7 L
    have := esc_ge (c := c)
    omega
theorem qj2 {a : List UInt8} (hv : validD a = true) : (isPl a = true → quoS a = a) ∧ (isPl a = false → a.length + 2 ≤ (quoS a).length) := by
  unfold quoS
  rw [if_pos hv]
  refine ⟨fun h => by rw [if_pos h], fun h => ?_⟩
  rw [h, if_neg (by simp)]
  have h1 := (q20 _ a (Nat.le_refl _) hv).1
  have h2 := qe7 (rs a)
  rw [← h1] at h2
  simp only [List.length_append, List.length_cons, List.length_nil]
  omega
theorem qj1 {a b : List UInt8} (ha : validD a = true) (hb : validD b = true) : quoS a = quoS b ↔ a = b := by
  refine ⟨fun h => ?_, fun h => by rw [h]⟩
  unfold quoS at h
  rw [if_pos ha, if_pos hb] at h
  cases pa : isPl a
  · cases pb : isPl b
    · rw [pa, pb, if_neg (by simp), if_neg (by simp)] at h
      simp only [List.singleton_append] at h
      have h1 : (rs a).flatMap escR = (rs b).flatMap escR := by
        have := List.append_cancel_right h
        exact (List.cons.inj this).2
      have e : ∀ L : List Nat, L.flatMap escR = (L.flatMap qr).flatMap enc := fun L => by
        rw [List.flatMap_assoc]
        congr 1
        exact funext fun c => qi4
      rw [e, e] at h1
      obtain ⟨fa, sa⟩ := q20 _ a (Nat.le_refl _) ha
      obtain ⟨fb, sb⟩ := q20 _ b (Nat.le_refl _) hb
      have qs : ∀ L : List Nat, (∀ r ∈ L, scal r) → ∀ x ∈ L.flatMap qr, scal x := fun L hL x hx => by
        obtain ⟨c, hc, hx⟩ := List.mem_flatMap.1 hx
        exact (qr_ok (hL c hc) x hx).1
      have h2 := congrArg rs h1
      rw [(q2f _ (qs _ sa)).1, (q2f _ (qs _ sb)).1] at h2
      rw [fa, fb, qf7 _ _ h2]
    · rw [pa, pb, if_neg (by simp), if_pos rfl] at h
      exact absurd h.symm ((q94 pb).2 _)
  · cases pb : isPl b
    · rw [pa, pb, if_pos rfl, if_neg (by simp)] at h
      exact absurd h ((q94 pa).2 _)
    · rw [pa, pb, if_pos rfl, if_pos rfl] at h
      exact h
end Go.Proofs.YtdkjednjlpcboaaDoor

/- The seat's first question: by computation. -/
set_option maxRecDepth 100000
namespace Go.Proofs.YtdkjednjlpcboaaDoor.awaker
open Go Go.Den
def q3t : List FuncId := [9, 11, 12, 13, 17, 24, 25, 26, 27, 28, 29, 30, 31, 38, 44, 45, 46, 47, 48, 49, 60, 61, 62, 63, 64, 66, 67, 68, 69, 70, 72, 73]
noncomputable def env0 : Env := { P := Tryd.prog, pol := fun f => bif Nat.beq f 59 then .prim sameF else .plain, ann := fun _ => {}, glob := fun g => bif Nat.beq g 0 then flatD (H := Unit) Rows.laid_unicode_utf8_first else bif Nat.beq g 1 then flatD (H := Unit) Rows.laid_unicode_utf8_acceptRanges else bif Nat.beq g 2 then flatD (H := Unit) Rows.laid_internal_strconv_uint64pow10 else bif Nat.beq g 3 then flatD (H := Unit) Rows.laid_math_bits_deBruijn32tab else bif Nat.beq g 4 then flatD (H := Unit) Rows.laid_math_bits_deBruijn64tab else none }
def q36 : List (Nat × List (Nat × Nat × Nat)) := []
def q3z : List (Nat × List (Nat × Nat × Nat)) → Nat → List (Nat × Nat × Nat)
  | [], _ => []
  | (g, l) :: r, f => bif Nat.beq g f then l else q3z r f
def annsIn (f : Nat) : Ann :=  .nil
noncomputable def tab (f : FuncId) : FAnn :=
  match Tryd.prog.funcs[f]? with
  | some fn => { ann := annsIn f, depth := Nat.log2 fn.ntmps + 1, sites := q3z q36 f, draws := qer env0 (q3z q36 f) fn }
  | none => {}
noncomputable def env : Env := { env0 with ann := fun f => if f ∈ q3t then tab f else {} }
theorem qe3 : EnvOK env := envOK q3t (by kernel_rfl) (fun f hf => by show (if f ∈ q3t then tab f else {}).draws = []; rw [if_neg hf]) (by kernel_rfl)
theorem q95 : ∀ f, env.pol f = .plain ∨ ∃ F, env.pol f = .prim F ∧ PrimOK env f F := fun f => by
  cases h59 : Nat.beq f 59
  case true =>
    obtain rfl := Nat.eq_of_beq_eq_true h59
    exact .inr ⟨sameF, rfl, qac (fn := Tryd.f59) Tryd.func59 (by kernel_rfl) (by kernel_rfl) (by kernel_rfl) (by kernel_rfl)⟩
  case false =>
    refine .inl ?_
    show (bif Nat.beq f 59 then Pol.prim sameF else Pol.plain) = _
    simp only [h59, cond_false]
theorem calls_ok (n : Nat) : CallOK env (callF env n) := q5w qe3 (by kernel_rfl) q95 n
def q97 : Option AV → Bool
  | some (.bool true) => true
  | _ => false
theorem qfb {x : Option AV} (h : q97 x = true) : x = some (.bool true) := by
  unfold q97 at h
  split at h
  · rfl
  · cases h
theorem known : callF env 300 AV 9 [] [] (fun v G => A.freezeB true 64 G v) = some (.bool true) := qfb (by kernel_rfl)
end Go.Proofs.YtdkjednjlpcboaaDoor.awaker
namespace Go.Proofs.YtdkjednjlpcboaaDoor
open Go Go.Den
noncomputable def q6p : Pol := .still (Cd.f0 (.bool true))
theorem qg7 : PolOK base 9 q6p := q6s (E := base) (E' := awaker.env) rfl rfl awaker.calls_ok fun xs v h => by
  unfold Cd.f0 at h
  split at h
  · cases h
    exact ⟨300, awaker.known⟩
  · cases h
theorem q6g {R : Type} {H : Heap} {k : AV → Heap → Option R} : polK q6p [] H k = k (.bool true) H := by
  unfold q6p
  rw [q11 (by simp)]
  rfl
end Go.Proofs.YtdkjednjlpcboaaDoor

/- The law on which of two texts is less, and on texts turned round: what its function answers. -/
set_option maxRecDepth 100000
set_option maxHeartbeats 8000000
namespace Go.Proofs.YtdkjednjlpcboaaDoor
open Go Go.Den Go.Lib
theorem qgn : base.P.underlying 4 = some .bool := by kernel_rfl
noncomputable abbrev TLo : List (FuncId × Pol) := [(9, q6p), (14, pLess), (15, pRless), (12, q35), (16, pRev), (17, pCount)]
end Go.Proofs.YtdkjednjlpcboaaDoor

/- The law on names as they are written: what its function answers. -/
set_option maxRecDepth 100000
set_option maxHeartbeats 16000000
namespace Go.Proofs.YtdkjednjlpcboaaDoor
open Go Go.Den Go.Lib
noncomputable abbrev TLq : List (FuncId × Pol) := [(9, q6p), (10, q6q), (11, pQuo), (12, q35), (13, pPlain)]
theorem okTLq : TabOK base TLq := ⟨qg7, qg8, okQuo, qce, qey, trivial⟩
theorem qdd {l : List UInt8} {id : Nat} {A0 A1 A6 : AV} : ∀ (N pos : Nat) (H : Heap), l.length - pos ≤ N → pos ≤ l.length → (∀ x ∈ rs (l.drop pos), 32 ≤ x ∧ x ≠ 127) → H[id]? = some (.iter l pos) →
    ∃ H' : Heap, LDoes (L3_0 (polT TLq)) ⟨[A0, A1, .str l, A6, .it id], []⟩ H 0 ⟨[A0, A1, .undef, .str l, A6], []⟩ H' := by
  intro N
  induction N with
  | zero =>
    intro pos H hN hpl hx hH
    have hp : ¬ pos < l.length := by omega
    refine ⟨H, LDoes.step (Evs.of fun n m => ?_)⟩
    simp [↓q03, ↓q02, q5o, nextK, hH, hp]
  | succ N ih =>
    intro pos H hN hpl hx hH
    by_cases hp : pos < l.length
    · have hne := qdy hp
      have hdd := q8g l pos
      have hid : id < H.length := (List.getElem?_eq_some_iff.1 hH).1
      have hrs := q6w hne
      rw [List.drop_drop] at hrs
      rw [hrs] at hx
      have h1 := hx _ List.mem_cons_self
      have hw := decodeL_width (l.drop pos)
      have hwl := dec_le hne
      rw [List.length_drop] at hwl
      obtain ⟨H', hL⟩ := ih (pos + (decodeL (l.drop pos)).2) (H.set id (.iter l (pos + (decodeL (l.drop pos)).2))) (by omega) (by omega) (fun x hx2 => hx x (List.mem_cons_of_mem _ hx2)) (List.getElem?_set_self hid)
      clear hrs hx ih
      generalize decodeL (l.drop pos) = d at *
      have n1 : ¬ (d.1 : Int) < 32 := by omega
      have n2 : ¬ (d.1 : Int) = 127 := by omega
      refine ⟨H', LDoes.step (Evs.withL hL (Evs.of fun n m _ h2 => ?_))⟩
      simp [↓q03, ↓q02, ↓q01, ↓q00, q5o, nextK, hH, hp, hdd, A.asG, guardB, A.pick, n1, n2, h2]
    · refine ⟨H, LDoes.step (Evs.of fun n m => ?_)⟩
      simp [↓q03, ↓q02, q5o, nextK, hH, hp]
theorem qd0 (a b : List UInt8) : Evs fun n _ => callF (base.with (polT TLq)) (n + 1) AV 3 [.str a, .str b] [] (fun v _ => some v) = some (.bool true) := by
  cases ha : validD a
  · exact Evs.of fun n m => by simp [↓q03, ↓q05, ↓q02, ↓q01, ↓q00, S3, q6g, q6h, ha, A.asG, guardB, A.pick]
  cases hb : validD b
  · exact Evs.of fun n m => by simp [↓q03, ↓q05, ↓q02, ↓q01, ↓q00, S3, q6g, q6h, ha, hb, A.asG, guardB, A.pick]
  have la : A.lenStr (.str a) = some (.int .i64 (a.length : Int)) := rfl
  have lb : A.lenStr (.str b) = some (.int .i64 (b.length : Int)) := rfl
  by_cases ca : (1000 : Int) < (a.length : Int)
  · generalize (a.length : Int) = N at *
    exact Evs.of fun n m => by simp [↓q03, ↓q05, ↓q02, ↓q01, ↓q00, S3, q6g, q6h, ha, hb, la, ca, A.asG, guardB, A.pick]
  by_cases cb : (1000 : Int) < (b.length : Int)
  · generalize (a.length : Int) = N at *
    generalize (b.length : Int) = M at *
    exact Evs.of fun n m => by simp [↓q03, ↓q05, ↓q02, ↓q01, ↓q00, S3, q6g, q6h, ha, hb, la, lb, ca, cb, A.asG, guardB, A.pick]
  have na : q0y a := by unfold q0y; omega
  have nb : q0y b := by unfold q0y; omega
  obtain ⟨hvq, hxs⟩ := quo_rs ha
  obtain ⟨hl1, hl2⟩ := qj2 ha
  have k1 : ∀ (R : Type) (H : Heap) (k : AV → Heap → Option R), polK pQuo [.str a] H k = k (.str (quoS a)) H := fun R H k => kQuo na
  have k2 : ∀ (R : Type) (H : Heap) (k : AV → Heap → Option R), polK pQuo [.str b] H k = k (.str (quoS b)) H := fun R H k => kQuo nb
  have k3 : ∀ (R : Type) (H : Heap) (k : AV → Heap → Option R), polK q35 [.str (quoS a)] H k = k (.bool true) H := fun R H k => by rw [q8r, hvq]
  have k4 : ∀ (R : Type) (H : Heap) (k : AV → Heap → Option R), polK pPlain [.str a] H k = k (.bool (isPl a)) H := fun R H k => kPlain na
  have streq : ∀ (s t : List UInt8) (H : Heap), A.bin base.P .eql 9 (.str s) (.str t) false H = some (.bool (decide (s = t))) := fun s t H => by
    simp only [A.bin, A.binStr]
    congr 2
    by_cases h : s = t <;> simp [h]
  have e1 : ∀ H, A.bin base.P .eql 9 (.str (quoS a)) (.str (quoS b)) false H = some (.bool (decide (a = b))) := fun H => by
    rw [streq]
    congr 2
    simp only [decide_eq_decide]
    exact qj1 ha hb
  have e2 : ∀ H, A.bin base.P .eql 9 (.str a) (.str b) false H = some (.bool (decide (a = b))) := fun H => streq a b H
  have e3 : ∀ H, A.bin base.P .eql 9 (.str (quoS a)) (.str a) false H = some (.bool (isPl a)) := fun H => by
    rw [streq]
    congr 2
    cases hp : isPl a
    · have := hl2 hp
      simp only [decide_eq_false_iff_not]
      intro h
      rw [h] at this
      omega
    · rw [hl1 hp]
      simp
  have hb4 : base.P.underlying 4 = some .bool := qgn
  have e4 : ∀ (x : Bool) (H : Heap), A.bin base.P .eql 4 (.bool x) (.bool x) false H = some (.bool true) := fun x H => by cases x <;> simp [A.bin, hb4]
  have lq : A.lenStr (.str (quoS a)) = some (.int .i64 ((quoS a).length : Int)) := rfl
  have hge : (a.length : Int) ≤ ((quoS a).length : Int) := by
    cases hp : isPl a
    · have := hl2 hp
      omega
    · rw [hl1 hp]
      omega
  obtain ⟨H', hL⟩ := qdd (l := quoS a) (id := 0) (A0 := .str a) (A1 := .str b) (A6 := .str (quoS b)) (quoS a).length 0 [.iter (quoS a) 0] (by omega) (Nat.zero_le _) (by rw [List.drop_zero]; exact hxs) rfl
  clear hxs hl1 hl2 hvq streq
  generalize decide (a = b) = D at *
  generalize isPl a = P at *
  generalize quoS a = qa at *
  generalize quoS b = qb at *
  generalize (a.length : Int) = N at *
  generalize (b.length : Int) = M at *
  generalize (qa.length : Int) = K at *
  refine Evs.withL hL (Evs.of fun n m h1 _ => ?_)
  simp [↓q03, ↓q05, ↓q02, ↓q01, ↓q00, ↓q04, S3, q6g, q6h, ha, hb, la, lb, ca, cb, A.asG, guardB, A.pick, k1, k2, rangeK, h1, k3, k4, e1, e2, e3, e4, lq, hge]
end Go.Proofs.YtdkjednjlpcboaaDoor
