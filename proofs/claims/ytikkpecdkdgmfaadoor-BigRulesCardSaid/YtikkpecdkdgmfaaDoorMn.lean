/- Texts put together: Big11, Big12, Big13, Big14, Big15, Big16, Big17, Awake. -/
import Derived.Test.YtikkpecdkdgmfaaDoorMm
import Derived.Test.YtikkpecdkdgmfaaDoorRows

/- Numbers of any size: what a step of a long division takes away and gives back. -/
set_option maxRecDepth 100000
set_option maxHeartbeats 2000000
namespace Go.Proofs.YtikkpecdkdgmfaaDoor
open Go Go.Den

theorem and_low {P : Program} {t : TypeId} {c : Bool} {H : Heap} {x : Nat} (h : x < 18446744073709551616) : A.bin P .and t (.int .u64 (x : Int)) (.int .u64 4294967295) c H = some (.int .u64 ((x % 4294967296 : Nat) : Int)) := by
  have key : (BitVec.ofInt 64 (x : Int) &&& BitVec.ofInt 64 4294967295).toNat = x % 4294967296 := by
    rw [BitVec.toNat_and]
    have e : (BitVec.ofInt 64 4294967295).toNat = 2 ^ 32 - 1 := by decide
    rw [e, Nat.and_two_pow_sub_one_eq_mod]
    simp
  simp only [A.bin, decide_true, cond_true, A.binInt, A.bits, Option.map_some]
  rw [show IntKind.bits .u64 = 64 from rfl, key, wrap_u64 (by omega) (by omega)]

theorem drop_head {l : List UInt32} {i : Nat} (h : i < l.length) : (l.drop i).headD 0 = l[i] := by rw [List.drop_eq_getElem_cons h]; rfl
theorem drop_head0 {l : List UInt32} {i : Nat} (h : ¬ i < l.length) : (l.drop i).headD 0 = 0 := by rw [List.drop_eq_nil_of_le (by omega)]; rfl
theorem mid_get {pre rs post : List UInt32} {r : UInt32} {j : Nat} (h : pre.length = j) (hj : j < (pre ++ r :: rs ++ post).length) : (pre ++ r :: rs ++ post)[j] = r := by
  subst h
  simp
theorem mid_set {pre rs post : List UInt32} {r d : UInt32} {j : Nat} (h : pre.length = j) : (pre ++ r :: rs ++ post).set j d = (pre ++ [d]) ++ rs ++ post := by
  subst h
  simp

theorem take_loop {pol : FuncId → Pol} {d : Option (List UInt32)} {id N kk q n : Nat} {post : List UInt32} (hn : (d.getD []).length = n) (hN : N ≤ 2000000) (hq : q ≤ 4294967296) : ∀ (seg pre : List UInt32) (i c b : Nat) (H : Heap), pre.length = kk + i → i + seg.length = n + 1 → N = (pre ++ seg ++ post).length → c < 4294967296 → b ≤ 1 →
    H[id]? = some (.row 0 1 64 ((pre ++ seg ++ post).map eu)) →
    LDoes (L66_0 pol) ⟨[.sl id 0 0 N N, eD d, .int .i64 (kk : Nat), .int .u64 (q : Nat), .int .u64 (c : Nat), .int .u64 (b : Nat), .int .i64 ((n : Int) + 1), .int .i64 (i : Nat)], []⟩ H 0
      ⟨[.int .u64 ((takeS q seg ((d.getD []).drop i) c b).2 : Nat)], []⟩ (H.set id (.row 0 1 64 ((pre ++ (takeS q seg ((d.getD []).drop i) c b).1 ++ post).map eu))) := by
  intro seg
  induction seg with
  | nil =>
    intro pre i c b H hp hi hl hc hb hH
    have : i = n + 1 := by simpa using hi
    subst this
    rw [show (takeS q [] ((d.getD []).drop (n + 1)) c b) = ([], b) from rfl, set_same hH]
    refine LDoes.step (Evs.of fun n m => ?_)
    simp [↓test_bool, ↓withV_of, L66_0_step]
  | cons r rs ih =>
    intro pre i c b H hp hi hl hc hb hH
    simp only [List.length_cons] at hi
    have hlen : pre.length + (rs.length + 1) + post.length = N := by rw [hl]; simp; omega
    have hj : kk + i < (pre ++ r :: rs ++ post).length := by rw [← hl]; omega
    obtain ⟨r1, r2, r3⟩ := lrow (k := .i64) (n := N) (j := kk + i) (i := (kk : Int) + (i : Int)) hH hl hj (by omega)
    rw [mid_get hp hj] at r2
    have hr := limb_lt r
    have hxl := limb_lt (((d.getD []).drop i).headD 0)
    have ht := take_t hq hc hxl
    have htail : ((d.getD []).drop i).tail = (d.getD []).drop (i + 1) := by rw [List.tail_drop]
    have hm := Nat.mod_lt (c + q * (((d.getD []).drop i).headD 0).toNat) (show 0 < 4294967296 by omega)
    have hcar : (c + q * (((d.getD []).drop i).headD 0).toNat) / 4294967296 < 4294967296 := by omega
    have hcastT : (c : Int) + (q : Int) * ((((d.getD []).drop i).headD 0).toNat : Int) = ((c + q * (((d.getD []).drop i).headD 0).toNat : Nat) : Int) := by simp only [Int.natCast_add, Int.natCast_mul]
    have hand : ∀ (t : TypeId) (H : Heap), A.bin base.P .and t (.int .u64 ((c : Int) + (q : Int) * ((((d.getD []).drop i).headD 0).toNat : Int))) (.int .u64 4294967295) true H = some (.int .u64 (((c + q * (((d.getD []).drop i).headD 0).toNat) % 4294967296 : Nat) : Int)) := fun t H => by rw [hcastT]; exact and_low ht
    have hshr : ∀ (t : TypeId) (H : Heap), A.bin base.P .shr t (.int .u64 ((c : Int) + (q : Int) * ((((d.getD []).drop i).headD 0).toNat : Int))) (.int .u64 32) true H = some (.int .u64 (((c + q * (((d.getD []).drop i).headD 0).toNat) / 4294967296 : Nat) : Int)) := fun t H => by rw [hcastT]; exact shr_u64 (s := 32) (by omega)
    have hx1 : i < n → ∀ H, A.idx 1 (eD d) (.int .i64 (i : Int)) H = some (.rop [eu (((d.getD []).drop i).headD 0)]) := fun h H => by
      rw [drop_head (by omega)]
      exact idx_eD (by omega)
    have hx0 : ¬ i < n → ((d.getD []).drop i).headD 0 = 0 := fun h => drop_head0 (by omega)
    have hp0 : (0 : Int) ≤ (q : Int) * ((((d.getD []).drop i).headD 0).toNat : Int) := by rw [← Int.natCast_mul]; omega
    have hp1 : (c : Int) + (q : Int) * ((((d.getD []).drop i).headD 0).toNat : Int) < 18446744073709551616 := by rw [← Int.natCast_mul]; omega
    have hin1 : (i : Int) < (n : Int) + 1 := by omega
    unfold takeS
    rw [htail]
    have ih' := ih (pre := pre ++ [if r.toNat < (c + q * (((d.getD []).drop i).headD 0).toNat) % 4294967296 + b then UInt32.ofNat (r.toNat + 4294967296 - ((c + q * (((d.getD []).drop i).headD 0).toNat) % 4294967296 + b)) else UInt32.ofNat (r.toNat - ((c + q * (((d.getD []).drop i).headD 0).toNat) % 4294967296 + b))]) (i := i + 1)
      (c := (c + q * (((d.getD []).drop i).headD 0).toNat) / 4294967296) (b := if r.toNat < (c + q * (((d.getD []).drop i).headD 0).toNat) % 4294967296 + b then 1 else 0)
      (H.set id (.row 0 1 64 (((pre ++ [if r.toNat < (c + q * (((d.getD []).drop i).headD 0).toNat) % 4294967296 + b then UInt32.ofNat (r.toNat + 4294967296 - ((c + q * (((d.getD []).drop i).headD 0).toNat) % 4294967296 + b)) else UInt32.ofNat (r.toNat - ((c + q * (((d.getD []).drop i).headD 0).toNat) % 4294967296 + b))]) ++ rs ++ post).map eu)))
      (by simp; omega) (by omega) (by rw [← hlen]; simp; omega) hcar (by split <;> omega) (row_set hH)
    rw [List.set_set] at ih'
    have hcn : (d.getD []).length = n := hn
    generalize hX : ((d.getD []).drop i).headD 0 = X at *
    generalize hY : (c + q * X.toNat) % 4294967296 = y at *
    generalize hC : (c + q * X.toNat) / 4294967296 = c' at *
    by_cases hlt : r.toNat < y + b
    · rw [if_pos hlt] at ih' ⊢
      rw [if_pos hlt] at ih'
      have hlt' : (r.toNat : Int) < (y : Int) + (b : Int) := by omega
      have hst := r3 (UInt32.ofNat (r.toNat + 4294967296 - (y + b)))
      rw [mid_set hp] at hst
      have hw : IntKind.wrap .u32 ((r.toNat : Int) + 4294967296 - ((y : Int) + (b : Int))) = ((UInt32.ofNat (r.toNat + 4294967296 - (y + b))).toNat : Int) := by
        rw [show ((r.toNat : Int) + 4294967296 - ((y : Int) + (b : Int))) = ((r.toNat + 4294967296 - (y + b) : Nat) : Int) by omega]
        exact wrap_nat32 _
      generalize UInt32.ofNat (r.toNat + 4294967296 - (y + b)) = dg at *
      rw [List.append_assoc pre [dg]] at ih'
      generalize takeS q rs ((d.getD []).drop (i + 1)) c' 1 = res at *
      refine LDoes.step (Evs.withL ih' (Evs.of fun n' m _ h3 => ?_))
      have e1 : ((1 : Nat) : Int) = 1 := rfl
      simp only [Int.natCast_add, e1, List.map_append, List.map_cons, List.append_assoc, List.cons_append, List.nil_append] at h3 hst
      by_cases hin : i < n
      · have hx := hx1 hin
        clear ih ih' r3 hx1 hx0 hH
        simp (disch := omega) [↓test_bool, ↓bindV_eq, ↓withV_of, ↓withH_some, ↓bindX_some, L66_0_step, hin1, hcn, hin, hx, cv_32_64, cv_64_32, wrap_u64, wrap_i64, r1, r2, hand, hshr, hlt', hw, hst, h3]
      · have hX0 := hx0 hin
        subst hX0
        clear ih ih' r3 hx1 hx0 hH
        have ez : (((0 : UInt32).toNat : Nat) : Int) = 0 := rfl
        rw [ez, Int.mul_zero, Int.add_zero] at hand hshr
        simp (disch := omega) [↓test_bool, ↓bindV_eq, ↓withV_of, ↓withH_some, ↓bindX_some, L66_0_step, hin1, hcn, hin, cv_32_64, cv_64_32, wrap_u64, wrap_i64, r1, r2, hand, hshr, hlt', hw, hst, h3]
    · rw [if_neg hlt] at ih' ⊢
      rw [if_neg hlt] at ih'
      have hlt' : ¬ (r.toNat : Int) < (y : Int) + (b : Int) := by omega
      have hst := r3 (UInt32.ofNat (r.toNat - (y + b)))
      rw [mid_set hp] at hst
      have hw : IntKind.wrap .u32 ((r.toNat : Int) - ((y : Int) + (b : Int))) = ((UInt32.ofNat (r.toNat - (y + b))).toNat : Int) := by
        rw [show ((r.toNat : Int) - ((y : Int) + (b : Int))) = ((r.toNat - (y + b) : Nat) : Int) by omega]
        exact wrap_nat32 _
      generalize UInt32.ofNat (r.toNat - (y + b)) = dg at *
      rw [List.append_assoc pre [dg]] at ih'
      generalize takeS q rs ((d.getD []).drop (i + 1)) c' 0 = res at *
      refine LDoes.step (Evs.withL ih' (Evs.of fun n' m _ h3 => ?_))
      have e1 : ((0 : Nat) : Int) = 0 := rfl
      have e2 : ((1 : Nat) : Int) = 1 := rfl
      simp only [Int.natCast_add, e1, e2, List.map_append, List.map_cons, List.append_assoc, List.cons_append, List.nil_append] at h3 hst
      by_cases hin : i < n
      · have hx := hx1 hin
        clear ih ih' r3 hx1 hx0 hH
        simp (disch := omega) [↓test_bool, ↓bindV_eq, ↓withV_of, ↓withH_some, ↓bindX_some, L66_0_step, hin1, hcn, hin, hx, cv_32_64, cv_64_32, wrap_u64, wrap_i64, r1, r2, hand, hshr, hlt', hw, hst, h3]
      · have hX0 := hx0 hin
        subst hX0
        clear ih ih' r3 hx1 hx0 hH
        have ez : (((0 : UInt32).toNat : Nat) : Int) = 0 := rfl
        rw [ez, Int.mul_zero, Int.add_zero] at hand hshr
        simp (disch := omega) [↓test_bool, ↓bindV_eq, ↓withV_of, ↓withH_some, ↓bindX_some, L66_0_step, hin1, hcn, hin, cv_32_64, cv_64_32, wrap_u64, wrap_i64, r1, r2, hand, hshr, hlt', hw, hst, h3]

theorem give_loop {pol : FuncId → Pol} {d : Option (List UInt32)} {id N kk n : Nat} {post : List UInt32} (hn : (d.getD []).length = n) (hN : N ≤ 2000000) : ∀ (seg pre : List UInt32) (i c : Nat) (H : Heap), pre.length = kk + i → i + seg.length = n + 1 → N = (pre ++ seg ++ post).length → c < 4294967296 →
    H[id]? = some (.row 0 1 64 ((pre ++ seg ++ post).map eu)) →
    LDoes (L67_0 pol) ⟨[.sl id 0 0 N N, eD d, .int .i64 (kk : Nat), .int .u64 (c : Nat), .int .i64 ((n : Int) + 1), .int .i64 (i : Nat)], []⟩ H 0
      ⟨[], []⟩ (H.set id (.row 0 1 64 ((pre ++ giveS seg ((d.getD []).drop i) c ++ post).map eu))) := by
  intro seg
  induction seg with
  | nil =>
    intro pre i c H hp hi hl hc hH
    have : i = n + 1 := by simpa using hi
    subst this
    rw [show (giveS [] ((d.getD []).drop (n + 1)) c) = [] from rfl, set_same hH]
    refine LDoes.step (Evs.of fun n m => ?_)
    simp [↓test_bool, ↓withV_of, L67_0_step]
  | cons r rs ih =>
    intro pre i c H hp hi hl hc hH
    simp only [List.length_cons] at hi
    have hlen : pre.length + (rs.length + 1) + post.length = N := by rw [hl]; simp; omega
    have hj : kk + i < (pre ++ r :: rs ++ post).length := by rw [← hl]; omega
    obtain ⟨r1, r2, r3⟩ := lrow (k := .i64) (n := N) (j := kk + i) (i := (kk : Int) + (i : Int)) hH hl hj (by omega)
    rw [mid_get hp hj] at r2
    have hr := limb_lt r
    have hxl := limb_lt (((d.getD []).drop i).headD 0)
    have htail : ((d.getD []).drop i).tail = (d.getD []).drop (i + 1) := by rw [List.tail_drop]
    have hx1 : i < n → ∀ H, A.idx 1 (eD d) (.int .i64 (i : Int)) H = some (.rop [eu (((d.getD []).drop i).headD 0)]) := fun h H => by
      rw [drop_head (by omega)]
      exact idx_eD (by omega)
    have hx0 : ¬ i < n → ((d.getD []).drop i).headD 0 = 0 := fun h => drop_head0 (by omega)
    have hin1 : (i : Int) < (n : Int) + 1 := by omega
    unfold giveS
    rw [htail]
    have ih' := ih (pre := pre ++ [UInt32.ofNat (c + r.toNat + (((d.getD []).drop i).headD 0).toNat)]) (i := i + 1) (c := (c + r.toNat + (((d.getD []).drop i).headD 0).toNat) / 4294967296)
      (H.set id (.row 0 1 64 (((pre ++ [UInt32.ofNat (c + r.toNat + (((d.getD []).drop i).headD 0).toNat)]) ++ rs ++ post).map eu)))
      (by simp; omega) (by omega) (by rw [← hlen]; simp; omega) (by omega) (row_set hH)
    rw [List.set_set] at ih'
    have hcn : (d.getD []).length = n := hn
    generalize hX : ((d.getD []).drop i).headD 0 = X at *
    have hst := r3 (UInt32.ofNat (c + r.toNat + X.toNat))
    rw [mid_set hp] at hst
    have hcast : (c : Int) + (r.toNat : Int) + (X.toNat : Int) = ((c + r.toNat + X.toNat : Nat) : Int) := by simp only [Int.natCast_add]
    have hw : IntKind.wrap .u32 ((c : Int) + (r.toNat : Int) + (X.toNat : Int)) = ((UInt32.ofNat (c + r.toNat + X.toNat)).toNat : Int) := by rw [hcast]; exact wrap_nat32 _
    have hshr : ∀ (t : TypeId) (H : Heap), A.bin base.P .shr t (.int .u64 ((c : Int) + (r.toNat : Int) + (X.toNat : Int))) (.int .u64 32) true H = some (.int .u64 (((c + r.toNat + X.toNat) / 4294967296 : Nat) : Int)) := fun t H => by rw [hcast]; exact shr_u64 (s := 32) (by omega)
    generalize (c + r.toNat + X.toNat) / 4294967296 = c' at *
    generalize hdg : UInt32.ofNat (c + r.toNat + X.toNat) = dg at *
    rw [List.append_assoc pre [dg]] at ih'
    generalize giveS rs ((d.getD []).drop (i + 1)) c' = res at *
    refine LDoes.step (Evs.withL ih' (Evs.of fun n' m _ h3 => ?_))
    have e2 : ((1 : Nat) : Int) = 1 := rfl
    simp only [Int.natCast_add, e2, List.map_append, List.map_cons, List.append_assoc, List.cons_append, List.nil_append] at h3 hst
    by_cases hin : i < n
    · have hx := hx1 hin
      clear ih ih' r3 hx1 hx0 hH
      simp (disch := omega) [↓test_bool, ↓bindV_eq, ↓withV_of, ↓withH_some, ↓bindX_some, L67_0_step, hin1, hcn, hin, hx, cv_32_64, cv_64_32, wrap_u64, wrap_i64, r1, r2, hshr, hw, hst, h3]
    · have hX0 := hx0 hin
      subst hX0
      clear ih ih' r3 hx1 hx0 hH
      have ez : (((0 : UInt32).toNat : Nat) : Int) = 0 := rfl
      rw [ez, Int.add_zero] at hw hshr
      simp (disch := omega) [↓test_bool, ↓bindV_eq, ↓withV_of, ↓withH_some, ↓bindX_some, L67_0_step, hin1, hcn, hin, cv_32_64, cv_64_32, wrap_u64, wrap_i64, r1, r2, hshr, hw, hst, h3]

/-- Where the rest stands that is divided: its place, its limbs; what it is divided by; which digit; the digit guessed. -/
structure TakeIn where
  id : Nat
  u : List UInt32
  d : Option (List UInt32)
  k : Nat
  q : Nat
def segS (x : TakeIn) : List UInt32 := (x.u.drop x.k).take ((x.d.getD []).length + 1)
def putS (x : TakeIn) (r : List UInt32) : List UInt32 := x.u.take x.k ++ r ++ x.u.drop (x.k + (x.d.getD []).length + 1)
theorem seg_split (x : TakeIn) : x.u = x.u.take x.k ++ segS x ++ x.u.drop (x.k + (x.d.getD []).length + 1) := by
  unfold segS
  conv => lhs; rw [← List.take_append_drop x.k x.u, ← List.take_append_drop ((x.d.getD []).length + 1) (x.u.drop x.k), List.drop_drop, ← List.append_assoc]
  rw [Nat.add_assoc]
def atRow (x : TakeIn) (H : Heap) : Prop := H[x.id]? = some (.row 0 1 64 (x.u.map eu)) ∧ x.u.length ≤ 2000000 ∧ x.k + (x.d.getD []).length + 1 ≤ x.u.length
def encTake (x : TakeIn) : List AV := [.sl x.id 0 0 x.u.length x.u.length, eD x.d, .int .i64 (x.k : Nat), .int .u64 (x.q : Nat)]
def encGive (x : TakeIn) : List AV := [.sl x.id 0 0 x.u.length x.u.length, eD x.d, .int .i64 (x.k : Nat)]
def resTake (x : TakeIn) (H : Heap) : AV × Heap := (.bool (decide ((takeS x.q (segS x) (x.d.getD []) 0 0).2 = 1)), H.set x.id (.row 0 1 64 ((putS x (takeS x.q (segS x) (x.d.getD []) 0 0).1).map eu)))
def resGive (x : TakeIn) (H : Heap) : AV × Heap := (.tup [], H.set x.id (.row 0 1 64 ((putS x (giveS (segS x) (x.d.getD []) 0)).map eu)))
noncomputable def pTake : Pol := .prim (hp encTake (fun x H => atRow x H ∧ x.q ≤ 4294967296) resTake)
noncomputable def pGive : Pol := .prim (hp encGive atRow resGive)
theorem map_eu_inj {a b : List UInt32} (h : a.map eu = b.map eu) : a = b := map_inj (f := eu) (fun _ _ h => cU32.inj _ _ h) h
theorem row_uniq {H : Heap} {i j : Nat} {a b : List UInt32} (e : i = j) (h1 : H[i]? = some (.row 0 1 64 (a.map eu))) (h2 : H[j]? = some (.row 0 1 64 (b.map eu))) : a = b := by
  subst e
  rw [h1] at h2
  simp only [Option.some.injEq, HObj.row.injEq, true_and] at h2
  exact map_eu_inj h2
theorem eD_inj {a b : Option (List UInt32)} (h : eD a = eD b) : a = b := cD.inj _ _ h
theorem kTake {R : Type} {x : TakeIn} {H : Heap} (h : atRow x H) (hq : x.q ≤ 4294967296) {k : AV → Heap → Option R} : polK pTake [.sl x.id 0 0 x.u.length x.u.length, eD x.d, .int .i64 (x.k : Nat), .int .u64 (x.q : Nat)] H k = k (resTake x H).1 (resTake x H).2 :=
  polK_hp (enc := encTake) (fun x y H e hx hy => by
    obtain ⟨xi, xu, xd, xk, xq⟩ := x
    obtain ⟨yi, yu, yd, yk, yq⟩ := y
    simp only [encTake, List.cons.injEq, AV.sl.injEq, AV.int.injEq, true_and, and_true] at e
    obtain ⟨⟨e1, _⟩, e2, e3, e4⟩ := e
    have e5 : xu = yu := row_uniq e1 hx.1.1 hy.1.1
    have e6 := eD_inj e2
    have e7 : xk = yk := by omega
    have e8 : xq = yq := by omega
    subst e1 e5 e6 e7 e8
    rfl) ⟨h, hq⟩
theorem kGive {R : Type} {x : TakeIn} {H : Heap} (h : atRow x H) {k : AV → Heap → Option R} : polK pGive [.sl x.id 0 0 x.u.length x.u.length, eD x.d, .int .i64 (x.k : Nat)] H k = k (resGive x H).1 (resGive x H).2 :=
  polK_hp (enc := encGive) (fun x y H e hx hy => by
    obtain ⟨xi, xu, xd, xk, xq⟩ := x
    obtain ⟨yi, yu, yd, yk, yq⟩ := y
    simp only [encGive, List.cons.injEq, AV.sl.injEq, AV.int.injEq, true_and, and_true] at e
    obtain ⟨⟨e1, _⟩, e2, e3⟩ := e
    have e5 : xu = yu := row_uniq e1 hx.1 hy.1
    have e6 := eD_inj e2
    have e7 : xk = yk := by omega
    subst e1 e5 e6 e7
    rfl) h
theorem okTake : PolOK base 66 pTake := heap_hp base_ok [] trivial fun x H ⟨⟨hH, hN, hk⟩, hq⟩ => by
  have hs := seg_split x
  have hlp : (x.u.take x.k).length = x.k + 0 := by rw [List.length_take]; omega
  have hls : 0 + (segS x).length = (x.d.getD []).length + 1 := by unfold segS; rw [List.length_take, List.length_drop]; omega
  have hL := take_loop (pol := polT []) (d := x.d) (id := x.id) (kk := x.k) (q := x.q) (post := x.u.drop (x.k + (x.d.getD []).length + 1)) rfl hN hq (segS x) (x.u.take x.k) 0 0 0 H hlp hls (by rw [← hs]) (by omega) (by omega) (by rw [← hs]; exact hH)
  rw [List.drop_zero] at hL
  refine Evs.withL hL (Evs.of fun n m h1 h2 => ?_)
  have e0 : ((0 : Nat) : Int) = 0 := rfl
  simp only [e0] at h1
  have hlen := hk
  have hd : (x.d.getD []).length ≤ 2000000 := by omega
  unfold encTake resTake putS
  generalize takeS x.q (segS x) (x.d.getD []) 0 0 = res at *
  simp (disch := omega) [↓bindV_eq, ↓withV_of, ↓bindX_some, S66, wrap_i64, h1]
  omega
theorem okGive : PolOK base 67 pGive := heap_hp base_ok [] trivial fun x H ⟨hH, hN, hk⟩ => by
  have hs := seg_split x
  have hlp : (x.u.take x.k).length = x.k + 0 := by rw [List.length_take]; omega
  have hls : 0 + (segS x).length = (x.d.getD []).length + 1 := by unfold segS; rw [List.length_take, List.length_drop]; omega
  have hL := give_loop (pol := polT []) (d := x.d) (id := x.id) (kk := x.k) (post := x.u.drop (x.k + (x.d.getD []).length + 1)) rfl hN (segS x) (x.u.take x.k) 0 0 H hlp hls (by rw [← hs]) (by omega) (by rw [← hs]; exact hH)
  rw [List.drop_zero] at hL
  refine Evs.withL hL (Evs.of fun n m h1 h2 => ?_)
  have e0 : ((0 : Nat) : Int) = 0 := rfl
  simp only [e0] at h1
  have hd : (x.d.getD []).length ≤ 2000000 := by omega
  unfold encGive resGive putS
  generalize giveS (segS x) (x.d.getD []) 0 = res at *
  simp (disch := omega) [↓withV_of, ↓bindX_some, S67, wrap_i64, h1]
end Go.Proofs.YtikkpecdkdgmfaaDoor

/- Numbers of any size: shifts as entries; a digit of a quotient is guessed. -/
set_option maxRecDepth 100000
set_option maxHeartbeats 2000000
namespace Go.Proofs.YtikkpecdkdgmfaaDoor
open Go Go.Den

/-! ### so many bits more, as an entry -/
def encShift (x : Option (List UInt32) × Nat) : List AV := [eD x.1, .int .i64 (x.2 : Nat)]
def resShift (x : Option (List UInt32) × Nat) (H : Heap) : AV × Heap := (.sl H.length 0 0 ((x.1.getD []).length + 1) ((x.1.getD []).length + 1), H ++ [.row 0 1 64 ((shiftedL (x.1.getD []) x.2).map eu)])
noncomputable def pShifted : Pol := .prim (hp encShift (fun x _ => few x.1 ∧ x.2 ≤ 31) resShift)
theorem kShifted {R : Type} {d : Option (List UInt32)} {s : Nat} {H : Heap} (hd : few d) (hs : s ≤ 31) {k : AV → Heap → Option R} : polK pShifted [eD d, .int .i64 (s : Nat)] H k = k (.sl H.length 0 0 ((d.getD []).length + 1) ((d.getD []).length + 1)) (H ++ [.row 0 1 64 ((shiftedL (d.getD []) s).map eu)]) :=
  polK_hp (enc := encShift) (x := (d, s)) (fun x y H e hx hy => by
    obtain ⟨xd, xs⟩ := x
    obtain ⟨yd, ys⟩ := y
    simp only [encShift, List.cons.injEq, AV.int.injEq, true_and, and_true] at e
    have e1 := eD_inj e.1
    have e2 : xs = ys := by omega
    subst e1 e2
    rfl) ⟨hd, hs⟩
theorem okShifted : PolOK base 64 pShifted := heap_hp base_ok [] trivial fun x H ⟨hd, hs⟩ => by
  obtain ⟨d, s⟩ := x
  unfold few at hd
  dsimp only at hd hs
  have hmk := row_make (H := H) (sz := 1) (ty := 64) (bytes := 4) (z := .int .u32 0) (l := (((d.getD []).length + 1 : Nat) : Int)) (by omega) (by omega) (by omega)
  simp only [Int.toNat_natCast] at hmk
  have hz : List.replicate ((d.getD []).length + 1) (AV.int .u32 0) = (List.replicate ((d.getD []).length + 1) (0 : UInt32)).map eu := by simp
  rw [hz] at hmk
  obtain ⟨H', hL, hr, hlen, hoth⟩ := shifted_loop (pol := polT []) (a := d) (s := s) (id := H.length) hs hd (d.getD []).length 0 (List.replicate ((d.getD []).length + 1) 0) (H ++ [.row 0 1 64 ((List.replicate ((d.getD []).length + 1) (0 : UInt32)).map eu)]) (by omega) (by simp) (by simp [val, val_zeros]) row_push
  have hH' : H' = H ++ [.row 0 1 64 ((shiftedL (d.getD []) s).map eu)] := by
    apply List.ext_getElem?
    intro j
    by_cases hj : j = H.length
    · subst hj; rw [hr, row_push]
    · rw [hoth j hj]
      rcases Nat.lt_or_ge j H.length with h | h
      · rw [List.getElem?_append_left h, List.getElem?_append_left h]
      · rw [List.getElem?_eq_none (by simp; omega), List.getElem?_eq_none (by simp; omega)]
  subst hH'
  refine Evs.withL hL (Evs.of fun n m h3 _ => ?_)
  unfold encShift resShift
  have e0 : ((0 : Nat) : Int) = 0 := rfl
  simp only [e0, Int.natCast_add, Int.natCast_one] at h3 hmk
  generalize shiftedL (d.getD []) s = out at *
  generalize hrep : (List.replicate ((d.getD []).length + 1) (0 : UInt32)).map eu = rep at *
  simp (disch := omega) [↓bindV_eq, ↓withV_of, ↓withVH_some, ↓bindX_some, S64, wrap_i64, hmk, h3]

/-! ### so many bits less -/
theorem back_digit {l : List UInt32} {i s : Nat} (hs : s ≤ 31) (h : i < l.length) : UInt32.ofNat ((at_ l i + 2 ^ 32 * at_ l (i + 1)) / 2 ^ s) = UInt32.ofNat (val l / 2 ^ s / 4294967296 ^ i) := by
  have h1 : val l / 4294967296 ^ i = val (l.drop i) := by
    rw [val_drop (l := l) (n := i) (by omega), Nat.add_mul_div_left _ _ (Nat.pow_pos (by omega)), Nat.div_eq_of_lt (val_take_lt _ _), Nat.zero_add]
  have h2 : val (l.drop i) = (at_ l i + 2 ^ 32 * at_ l (i + 1)) + 4294967296 * 4294967296 * val (l.drop (i + 2)) := by
    rw [List.drop_eq_getElem_cons h, val]
    rcases Nat.lt_or_ge (i + 1) l.length with h3 | h3
    · rw [List.drop_eq_getElem_cons h3, val, at_, dif_pos h, at_, dif_pos h3, show i + 1 + 1 = i + 2 from rfl]
      omega
    · rw [List.drop_eq_nil_of_le h3, List.drop_eq_nil_of_le (by omega), val, at_, dif_pos h, at_, dif_neg (by omega)]
  have h3 := pow_split hs
  have h4 : val l / 2 ^ s / 4294967296 ^ i = val l / 4294967296 ^ i / 2 ^ s := by rw [Nat.div_div_eq_div_mul, Nat.div_div_eq_div_mul, Nat.mul_comm]
  rw [h4, h1, h2]
  generalize at_ l i + 2 ^ 32 * at_ l (i + 1) = y
  have e : 4294967296 * 4294967296 * val (l.drop (i + 2)) = 2 ^ s * (4294967296 * (2 ^ (32 - s) * val (l.drop (i + 2)))) := by
    generalize val (l.drop (i + 2)) = w
    generalize 2 ^ s = p at *
    generalize 2 ^ (32 - s) = p' at *
    rw [← h3]
    simp only [Nat.mul_left_comm, Nat.mul_comm]
  rw [e, Nat.add_mul_div_left _ _ (Nat.pow_pos (by omega))]
  generalize 2 ^ (32 - s) * val (l.drop (i + 2)) = w
  generalize y / 2 ^ s = z
  refine (limb_eq ?_).symm
  rw [limb_of]
  omega
def backS (a : Option (List UInt32)) (s : Int) : Option (List UInt32) := some (digs (a.getD []).length (val (a.getD []) / 2 ^ s.toNat))
theorem back_loop {pol : FuncId → Pol} {a : Option (List UInt32)} {s id : Nat} (hs : s ≤ 31) (hf : (a.getD []).length ≤ 2000000) : ∀ (k i : Nat) (o : List UInt32) (H : Heap), k + i = (a.getD []).length → o.length = (a.getD []).length → o.take i = digs i (val (a.getD []) / 2 ^ s) →
    H[id]? = some (.row 0 1 64 (o.map eu)) →
    ∃ H', LDoes (L68_0 pol) ⟨[eD a, .int .i64 (s : Nat), .sl id 0 0 (a.getD []).length (a.getD []).length, eD a, .int .i64 ((a.getD []).length : Nat), .int .i64 (i : Nat)], []⟩ H 0 ⟨[.sl id 0 0 (a.getD []).length (a.getD []).length], []⟩ H' ∧
      H'[id]? = some (.row 0 1 64 ((digs (a.getD []).length (val (a.getD []) / 2 ^ s)).map eu)) := by
  intro k
  induction k with
  | zero =>
    intro i o H hk ho hv hH
    have : i = (a.getD []).length := by omega
    subst this
    rw [List.take_of_length_le (by omega)] at hv
    rw [hv] at hH
    refine ⟨H, LDoes.step (Evs.of fun n m => ?_), hH⟩
    simp [↓test_bool, ↓withV_of, L68_0_step]
  | succ k ih =>
    intro i o H hk ho hv hH
    have hlt : i < (a.getD []).length := by omega
    have hx := at_idx (d := a) hlt H
    have hio : i < o.length := by omega
    have h0 := at_lt (a.getD []) i
    have h1 := at_lt (a.getD []) (i + 1)
    obtain ⟨r1, r2, r3⟩ := lrow (k := .i64) (n := (a.getD []).length) (j := i) (i := (i : Int)) hH ho.symm hio rfl
    have hd := back_digit hs hlt
    have hnew : (o.set i (UInt32.ofNat ((at_ (a.getD []) i + 2 ^ 32 * at_ (a.getD []) (i + 1)) / 2 ^ s))).take (i + 1) = digs (i + 1) (val (a.getD []) / 2 ^ s) := by
      rw [hd, digs_append, ← hv, List.take_succ_eq_append_getElem (by rw [List.length_set]; exact hio), List.take_set_of_le (Nat.le_refl i), List.getElem_set_self]
    obtain ⟨H', hL, hr⟩ := ih (i + 1) _ _ (by omega) (by rw [List.length_set, ho]) hnew (row_set hH)
    refine ⟨H', LDoes.step (Evs.withL hL (Evs.of fun n m _ h3 => ?_)), hr⟩
    have hshr : ∀ (t : TypeId) (H : Heap), A.bin base.P .shr t (.int .u64 ((at_ (a.getD []) i + 2 ^ 32 * at_ (a.getD []) (i + 1) : Nat) : Int)) (.int .i64 (s : Int)) false H = some (.int .u64 (((at_ (a.getD []) i + 2 ^ 32 * at_ (a.getD []) (i + 1)) / 2 ^ s : Nat) : Int)) := fun t H => shr_u64 (by omega)
    have hshl : ∀ (t : TypeId) (H : Heap), A.bin base.P .shl t (.int .u64 (at_ (a.getD []) (i + 1) : Int)) (.int .u64 32) true H = some (.int .u64 ((2 ^ 32 * at_ (a.getD []) (i + 1) : Nat) : Int)) := fun t H => shl_nat (s := 32) (by omega) (by omega)
    have hor : ∀ (t : TypeId) (H : Heap), A.bin base.P .or t (.int .u64 (at_ (a.getD []) i : Int)) (.int .u64 ((2 ^ 32 * at_ (a.getD []) (i + 1) : Nat) : Int)) false H = some (.int .u64 ((at_ (a.getD []) i + 2 ^ 32 * at_ (a.getD []) (i + 1) : Nat) : Int)) := fun t H => (or_nat (s := 32) (by omega) (by omega)).1
    have hst := r3 (UInt32.ofNat ((at_ (a.getD []) i + 2 ^ 32 * at_ (a.getD []) (i + 1)) / 2 ^ s))
    have hw : IntKind.wrap .u32 (((at_ (a.getD []) i + 2 ^ 32 * at_ (a.getD []) (i + 1)) / 2 ^ s : Nat) : Int) = ((UInt32.ofNat ((at_ (a.getD []) i + 2 ^ 32 * at_ (a.getD []) (i + 1)) / 2 ^ s)).toNat : Int) := wrap_nat32 _
    have hx1 : i + 1 < (a.getD []).length → ∀ H, A.idx 1 (eD a) (.int .i64 ((i : Int) + 1)) H = some (.rop [.int .u32 (at_ (a.getD []) (i + 1) : Nat)]) := fun h H => at_idx (d := a) h H
    have hx0 : ¬ i + 1 < (a.getD []).length → at_ (a.getD []) (i + 1) = 0 := fun h => at_out h
    have hsm : ((at_ (a.getD []) i + 2 ^ 32 * at_ (a.getD []) (i + 1)) : Nat) = at_ (a.getD []) i + 4294967296 * at_ (a.getD []) (i + 1) := rfl
    clear hnew hd ih
    generalize UInt32.ofNat ((at_ (a.getD []) i + 2 ^ 32 * at_ (a.getD []) (i + 1)) / 2 ^ s) = dg at *
    generalize (((at_ (a.getD []) i + 2 ^ 32 * at_ (a.getD []) (i + 1)) / 2 ^ s : Nat) : Int) = dn at *
    simp only [Int.natCast_add, Int.natCast_one, List.map_set] at h3 hst
    by_cases hin : i + 1 < (a.getD []).length
    · have hin' : (i : Int) + 1 < ((a.getD []).length : Int) := by omega
      have hx' := hx1 hin H
      generalize ((at_ (a.getD []) i + 2 ^ 32 * at_ (a.getD []) (i + 1) : Nat) : Int) = yy at *
      generalize ((2 ^ 32 * at_ (a.getD []) (i + 1) : Nat) : Int) = y2 at *
      generalize at_ (a.getD []) (i + 1) = x1 at *
      generalize at_ (a.getD []) i = x0 at *
      clear hx1 hx0 r3 hsm
      simp (disch := omega) [↓test_bool, ↓bindV_eq, ↓withV_of, ↓withH_some, ↓bindX_some, L68_0_step, hlt, hin', hx, hx', cv_32_64, cv_64_32, wrap_u64, wrap_i64, hshl, hor, hshr, hw, r1, hst, h3]
    · have hin' : ¬ (i : Int) + 1 < ((a.getD []).length : Int) := by omega
      have hz := hx0 hin
      rw [hz, Nat.mul_zero, Nat.add_zero] at hshr
      generalize at_ (a.getD []) i = x0 at *
      clear hx1 hx0 r3 hsm hshl hor
      simp (disch := omega) [↓test_bool, ↓bindV_eq, ↓withV_of, ↓withH_some, ↓bindX_some, L68_0_step, hlt, hin', hx, cv_32_64, cv_64_32, wrap_u64, wrap_i64, hshr, hw, r1, hst, h3]
noncomputable def pBack : Pol := .still (p2 cD (cI .i64) eD (fun a s => (a.getD []).length ≤ 2000000 ∧ 0 ≤ s ∧ s ≤ 31) backS)
theorem okBack : PolOK base 68 pBack := still2 base_ok [] trivial fun a s ⟨hf, hs0, hs⟩ => by
  obtain ⟨s, rfl⟩ : ∃ t : Nat, s = t := ⟨s.toNat, by omega⟩
  have hmk := row_make (H := []) (sz := 1) (ty := 64) (bytes := 4) (z := .int .u32 0) (l := (((a.getD []).length : Nat) : Int)) (by omega) (by omega) (by omega)
  simp only [List.length_nil, Int.toNat_natCast, List.nil_append] at hmk
  have hz : List.replicate (a.getD []).length (AV.int .u32 0) = (List.replicate (a.getD []).length (0 : UInt32)).map eu := by simp
  rw [hz] at hmk
  obtain ⟨H', hL, hr⟩ := back_loop (pol := polT []) (a := a) (s := s) (id := 0) (by omega) hf (a.getD []).length 0 (List.replicate (a.getD []).length 0) [.row 0 1 64 ((List.replicate (a.getD []).length (0 : UInt32)).map eu)] (by omega) (by simp) (by simp [digs]) rfl
  refine Evs.withL hL (Evs.of fun n m h3 _ => ?_)
  have e0 : ((0 : Nat) : Int) = 0 := rfl
  simp only [e0] at h3
  have hfz := frz_limbs hr (digs_length _ _).symm 62 (n := (a.getD []).length) (cap := (a.getD []).length)
  unfold backS
  simp only [Int.toNat_natCast]
  generalize digs (a.getD []).length (val (a.getD []) / 2 ^ s) = out at *
  generalize hrep : (List.replicate (a.getD []).length (0 : UInt32)).map eu = rep at *
  simp (disch := omega) [↓bindV_eq, ↓withV_of, ↓withVH_some, ↓bindX_some, S68, hmk, h3, hfz]
end Go.Proofs.YtikkpecdkdgmfaaDoor

/- Numbers of any size: a digit of a quotient is guessed. -/
set_option maxRecDepth 100000
set_option maxHeartbeats 2000000
namespace Go.Proofs.YtikkpecdkdgmfaaDoor
open Go Go.Den

theorem guess_loop {pol : FuncId → Pol} {u v : Option (List UInt32)} {k n : Nat} (hn : (v.getD []).length = n) (h2 : 2 ≤ n) (hnb : n ≤ 2000000) (hk : k + n < (u.getD []).length) (hub : (u.getD []).length ≤ 2000000) : ∀ (f q r : Nat) (H : Heap), q ≤ 4294967297 → r < 4294967296 → 4294967296 ≤ r + f * at_ (v.getD []) (n - 1) →
    LDoes (L65_0 pol) ⟨[eD u, eD v, .int .i64 (k : Nat), .int .i64 (n : Nat), .int .u64 (q : Nat), .int .u64 (r : Nat)], []⟩ H 0 ⟨[.int .u64 ((guessG (at_ (v.getD []) (n - 1)) (at_ (v.getD []) (n - 2)) (at_ (u.getD []) (k + n - 2)) f q r : Nat) : Int)], []⟩ H := by
  intro f
  induction f with
  | zero =>
    intro q r H hq hr hf
    exfalso
    omega
  | succ f ih =>
    intro q r H hq hr hf
    have hv1 := at_lt (v.getD []) (n - 1)
    have hv2 := at_lt (v.getD []) (n - 2)
    have hu2 := at_lt (u.getD []) (k + n - 2)
    have i1 : ∀ H, A.idx 1 (eD v) (.int .i64 ((n : Int) - 1)) H = some (.rop [.int .u32 (at_ (v.getD []) (n - 1) : Nat)]) := fun H => by
      rw [show (n : Int) - 1 = ((n - 1 : Nat) : Int) by omega]
      exact at_idx (d := v) (by omega) H
    have i2 : ∀ H, A.idx 1 (eD v) (.int .i64 ((n : Int) - 2)) H = some (.rop [.int .u32 (at_ (v.getD []) (n - 2) : Nat)]) := fun H => by
      rw [show (n : Int) - 2 = ((n - 2 : Nat) : Int) by omega]
      exact at_idx (d := v) (by omega) H
    have i3 : ∀ H, A.idx 1 (eD u) (.int .i64 ((k : Int) + (n : Int) - 2)) H = some (.rop [.int .u32 (at_ (u.getD []) (k + n - 2) : Nat)]) := fun H => by
      rw [show (k : Int) + (n : Int) - 2 = ((k + n - 2 : Nat) : Int) by omega]
      exact at_idx (d := u) (by omega) H
    unfold guessG
    have ihs := ih (q - 1) (r + at_ (v.getD []) (n - 1)) H (by omega)
    have hfm : (f + 1) * at_ (v.getD []) (n - 1) = f * at_ (v.getD []) (n - 1) + at_ (v.getD []) (n - 1) := by rw [Nat.add_mul, Nat.one_mul]
    rw [hfm] at hf
    generalize at_ (v.getD []) (n - 1) = v1 at *
    generalize at_ (v.getD []) (n - 2) = v2 at *
    generalize at_ (u.getD []) (k + n - 2) = u2 at *
    have hshl : ∀ (t : TypeId) (H : Heap), A.bin base.P .shl t (.int .u64 (r : Int)) (.int .u64 32) true H = some (.int .u64 ((2 ^ 32 * r : Nat) : Int)) := fun t H => shl_nat (s := 32) (by omega) (by omega)
    have hor : ∀ (t : TypeId) (H : Heap), A.bin base.P .or t (.int .u64 ((2 ^ 32 * r : Nat) : Int)) (.int .u64 (u2 : Int)) false H = some (.int .u64 ((u2 + 2 ^ 32 * r : Nat) : Int)) := fun t H => (or_nat (s := 32) (by omega) (by omega)).2
    have hS : 2 ^ 32 * r = 4294967296 * r := rfl
    rw [hS] at hor hshl
    generalize hSS : 4294967296 * r = S at *
    by_cases hc1 : 4294967296 ≤ q
    · rw [if_pos (.inl hc1)]
      have hc1' : (4294967296 : Int) ≤ (q : Int) := by omega
      have hq1 : (q : Int) - 1 = ((q - 1 : Nat) : Int) := by omega
      by_cases hrr : 4294967296 ≤ r + v1
      · rw [if_pos hrr]
        have hrr' : (4294967296 : Int) ≤ (r : Int) + (v1 : Int) := by omega
        refine LDoes.step (Evs.of fun n' m => ?_)
        simp (disch := omega) [↓test_bool, ↓withV_of, ↓withP_some, ↓withB_some, L65_0_step, hc1', i1, cv_32_64, wrap_u64, wrap_i64, hrr']
        omega
      · rw [if_neg hrr]
        have hrr' : ¬ (4294967296 : Int) ≤ (r : Int) + (v1 : Int) := by omega
        refine LDoes.step (Evs.withL (ihs (by omega) (by omega)) (Evs.of fun n' m _ h3 => ?_))
        generalize guessG v1 v2 u2 f (q - 1) (r + v1) = res at *
        rw [← hq1] at h3
        simp only [Int.natCast_add] at h3
        simp (disch := omega) [↓test_bool, ↓withV_of, ↓withP_some, ↓withB_some, L65_0_step, hc1', i1, cv_32_64, wrap_u64, wrap_i64, hrr', h3]
    · have hc1' : ¬ (4294967296 : Int) ≤ (q : Int) := by omega
      have hp : q * v2 ≤ 4294967295 * 4294967295 := Nat.mul_le_mul (by omega) (by omega)
      have hp0 : (0 : Int) ≤ (q : Int) * (v2 : Int) := by rw [← Int.natCast_mul]; omega
      have hp1 : (q : Int) * (v2 : Int) < 18446744073709551616 := by rw [← Int.natCast_mul]; omega
      by_cases hc2 : S + u2 < q * v2
      · rw [if_pos (.inr hc2)]
        have hc2' : (u2 : Int) + (S : Int) < (q : Int) * (v2 : Int) := by rw [← Int.natCast_mul]; omega
        have hqpos : 1 ≤ q := by
          rcases Nat.eq_zero_or_pos q with h0 | h0
          · rw [h0, Nat.zero_mul] at hc2; omega
          · exact h0
        have hq1 : (q : Int) - 1 = ((q - 1 : Nat) : Int) := by omega
        by_cases hrr : 4294967296 ≤ r + v1
        · rw [if_pos hrr]
          have hrr' : (4294967296 : Int) ≤ (r : Int) + (v1 : Int) := by omega
          refine LDoes.step (Evs.of fun n' m => ?_)
          simp (disch := omega) [↓test_bool, ↓withV_of, ↓withP_some, ↓withB_some, L65_0_step, hc1', i1, i2, i3, cv_32_64, wrap_u64, wrap_i64, hrr', hshl, hor, hc2']
          omega
        · rw [if_neg hrr]
          have hrr' : ¬ (4294967296 : Int) ≤ (r : Int) + (v1 : Int) := by omega
          refine LDoes.step (Evs.withL (ihs (by omega) (by omega)) (Evs.of fun n' m _ h3 => ?_))
          generalize guessG v1 v2 u2 f (q - 1) (r + v1) = res at *
          rw [← hq1] at h3
          simp only [Int.natCast_add] at h3
          simp (disch := omega) [↓test_bool, ↓withV_of, ↓withP_some, ↓withB_some, L65_0_step, hc1', i1, i2, i3, cv_32_64, wrap_u64, wrap_i64, hrr', hshl, hor, hc2', h3]
      · rw [if_neg (by omega)]
        have hc2' : ¬ (u2 : Int) + (S : Int) < (q : Int) * (v2 : Int) := by rw [← Int.natCast_mul]; omega
        refine LDoes.step (Evs.of fun n' m => ?_)
        simp (disch := omega) [↓test_bool, ↓withV_of, ↓withP_some, ↓withB_some, L65_0_step, hc1', i2, i3, cv_32_64, wrap_u64, wrap_i64, hshl, hor, hc2']

/-- The two limbs ahead. -/
def topS (u v : Option (List UInt32)) (k : Nat) : Nat := 4294967296 * at_ (u.getD []) (k + (v.getD []).length) + at_ (u.getD []) (k + (v.getD []).length - 1)
def guessS (u v : Option (List UInt32)) (k : Int) : Int := (guessG (at_ (v.getD []) ((v.getD []).length - 1)) (at_ (v.getD []) ((v.getD []).length - 2)) (at_ (u.getD []) (k.toNat + (v.getD []).length - 2)) 3 (topS u v k.toNat / at_ (v.getD []) ((v.getD []).length - 1)) (topS u v k.toNat % at_ (v.getD []) ((v.getD []).length - 1)) : Nat)
def guessP (u v : Option (List UInt32)) (k : Int) : Prop := 0 ≤ k ∧ 2 ≤ (v.getD []).length ∧ (v.getD []).length ≤ 2000000 ∧ k.toNat + (v.getD []).length < (u.getD []).length ∧ (u.getD []).length ≤ 2000000 ∧ 2147483648 ≤ at_ (v.getD []) ((v.getD []).length - 1) ∧ at_ (u.getD []) (k.toNat + (v.getD []).length) ≤ at_ (v.getD []) ((v.getD []).length - 1)
noncomputable def pGuess : Pol := .still (p3 cD cD (cI .i64) (.int .u64) guessP guessS)
theorem okGuess : PolOK base 65 pGuess := still3 base_ok [] trivial fun u v k ⟨hk0, h2, hnb, hkn, hub, hv1, hu0⟩ => by
  obtain ⟨k, rfl⟩ : ∃ t : Nat, k = t := ⟨k.toNat, by omega⟩
  unfold guessS topS
  simp only [Int.toNat_natCast] at hkn hu0 ⊢
  clear hk0
  generalize hn : (v.getD []).length = n at *
  have hu0l := at_lt (u.getD []) (k + n)
  have hu1l := at_lt (u.getD []) (k + n - 1)
  have hv1l := at_lt (v.getD []) (n - 1)
  have i1 : ∀ H, A.idx 1 (eD v) (.int .i64 ((n : Int) - 1)) H = some (.rop [.int .u32 (at_ (v.getD []) (n - 1) : Nat)]) := fun H => by
    rw [show (n : Int) - 1 = ((n - 1 : Nat) : Int) by omega]
    exact at_idx (d := v) (by omega) H
  have j0 : ∀ H, A.idx 1 (eD u) (.int .i64 ((k : Int) + (n : Int))) H = some (.rop [.int .u32 (at_ (u.getD []) (k + n) : Nat)]) := fun H => by
    rw [show (k : Int) + (n : Int) = ((k + n : Nat) : Int) by omega]
    exact at_idx (d := u) (by omega) H
  have j1 : ∀ H, A.idx 1 (eD u) (.int .i64 ((k : Int) + (n : Int) - 1)) H = some (.rop [.int .u32 (at_ (u.getD []) (k + n - 1) : Nat)]) := fun H => by
    rw [show (k : Int) + (n : Int) - 1 = ((k + n - 1 : Nat) : Int) by omega]
    exact at_idx (d := u) (by omega) H
  have hdm := Nat.mod_add_div (4294967296 * at_ (u.getD []) (k + n) + at_ (u.getD []) (k + n - 1)) (at_ (v.getD []) (n - 1))
  have hml := Nat.mod_lt (4294967296 * at_ (u.getD []) (k + n) + at_ (u.getD []) (k + n - 1)) (show 0 < at_ (v.getD []) (n - 1) by omega)
  have hql : (4294967296 * at_ (u.getD []) (k + n) + at_ (u.getD []) (k + n - 1)) / at_ (v.getD []) (n - 1) ≤ 4294967297 := by
    have : (4294967296 * at_ (u.getD []) (k + n) + at_ (u.getD []) (k + n - 1)) / at_ (v.getD []) (n - 1) < 4294967298 := by
      rw [Nat.div_lt_iff_lt_mul (by omega)]
      omega
    omega
  have hL := guess_loop (pol := polT []) (u := u) (v := v) (k := k) (n := n) hn h2 hnb hkn hub 3 ((4294967296 * at_ (u.getD []) (k + n) + at_ (u.getD []) (k + n - 1)) / at_ (v.getD []) (n - 1)) ((4294967296 * at_ (u.getD []) (k + n) + at_ (u.getD []) (k + n - 1)) % at_ (v.getD []) (n - 1)) [] hql (by omega) (by omega)
  generalize guessG (at_ (v.getD []) (n - 1)) (at_ (v.getD []) (n - 2)) (at_ (u.getD []) (k + n - 2)) 3 ((4294967296 * at_ (u.getD []) (k + n) + at_ (u.getD []) (k + n - 1)) / at_ (v.getD []) (n - 1)) ((4294967296 * at_ (u.getD []) (k + n) + at_ (u.getD []) (k + n - 1)) % at_ (v.getD []) (n - 1)) = res at *
  have hshl : ∀ (t : TypeId) (H : Heap), A.bin base.P .shl t (.int .u64 (at_ (u.getD []) (k + n) : Int)) (.int .u64 32) true H = some (.int .u64 ((2 ^ 32 * at_ (u.getD []) (k + n) : Nat) : Int)) := fun t H => shl_nat (s := 32) (by omega) (by omega)
  have hor : ∀ (t : TypeId) (H : Heap), A.bin base.P .or t (.int .u64 ((2 ^ 32 * at_ (u.getD []) (k + n) : Nat) : Int)) (.int .u64 (at_ (u.getD []) (k + n - 1) : Int)) false H = some (.int .u64 ((4294967296 * at_ (u.getD []) (k + n) + at_ (u.getD []) (k + n - 1) : Nat) : Int)) := fun t H => by
    rw [(or_nat (s := 32) (by omega) (by omega)).2, Nat.add_comm]
  have hquo : ∀ (t : TypeId) (H : Heap), A.bin base.P .quo t (.int .u64 ((4294967296 * at_ (u.getD []) (k + n) + at_ (u.getD []) (k + n - 1) : Nat) : Int)) (.int .u64 (at_ (v.getD []) (n - 1) : Int)) false H = some (.int .u64 (((4294967296 * at_ (u.getD []) (k + n) + at_ (u.getD []) (k + n - 1)) / at_ (v.getD []) (n - 1) : Nat) : Int)) := fun t H => quo_nat (by omega) (by omega)
  have hrem : ∀ (t : TypeId) (H : Heap), A.bin base.P .rem t (.int .u64 ((4294967296 * at_ (u.getD []) (k + n) + at_ (u.getD []) (k + n - 1) : Nat) : Int)) (.int .u64 (at_ (v.getD []) (n - 1) : Int)) false H = some (.int .u64 (((4294967296 * at_ (u.getD []) (k + n) + at_ (u.getD []) (k + n - 1)) % at_ (v.getD []) (n - 1) : Nat) : Int)) := fun t H => rem_nat (by omega)
  refine Evs.withL hL (Evs.of fun n' m h3 _ => ?_)
  generalize ((2 ^ 32 * at_ (u.getD []) (k + n) : Nat) : Int) = y0 at *
  generalize (((4294967296 * at_ (u.getD []) (k + n) + at_ (u.getD []) (k + n - 1)) / at_ (v.getD []) (n - 1) : Nat) : Int) = qq at *
  generalize (((4294967296 * at_ (u.getD []) (k + n) + at_ (u.getD []) (k + n - 1)) % at_ (v.getD []) (n - 1) : Nat) : Int) = rr at *
  generalize ((4294967296 * at_ (u.getD []) (k + n) + at_ (u.getD []) (k + n - 1) : Nat) : Int) = tt at *
  simp (disch := omega) [↓bindV_eq, ↓withV_of, ↓bindX_some, S65, wrap_i64, wrap_u64, cv_32_64, hn, i1, j0, j1, hshl, hor, hquo, hrem, h3]
end Go.Proofs.YtikkpecdkdgmfaaDoor

/- Numbers of any size: one step of a long division, on lists of limbs. -/
set_option maxRecDepth 100000
set_option maxHeartbeats 2000000
namespace Go.Proofs.YtikkpecdkdgmfaaDoor
open Go Go.Den

theorem at_drop (l : List UInt32) (k i : Nat) : at_ (l.drop k) i = at_ l (k + i) := by
  unfold at_
  by_cases h : k + i < l.length
  · rw [dif_pos h, dif_pos (by rw [List.length_drop]; omega)]
    simp
  · rw [dif_neg h, dif_neg (by rw [List.length_drop]; omega)]
theorem val_top {l : List UInt32} {m : Nat} (h : l.length = m + 2) : val l = 4294967296 ^ m * (4294967296 * at_ l (m + 1) + at_ l m) + val (l.take m) := by
  have e : val l = val (l.take (m + 1 + 1)) := by rw [List.take_of_length_le (by omega)]
  rw [e, val_at, val_at, Nat.pow_succ, Nat.mul_add]
  rw [show 4294967296 ^ m * (4294967296 * at_ l (m + 1)) = 4294967296 ^ m * 4294967296 * at_ l (m + 1) from (Nat.mul_assoc _ _ _).symm]
  omega
theorem val_top3 {l : List UInt32} {m : Nat} (h : val (l.drop (m + 3)) = 0) (hl : m + 3 ≤ l.length) : val l = 4294967296 ^ m * (4294967296 * (4294967296 * at_ l (m + 2) + at_ l (m + 1)) + at_ l m) + val (l.take m) := by
  have e := val_drop (l := l) (n := m + 3) hl
  rw [h, Nat.mul_zero, Nat.add_zero, show m + 3 = m + 2 + 1 from rfl, val_at, show m + 2 = m + 1 + 1 from rfl, val_at, val_at] at e
  simp only [Nat.pow_succ] at e
  rw [e]
  clear e
  generalize 4294967296 ^ m = p
  have e1 : p * (4294967296 * (4294967296 * at_ l (m + 2) + at_ l (m + 1)) + at_ l m) = p * 4294967296 * 4294967296 * at_ l (m + 2) + p * 4294967296 * at_ l (m + 1) + p * at_ l m := by
    simp only [Nat.mul_add, Nat.mul_assoc]
  have e2 : at_ l (m + 1 + 1) = at_ l (m + 2) := rfl
  rw [e1, e2]
  omega

/-- What comes of one step: the digit, what is left. -/
theorem div_digit {u v : List UInt32} {k n : Nat} (hn : v.length = n) (h2 : 2 ≤ n) (hk : k + n + 1 ≤ u.length) (htop : 2147483648 ≤ at_ v (n - 1)) (hinv : val (u.drop (k + 1)) < val v) :
    at_ u (k + n) ≤ at_ v (n - 1) ∧ ∃ x b Q : Nat, guessS (some u) (some v) (k : Nat) = (x : Nat) ∧ x < 4294967296 ∧ Q < 4294967296 ∧
      (takeS x (segS ⟨0, u, some v, k, x⟩) v 0 0).2 = b ∧ val (u.drop k) < 4294967296 * val v ∧
      (b = 1 → x = Q + 1 ∧ val (giveS (takeS x (segS ⟨0, u, some v, k, x⟩) v 0 0).1 v 0) + Q * val v = val (u.drop k) ∧ val (giveS (takeS x (segS ⟨0, u, some v, k, x⟩) v 0 0).1 v 0) < val v) ∧
      (b ≠ 1 → x = Q ∧ val (takeS x (segS ⟨0, u, some v, k, x⟩) v 0 0).1 + Q * val v = val (u.drop k) ∧ val (takeS x (segS ⟨0, u, some v, k, x⟩) v 0 0).1 < val v) := by
  obtain ⟨m, rfl⟩ : ∃ m, n = m + 2 := ⟨n - 2, by omega⟩
  have hv := val_top hn
  have hv3 := val_take_lt v m
  have hP : 0 < 4294967296 ^ m := Nat.pow_pos (by omega)
  have hvn : val v < 4294967296 ^ (m + 2) := by rw [← hn]; exact val_lt v
  rw [show m + 2 - 1 = m + 1 from rfl] at htop ⊢
  -- nothing stands above
  have hz : val (u.drop (k + 1 + (m + 2))) = 0 := by
    have e := val_drop (l := u.drop (k + 1)) (n := m + 2) (by rw [List.length_drop]; omega)
    rw [List.drop_drop] at e
    rcases Nat.eq_zero_or_pos (val (u.drop (k + 1 + (m + 2)))) with h0 | h0
    · exact h0
    · exfalso
      have : 4294967296 ^ (m + 2) * 1 ≤ 4294967296 ^ (m + 2) * val (u.drop (k + 1 + (m + 2))) := Nat.mul_le_mul_left _ h0
      omega
  have hz' : val ((u.drop k).drop (m + 3)) = 0 := by rw [List.drop_drop, show k + (m + 3) = k + 1 + (m + 2) by omega]; exact hz
  have hS := val_top3 hz' (by rw [List.length_drop]; omega)
  rw [at_drop, at_drop, at_drop] at hS
  have hu3 := val_take_lt (u.drop k) m
  -- the top limb
  have hu0 : at_ u (k + (m + 2)) ≤ at_ v (m + 1) := by
    have e := val_drop (l := u.drop (k + 1)) (n := m + 2) (by rw [List.length_drop]; omega)
    rw [List.drop_drop, hz, Nat.mul_zero, Nat.add_zero, show m + 2 = m + 1 + 1 from rfl, val_at, at_drop, show k + 1 + (m + 1) = k + (m + 2) by omega] at e
    have h1 : 4294967296 ^ (m + 1) * at_ u (k + (m + 2)) < 4294967296 ^ (m + 1) * (at_ v (m + 1) + 1) := by
      have h3 := at_lt v m
      have e2 : val v = val (v.take (m + 1)) + 4294967296 ^ (m + 1) * at_ v (m + 1) := by rw [← val_at, List.take_of_length_le (by omega)]
      have h4 := val_take_lt v (m + 1)
      rw [Nat.mul_add, Nat.mul_one]
      omega
    have := Nat.lt_of_mul_lt_mul_left h1
    omega
  have hS2 : val (u.drop k) = at_ u k + 4294967296 * val (u.drop (k + 1)) := by
    rw [List.drop_eq_getElem_cons (by omega), val, at_, dif_pos (by omega)]
  have hukl := at_lt u k
  have hSB : val (u.drop k) < 4294967296 * val v := by omega
  have hVpos : 0 < val v := by omega
  have hQB : val (u.drop k) / val v < 4294967296 := Nat.div_lt_of_lt_mul (by rw [Nat.mul_comm]; exact hSB)
  have hQ1 : (val (u.drop k) / val v) * val v ≤ val (u.drop k) := Nat.div_mul_le_self _ _
  have hQ2 : val (u.drop k) < (val (u.drop k) / val v + 1) * val v := by
    have := Nat.lt_mul_div_succ (val (u.drop k)) hVpos
    rw [Nat.mul_comm]; exact this
  have hu1l := at_lt u (k + (m + 1))
  have hu2l := at_lt u (k + m)
  have hv1l := at_lt v (m + 1)
  have hv2l := at_lt v m
  -- the guess
  have hdm := Nat.div_add_mod (4294967296 * at_ u (k + (m + 2)) + at_ u (k + (m + 1))) (at_ v (m + 1))
  have hml := Nat.mod_lt (4294967296 * at_ u (k + (m + 2)) + at_ u (k + (m + 1))) (show 0 < at_ v (m + 1) by omega)
  have hQq : val (u.drop k) / val v ≤ (4294967296 * at_ u (k + (m + 2)) + at_ u (k + (m + 1))) / at_ v (m + 1) := by
    rw [Nat.le_div_iff_mul_le (by omega)]
    generalize val (u.drop k) / val v = Q at *
    have h1 : 4294967296 ^ m * 4294967296 * (Q * at_ v (m + 1)) < 4294967296 ^ m * 4294967296 * (4294967296 * at_ u (k + (m + 2)) + at_ u (k + (m + 1)) + 1) := by
      have e1 : 4294967296 ^ m * 4294967296 * (Q * at_ v (m + 1)) ≤ Q * val v := by
        rw [hv]
        have e2 : 4294967296 ^ m * 4294967296 * (Q * at_ v (m + 1)) = Q * (4294967296 ^ m * (4294967296 * at_ v (m + 1))) := by
          simp only [Nat.mul_assoc, Nat.mul_left_comm]
        rw [e2]
        refine Nat.mul_le_mul_left _ ?_
        rw [Nat.mul_add]
        omega
      have e3 : val (u.drop k) < 4294967296 ^ m * 4294967296 * (4294967296 * at_ u (k + (m + 2)) + at_ u (k + (m + 1)) + 1) := by
        rw [hS]
        generalize 4294967296 * at_ u (k + (m + 2)) + at_ u (k + (m + 1)) = T
        have e4 : 4294967296 ^ m * 4294967296 * (T + 1) = 4294967296 ^ m * (4294967296 * T + 4294967295) + 4294967296 ^ m := by
          have e6 : 4294967296 * (T + 1) = 4294967296 * T + 4294967295 + 1 := by omega
          rw [Nat.mul_assoc, e6, Nat.mul_add (4294967296 ^ m) (4294967296 * T + 4294967295) 1, Nat.mul_one]
        have e5 : 4294967296 ^ m * (4294967296 * T + at_ u (k + m)) ≤ 4294967296 ^ m * (4294967296 * T + 4294967295) := Nat.mul_le_mul_left _ (by omega)
        omega
      omega
    have := Nat.lt_of_mul_lt_mul_left h1
    omega
  have hg := guess_ok (P := 4294967296 ^ m) (Q := val (u.drop k) / val v) (v1 := at_ v (m + 1)) (v2 := at_ v m) (v3 := val (v.take m)) (u0 := at_ u (k + (m + 2))) (u1 := at_ u (k + (m + 1))) (u2 := at_ u (k + m)) (u3 := val ((u.drop k).take m)) hP hu3 hu1l hu2l hv1l htop hv2l hv3 hu0
    (by rw [← hv, ← hS]; exact hQ1) (by rw [← hv, ← hS]; exact hQ2) hQB 3 _ ((4294967296 * at_ u (k + (m + 2)) + at_ u (k + (m + 1))) % at_ v (m + 1)) (by rw [Nat.mul_comm]; exact hdm) hQq (by omega) (by omega)
  refine ⟨hu0, ?_⟩
  obtain ⟨x, hx⟩ : ∃ x, guessG (at_ v (m + 1)) (at_ v m) (at_ u (k + m)) 3 ((4294967296 * at_ u (k + (m + 2)) + at_ u (k + (m + 1))) / at_ v (m + 1)) ((4294967296 * at_ u (k + (m + 2)) + at_ u (k + (m + 1))) % at_ v (m + 1)) = x := ⟨_, rfl⟩
  rw [hx] at hg
  obtain ⟨g1, g2, g3⟩ := hg
  -- what is taken
  have hsl : (segS ⟨0, u, some v, k, x⟩).length = m + 3 := by
    unfold segS
    simp only [Option.getD_some, List.length_take, List.length_drop]
    omega
  have hsv : val (segS ⟨0, u, some v, k, x⟩) = val (u.drop k) := by
    unfold segS
    simp only [Option.getD_some]
    have e := val_drop (l := u.drop k) (n := m + 3) (by rw [List.length_drop]; omega)
    rw [hz', Nat.mul_zero, Nat.add_zero] at e
    rw [hn, e]
  have hpow : 4294967296 ^ (m + 3) = 4294967296 * 4294967296 ^ (m + 2) := by rw [Nat.pow_succ, Nat.mul_comm]
  have hxv : x * val v + 0 < 4294967296 ^ (m + 3) := by
    have h1 : x * val v ≤ 4294967295 * val v := Nat.mul_le_mul_right _ (by omega)
    rw [hpow]
    omega
  have ht := takeS_val (q := x) (by omega) (segS ⟨0, u, some v, k, x⟩) v 0 0 (by omega) (by omega) (by omega) (by rw [hsl]; exact hxv)
  have hol := takeS_len x (segS ⟨0, u, some v, k, x⟩) v 0 0
  rw [hsl] at ht hol
  rw [hsv] at ht
  have hob := val_lt (takeS x (segS ⟨0, u, some v, k, x⟩) v 0 0).1
  rw [hol] at hob
  have hgv := giveS_val (takeS x (segS ⟨0, u, some v, k, x⟩) v 0 0).1 v 0 (by omega)
  rw [hol] at hgv
  refine ⟨x, (takeS x (segS ⟨0, u, some v, k, x⟩) v 0 0).2, val (u.drop k) / val v, ?_, g3, hQB, rfl, hSB, ?_⟩
  · unfold guessS topS
    simp only [Option.getD_some, Int.toNat_natCast, hn, show m + 2 - 1 = m + 1 from rfl, show m + 2 - 2 = m from rfl, show k + (m + 2) - 2 = k + m by omega, show k + (m + 2) - 1 = k + (m + 1) by omega]
    rw [hx]
  · obtain ⟨ht1, ht2⟩ := ht
    generalize val (u.drop k) / val v = Q at *
    generalize takeS x (segS ⟨0, u, some v, k, x⟩) v 0 0 = tk at *
    have hSW : val (u.drop k) < 4294967296 ^ (m + 3) := by rw [hpow]; omega
    generalize 4294967296 ^ (m + 3) = W at *
    have hQ3 : (Q + 1) * val v = Q * val v + val v := by rw [Nat.add_mul, Nat.one_mul]
    rw [hQ3] at hQ2
    rcases (show x = Q ∨ x = Q + 1 by omega) with rfl | rfl
    · have hb0 : tk.2 = 0 := by
        rcases (show tk.2 = 0 ∨ tk.2 = 1 by omega) with h | h
        · exact h
        · rw [h] at ht1; omega
      refine ⟨fun h => by omega, fun _ => ⟨rfl, ?_, ?_⟩⟩
      · rw [hb0] at ht1; omega
      · rw [hb0] at ht1; omega
    · rw [hQ3] at ht1
      have hb1 : tk.2 = 1 := by
        rcases (show tk.2 = 0 ∨ tk.2 = 1 by omega) with h | h
        · rw [h] at ht1; omega
        · exact h
      rw [hb1] at ht1
      have hg2 : val (giveS tk.1 v 0) = val (u.drop k) - Q * val v := by
        rw [hgv, show val tk.1 + val v + 0 = (val (u.drop k) - Q * val v) + W by omega, Nat.add_mod_right, Nat.mod_eq_of_lt (by omega)]
      refine ⟨fun _ => ⟨rfl, by omega, by omega⟩, fun h => absurd hb1 h⟩
end Go.Proofs.YtikkpecdkdgmfaaDoor

/- Numbers of any size: long division. -/
set_option maxRecDepth 100000
set_option maxHeartbeats 2000000
namespace Go.Proofs.YtikkpecdkdgmfaaDoor
open Go Go.Den

theorem reach_limbs {H : Heap} {id ver off n cap : Nat} {ty : TypeId} {l : List UInt32} (h : H[id]? = some (.row ver 1 ty (l.map eu))) : reach 64 H (.sl id ver off n cap) = [id] := by
  show id :: (match H[id]? with | some (.row _ _ _ es) => es.flatMap fun e => e.cells.flatMap (reach 63 H) | _ => []) = [id]
  rw [h]
  dsimp only
  rw [List.cons.injEq]
  refine ⟨rfl, List.flatMap_eq_nil_iff.2 fun e he => ?_⟩
  obtain ⟨x, _, rfl⟩ := List.mem_map.1 he
  rfl
theorem kGuessH {R : Type} {id : Nat} {u : List UInt32} {v : Option (List UInt32)} {i : Int} {H : Heap} (h : H[id]? = some (.row 0 1 64 (u.map eu))) (hp : guessP (some u) v i) {k : AV → Heap → Option R} : polK pGuess [.sl id 0 0 u.length u.length, eD v, .int .i64 i] H k = k (.int .u64 (guessS (some u) v i)) H := by
  unfold pGuess
  have hf : freezeAll H [.sl id 0 0 u.length u.length, eD v, .int .i64 i] = some [eD (some u), eD v, .int .i64 i] := freezeAll_cons (frz_limbs h rfl 62) (freezeAll_cons frz_eD (freezeAll_cons rfl rfl))
  rw [polK_frz hf]
  simp only [p3_app, dec_cD, dec_cI, Option.bind_some]
  rw [if_pos hp]
  rfl
theorem kBackH {R : Type} {id : Nat} {u : List UInt32} {s : Nat} {H : Heap} (h : H[id]? = some (.row 0 1 64 (u.map eu))) (hu : u.length ≤ 2000000) (hs : s ≤ 31) {k : AV → Heap → Option R} : polK pBack [.sl id 0 0 u.length u.length, .int .i64 (s : Nat)] H k = k (eD (some (digs u.length (val u / 2 ^ s)))) (H.set id .dead) := by
  unfold pBack
  have hf : freezeAll H [.sl id 0 0 u.length u.length, .int .i64 (s : Nat)] = some [eD (some u), .int .i64 (s : Nat)] := freezeAll_cons (frz_limbs h rfl 62) (freezeAll_cons rfl rfl)
  rw [polK_frz hf]
  simp only [p2_app, dec_cD, dec_cI, Option.bind_some]
  rw [if_pos ⟨hu, by omega, by omega⟩]
  have hr : ([AV.sl id 0 0 u.length u.length, .int .i64 (s : Nat)]).flatMap (reach 64 H) = [id] := by
    simp only [List.flatMap_cons, List.flatMap_nil, reach_limbs h]
    rfl
  rw [hr]
  rfl

noncomputable abbrev TDvd : List (FuncId × Pol) := [(65, pGuess), (66, pTake), (67, pGive), (64, pShifted), (38, pCut), (68, pBack)]

theorem div_loop {v : List UInt32} {ui qi n N M s : Nat} (hn : v.length = n) (h2 : 2 ≤ n) (htop : 2147483648 ≤ at_ v (n - 1)) (hN : N ≤ 2000000) (hM : M ≤ 2000000) (hne : ui ≠ qi) : ∀ (j : Nat) (u q : List UInt32) (H : Heap), u.length = N → q.length = M → j ≤ M → j + n ≤ N → val (u.drop j) < val v →
    H[ui]? = some (.row 0 1 64 (u.map eu)) → H[qi]? = some (.row 0 1 64 (q.map eu)) →
    ∃ (H' : Heap) (u' q' : List UInt32), LDoes (L45_1 (polT TDvd)) ⟨[.int .i64 (s : Nat), eD (some v), .sl ui 0 0 N N, .sl qi 0 0 M M, .int .i64 ((j : Int) - 1)], []⟩ H 0 ⟨[.int .i64 (s : Nat), .sl ui 0 0 N N, .sl qi 0 0 M M], []⟩ H' ∧
      H'[ui]? = some (.row 0 1 64 (u'.map eu)) ∧ H'[qi]? = some (.row 0 1 64 (q'.map eu)) ∧ u'.length = N ∧ q'.length = M ∧ val u' < val v ∧ val u' + val v * val (q'.take j) = val u ∧ q'.drop j = q.drop j := by
  intro j
  induction j with
  | zero =>
    intro u q H hu hq hjM hjN hinv hHu hHq
    refine ⟨H, u, q, LDoes.step (Evs.of fun n m => ?_), hHu, hHq, hu, hq, by simpa using hinv, by simp [val], rfl⟩
    simp [↓test_bool, ↓withV_of, L45_1_step]
  | succ k ih =>
    intro u q H hu hq hjM hjN hinv hHu hHq
    obtain ⟨hu0, x, b, Q, hg, hx, hQ, hb, hSB, hb1, hb0⟩ := div_digit (u := u) (v := v) (k := k) hn h2 (by omega) htop hinv
    have hgP : guessP (some u) (some v) (k : Nat) := by
      unfold guessP
      simp only [Option.getD_some, Int.toNat_natCast, hn]
      exact ⟨by omega, h2, by omega, by omega, by omega, htop, hu0⟩
    have hG := @kGuessH
    have hgk : ∀ (K : AV → Heap → Option (Nat × Live × Heap)), polK pGuess [.sl ui 0 0 N N, eD (some v), .int .i64 (k : Nat)] H K = K (.int .u64 (x : Nat)) H := fun K => by
      have h := kGuessH (k := K) hHu hgP
      rw [hg, hu] at h
      exact h
    have hat : atRow ⟨ui, u, some v, k, x⟩ H := ⟨hHu, by dsimp only; omega, by simp only [Option.getD_some, hn]; omega⟩
    have hseg : ∀ i : Nat, segS ⟨i, u, some v, k, x⟩ = segS ⟨0, u, some v, k, x⟩ := fun _ => rfl
    have htl := takeS_len x (segS ⟨0, u, some v, k, x⟩) v 0 0
    have hsl : (segS ⟨0, u, some v, k, x⟩).length = n + 1 := by
      unfold segS
      simp only [Option.getD_some, List.length_take, List.length_drop, hn]
      omega
    rw [hsl] at htl
    have htk : ∀ (K : AV → Heap → Option (Nat × Live × Heap)), polK pTake [.sl ui 0 0 N N, eD (some v), .int .i64 (k : Nat), .int .u64 (x : Nat)] H K = K (.bool (decide (b = 1))) (H.set ui (.row 0 1 64 ((putS ⟨0, u, some v, k, x⟩ (takeS x (segS ⟨0, u, some v, k, x⟩) v 0 0).1).map eu))) := fun K => by
      have h := kTake (k := K) hat (by dsimp only; omega)
      dsimp only at h
      rw [hu] at h
      rw [h]
      unfold resTake
      dsimp only [Option.getD_some]
      simp only [hseg, hb]
      rfl
    generalize takeS x (segS ⟨0, u, some v, k, x⟩) v 0 0 = tk at *
    -- what stands in the row: o where the digit is taken
    have put_len : ∀ o : List UInt32, o.length = n + 1 → (putS ⟨0, u, some v, k, x⟩ o).length = N := fun o ho => by
      unfold putS
      simp only [Option.getD_some, List.length_append, List.length_take, List.length_drop, ho, hn]
      omega
    have put_val : ∀ o : List UInt32, o.length = n + 1 → val o + Q * val v = val (u.drop k) → val o < val v → val (putS ⟨0, u, some v, k, x⟩ o) + val v * (4294967296 ^ k * Q) = val u ∧ val ((putS ⟨0, u, some v, k, x⟩ o).drop k) < val v := fun o ho hov hol => by
      have hzz : val (u.drop (k + n + 1)) = 0 := by
        have e := val_drop (l := u.drop (k + 1)) (n := n) (by rw [List.length_drop]; omega)
        rw [List.drop_drop, show k + 1 + n = k + n + 1 by omega] at e
        have hvn : val v < 4294967296 ^ n := by rw [← hn]; exact val_lt v
        rcases Nat.eq_zero_or_pos (val (u.drop (k + n + 1))) with h0 | h0
        · exact h0
        · exfalso
          have : 4294967296 ^ n * 1 ≤ 4294967296 ^ n * val (u.drop (k + n + 1)) := Nat.mul_le_mul_left _ h0
          omega
      have hku : (u.take k).length = k := by rw [List.length_take]; omega
      have hdr : (putS ⟨0, u, some v, k, x⟩ o).drop k = o ++ u.drop (k + n + 1) := by
        unfold putS
        simp only [Option.getD_some, hn]
        rw [List.append_assoc, List.drop_append, List.drop_of_length_le (by omega), hku, Nat.sub_self, List.drop_zero, List.nil_append]
      have hvd : val (o ++ u.drop (k + n + 1)) = val o := by rw [val_append, hzz, Nat.mul_zero, Nat.add_zero]
      refine ⟨?_, by rw [hdr, hvd]; exact hol⟩
      have e1 : val (putS ⟨0, u, some v, k, x⟩ o) = val (u.take k) + 4294967296 ^ k * val o := by
        unfold putS
        simp only [Option.getD_some, hn]
        rw [List.append_assoc, val_append, hku, hvd]
      rw [e1, val_drop (l := u) (n := k) (by omega), ← hov, Nat.mul_add, ← Nat.mul_assoc, Nat.mul_comm (val v), Nat.mul_assoc, Nat.add_assoc, Nat.mul_comm Q]
    have hkq : k < q.length := by omega
    obtain ⟨hdig, o', ho', hov', hol', hwalk⟩ : (if b = 1 then x - 1 else x) = Q ∧ ∃ o' : List UInt32, o'.length = n + 1 ∧ val o' + Q * val v = val (u.drop k) ∧ val o' < val v ∧
        (if b = 1 then ∀ (K : AV → Heap → Option (Nat × Live × Heap)), polK pGive [.sl ui 0 0 N N, eD (some v), .int .i64 (k : Nat)] (H.set ui (.row 0 1 64 ((putS ⟨0, u, some v, k, x⟩ tk.1).map eu))) K = K (.tup []) (H.set ui (.row 0 1 64 ((putS ⟨0, u, some v, k, x⟩ o').map eu))) else o' = tk.1) := by
      by_cases hbb : b = 1
      · obtain ⟨hx1, hv1, hl1⟩ := hb1 hbb
        rw [if_pos hbb]
        refine ⟨by omega, giveS tk.1 v 0, by rw [giveS_len]; exact htl, hv1, hl1, ?_⟩
        rw [if_pos hbb]
        intro K
        have hku : (u.take k).length = k := by rw [List.length_take]; omega
        have hps : segS ⟨ui, putS ⟨0, u, some v, k, x⟩ tk.1, some v, k, x⟩ = tk.1 := by
          unfold segS putS
          simp only [Option.getD_some, hn]
          rw [List.append_assoc, List.drop_append, List.drop_of_length_le (by omega), hku, Nat.sub_self, List.drop_zero, List.nil_append, List.take_append_of_le_length (by omega), List.take_of_length_le (by omega)]
        have hpp : ∀ r, putS ⟨ui, putS ⟨0, u, some v, k, x⟩ tk.1, some v, k, x⟩ r = putS ⟨0, u, some v, k, x⟩ r := fun r => by
          unfold putS
          simp only [Option.getD_some, hn]
          congr 1
          · congr 1
            rw [List.append_assoc, List.take_append_of_le_length (by omega), List.take_of_length_le (by omega)]
          · rw [List.drop_append, List.drop_of_length_le (by simp only [List.length_append]; omega), List.nil_append]
            simp only [List.length_append, hku, htl]
            rw [show k + n + 1 - (k + (n + 1)) = 0 by omega, List.drop_zero]
        have hat2 : atRow ⟨ui, putS ⟨0, u, some v, k, x⟩ tk.1, some v, k, x⟩ (H.set ui (.row 0 1 64 ((putS ⟨0, u, some v, k, x⟩ tk.1).map eu))) := ⟨row_set hHu, by dsimp only; rw [put_len _ htl]; exact hN, by simp only [Option.getD_some, hn]; rw [put_len _ htl]; omega⟩
        have h := kGive (k := K) hat2
        dsimp only at h
        rw [put_len _ htl] at h
        rw [h]
        unfold resGive
        dsimp only [Option.getD_some]
        rw [hps, hpp, List.set_set]
      · obtain ⟨hx0, hv0, hl0⟩ := hb0 hbb
        rw [if_neg hbb]
        refine ⟨hx0, tk.1, htl, hv0, hl0, ?_⟩
        rw [if_neg hbb]
    obtain ⟨hval, hdrop⟩ := put_val o' ho' hov' hol'
    have hH1q : (H.set ui (.row 0 1 64 ((putS ⟨0, u, some v, k, x⟩ o').map eu)))[qi]? = some (.row 0 1 64 (q.map eu)) := by rw [get_set_ne hne]; exact hHq
    obtain ⟨r1, r2, r3⟩ := lrow (k := .i64) (n := M) (j := k) (i := (k : Int)) hH1q hq.symm hkq rfl
    have hst := r3 (UInt32.ofNat Q)
    have hHu2 : ((H.set ui (.row 0 1 64 ((putS ⟨0, u, some v, k, x⟩ o').map eu))).set qi (.row 0 1 64 ((q.set k (UInt32.ofNat Q)).map eu)))[ui]? = some (.row 0 1 64 ((putS ⟨0, u, some v, k, x⟩ o').map eu)) := by
      rw [get_set_ne (Ne.symm hne)]
      exact row_set hHu
    obtain ⟨H', u', q', hL, s1, s2, s3, s4, s5, s6, s7⟩ := ih (putS ⟨0, u, some v, k, x⟩ o') (q.set k (UInt32.ofNat Q)) _ (put_len o' ho') (by rw [List.length_set, hq]) (by omega) (by omega) hdrop hHu2 (row_set hH1q)
    have hkq' : k < q'.length := by omega
    have hqk : q'[k] = UInt32.ofNat Q := by
      have e : (q'.drop k)[0]? = ((q.set k (UInt32.ofNat Q)).drop k)[0]? := by rw [s7]
      rw [List.getElem?_drop, List.getElem?_drop, Nat.add_zero, List.getElem?_eq_getElem hkq', List.getElem?_set_self hkq] at e
      exact Option.some.inj e
    refine ⟨H', u', q', ?_, s1, s2, s3, s4, s5, ?_, ?_⟩
    · refine LDoes.step (Evs.withL hL (Evs.of fun n' m _ h3 => ?_))
      have hj1 : ((k + 1 : Nat) : Int) - 1 = (k : Nat) := by omega
      rw [hj1]
      have hk0 : (0 : Int) ≤ (k : Int) := by omega
      have hw : IntKind.wrap .u32 (Q : Int) = ((UInt32.ofNat Q).toNat : Int) := wrap_nat32 Q
      simp only [List.map_set] at h3 hst
      generalize UInt32.ofNat Q = dq at *
      by_cases hbb : b = 1
      · rw [if_pos hbb] at hwalk hdig
        have hxQ : (x : Int) - 1 = (Q : Int) := by
          have := (hb1 hbb).1
          omega
        generalize (putS ⟨0, u, some v, k, x⟩ o').map eu = row1 at *
        generalize (putS ⟨0, u, some v, k, x⟩ tk.1).map eu = row0 at *
        clear ih hL put_len put_val hG hb0 hb1 hat r3
        simp (disch := omega) [↓test_bool, ↓bindV_eq, ↓withV_of, ↓withH_some, ↓bindX_some, L45_1_step, hk0, hgk, htk, hbb, hwalk, hxQ, wrap_u64, wrap_i64, cv_64_32, hw, r1, hst, h3]
      · rw [if_neg hbb] at hwalk hdig
        subst hwalk
        subst hdig
        generalize (putS ⟨0, u, some v, k, x⟩ tk.1).map eu = row0 at *
        clear ih hL put_len put_val hG hb0 hb1 hat r3
        simp (disch := omega) [↓test_bool, ↓bindV_eq, ↓withV_of, ↓withH_some, ↓bindX_some, L45_1_step, hk0, hgk, htk, hbb, wrap_i64, cv_64_32, hw, r1, hst, h3]
    · rw [val_take_succ hkq', hqk, limb_of, Nat.mod_eq_of_lt hQ, Nat.mul_add, ← Nat.add_assoc, s6]
      exact hval
    · have e1 : q'.drop (k + 1) = (q'.drop k).drop 1 := by rw [List.drop_drop]
      have e2 : q.drop (k + 1) = ((q.set k (UInt32.ofNat Q)).drop k).drop 1 := by rw [List.drop_drop, List.drop_set_of_lt (by omega)]
      rw [e1, e2, s7]
end Go.Proofs.YtikkpecdkdgmfaaDoor

/- Numbers of any size: long division, as an entry. -/
set_option maxRecDepth 100000
set_option maxHeartbeats 2000000
namespace Go.Proofs.YtikkpecdkdgmfaaDoor
open Go Go.Den

theorem shr_u32 {P : Program} {t : TypeId} {c : Bool} {H : Heap} {a s : Nat} {j : IntKind} (h : s ≤ 32) : A.bin P .shr t (.int .u32 (a : Int)) (.int j (s : Int)) c H = some (.int .u32 ((a / 2 ^ s : Nat) : Int)) := by
  simp only [A.bin, A.binInt]
  rw [if_neg (by omega)]
  have : min (s : Int).toNat (IntKind.bits .u32) = s := by simp [IntKind.bits]; omega
  have e : (2 : Int) ^ s = ((2 ^ s : Nat) : Int) := by push_cast; rfl
  rw [this, e, Int.fdiv_eq_ediv_of_nonneg _ (Int.natCast_nonneg _)]
  rfl
theorem shl_u32 {P : Program} {t : TypeId} {c : Bool} {H : Heap} {a s : Nat} {j : IntKind} (h : s ≤ 32) (hl : 2 ^ s * a < 4294967296) : A.bin P .shl t (.int .u32 (a : Int)) (.int j (s : Int)) c H = some (.int .u32 ((2 ^ s * a : Nat) : Int)) := by
  rw [Nat.mul_comm] at hl ⊢
  simp only [A.bin, A.binInt]
  rw [if_neg (by omega)]
  have : min (s : Int).toNat (IntKind.bits .u32) = s := by simp [IntKind.bits]; omega
  rw [this]
  have e : (a : Int) * 2 ^ s = ((a * 2 ^ s : Nat) : Int) := by push_cast; rfl
  rw [e, wrap_u32 (by omega) (by omega)]

theorem shift_loop {pol : FuncId → Pol} {a0 : AV} {d : Option (List UInt32)} {n : Nat} (hn : (d.getD []).length = n) (h1 : 1 ≤ n) (hnb : n ≤ 2000000) (ht : at_ (d.getD []) (n - 1) ≠ 0) (H : Heap) : ∀ (f s : Nat), s + f = 32 → 2 ^ s * at_ (d.getD []) (n - 1) < 4294967296 →
    ∃ s', s' ≤ 31 ∧ 2147483648 ≤ 2 ^ s' * at_ (d.getD []) (n - 1) ∧ 2 ^ s' * at_ (d.getD []) (n - 1) < 4294967296 ∧ LDoes (L45_0 pol) ⟨[a0, eD d, .int .i64 (s : Nat)], []⟩ H 0 ⟨[a0, eD d, .int .i64 (s' : Nat)], []⟩ H := by
  intro f
  induction f with
  | zero =>
    intro s hs hlt
    exfalso
    have : s = 32 := by omega
    subst this
    omega
  | succ f ih =>
    intro s hs hlt
    have i1 : A.idx 1 (eD d) (.int .i64 ((n : Int) - 1)) H = some (.rop [.int .u32 (at_ (d.getD []) (n - 1) : Nat)]) := by
      rw [show (n : Int) - 1 = ((n - 1 : Nat) : Int) by omega]
      exact at_idx (d := d) (by omega) H
    have hshl : A.bin base.P .shl 64 (.int .u32 (at_ (d.getD []) (n - 1) : Int)) (.int .i64 (s : Int)) false H = some (.int .u32 ((2 ^ s * at_ (d.getD []) (n - 1) : Nat) : Int)) := shl_u32 (by omega) hlt
    have hshr : A.bin base.P .shr 64 (.int .u32 ((2 ^ s * at_ (d.getD []) (n - 1) : Nat) : Int)) (.int .u64 31) true H = some (.int .u32 ((2 ^ s * at_ (d.getD []) (n - 1) / 2 ^ 31 : Nat) : Int)) := shr_u32 (s := 31) (by omega)
    by_cases hc : 2 ^ s * at_ (d.getD []) (n - 1) < 2147483648
    · obtain ⟨s', g1, g2, g3, hL⟩ := ih (s + 1) (by omega) (by rw [Nat.pow_succ, Nat.mul_comm (2 ^ s) 2, Nat.mul_assoc]; omega)
      refine ⟨s', g1, g2, g3, LDoes.step (Evs.withL hL (Evs.of fun n' m _ h3 => ?_))⟩
      have hz : ((2 ^ s * at_ (d.getD []) (n - 1) / 2 ^ 31 : Nat) : Int) = 0 := by
        rw [Nat.div_eq_of_lt (by omega)]; rfl
      rw [hz] at hshr
      generalize ((2 ^ s * at_ (d.getD []) (n - 1) : Nat) : Int) = y at *
      simp only [Int.natCast_add, Int.natCast_one] at h3
      simp (disch := omega) [↓test_bool, ↓withV_of, L45_0_step, hn, wrap_i64, i1, hshl, hshr, h3]
    · refine ⟨s, by omega, by omega, hlt, LDoes.step (Evs.of fun n' m => ?_)⟩
      have hz : ((2 ^ s * at_ (d.getD []) (n - 1) / 2 ^ 31 : Nat) : Int) = 1 := by
        have : 2 ^ s * at_ (d.getD []) (n - 1) / 2 ^ 31 = 1 := by omega
        rw [this]; rfl
      rw [hz] at hshr
      generalize ((2 ^ s * at_ (d.getD []) (n - 1) : Nat) : Int) = y at *
      simp (disch := omega) [↓test_bool, ↓withV_of, L45_0_step, hn, wrap_i64, i1, hshl, hshr]

/-- What was shifted is as long as it was, and its top limb is great. -/
theorem norm_top {b : List UInt32} {n s : Nat} (hn : b.length = n) (h1 : 1 ≤ n) (hs : s ≤ 31) (hlo : 2147483648 ≤ 2 ^ s * at_ b (n - 1)) (hhi : 2 ^ s * at_ b (n - 1) < 4294967296) :
    (lim (2 ^ s * val b)).length = n ∧ 2147483648 ≤ at_ (lim (2 ^ s * val b)) (n - 1) ∧ 2147483648 * 4294967296 ^ (n - 1) ≤ 2 ^ s * val b := by
  obtain ⟨m, rfl⟩ : ∃ m, n = m + 1 := ⟨n - 1, by omega⟩
  rw [show m + 1 - 1 = m from rfl] at *
  have hb : val b = val (b.take m) + 4294967296 ^ m * at_ b m := by rw [← val_at, List.take_of_length_le (by omega)]
  have hbt := val_take_lt b m
  have hsp := pow_split hs
  have hP : 0 < 2 ^ s := Nat.pow_pos (by omega)
  have htop : 2 ^ s * (at_ b m + 1) ≤ 4294967296 := by
    rw [← hsp] at hhi ⊢
    have := Nat.lt_of_mul_lt_mul_left hhi
    exact Nat.mul_le_mul_left _ this
  have hge : 2147483648 * 4294967296 ^ m ≤ 2 ^ s * val b := by
    rw [hb, Nat.mul_add, Nat.mul_left_comm]
    have : 4294967296 ^ m * 2147483648 ≤ 4294967296 ^ m * (2 ^ s * at_ b m) := Nat.mul_le_mul_left _ hlo
    rw [Nat.mul_comm 2147483648]
    exact Nat.le_trans this (Nat.le_add_left _ _)
  have hlt : 2 ^ s * val b < 4294967296 ^ (m + 1) := by
    have h2 : val b < 4294967296 ^ m * (at_ b m + 1) := by rw [hb, Nat.mul_add, Nat.mul_one]; omega
    have h3 : 2 ^ s * val b < 2 ^ s * (4294967296 ^ m * (at_ b m + 1)) := Nat.mul_lt_mul_of_pos_left h2 hP
    have h4 : 2 ^ s * (4294967296 ^ m * (at_ b m + 1)) ≤ 4294967296 ^ (m + 1) := by
      rw [Nat.mul_left_comm, Nat.pow_succ]
      exact Nat.mul_le_mul_left _ htop
    exact Nat.lt_of_lt_of_le h3 h4
  have hle : (lim (2 ^ s * val b)).length ≤ m + 1 := lim_le.2 hlt
  have hat : 2147483648 ≤ at_ (lim (2 ^ s * val b)) m := by
    have e : val (lim (2 ^ s * val b)) = val ((lim (2 ^ s * val b)).take m) + 4294967296 ^ m * at_ (lim (2 ^ s * val b)) m := by rw [← val_at, List.take_of_length_le hle]
    rw [val_lim] at e
    have h4 := val_take_lt (lim (2 ^ s * val b)) m
    have h5 : 4294967296 ^ m * 2147483648 < 4294967296 ^ m * (at_ (lim (2 ^ s * val b)) m + 1) := by
      rw [Nat.mul_add, Nat.mul_one, Nat.mul_comm _ 2147483648]
      omega
    have := Nat.lt_of_mul_lt_mul_left h5
    omega
  refine ⟨?_, hat, hge⟩
  rcases Nat.lt_or_ge (lim (2 ^ s * val b)).length (m + 1) with h | h
  · rw [at_out (by omega)] at hat
    omega
  · omega

def dividedS (a b : Option (List UInt32)) : List UInt32 × List UInt32 := (digs ((a.getD []).length - (b.getD []).length + 1) (val (a.getD []) / val (b.getD [])), digs ((a.getD []).length + 1) (val (a.getD []) % val (b.getD [])))
def dividedP (a b : Option (List UInt32)) : Prop := 2 ≤ (b.getD []).length ∧ (b.getD []).length ≤ (a.getD []).length ∧ (a.getD []).length ≤ 900000 ∧ at_ (b.getD []) ((b.getD []).length - 1) ≠ 0
noncomputable def pDivided : Pol := .still (p2 cD cD (fun r : List UInt32 × List UInt32 => .tup [eD (some r.1), eD (some r.2)]) dividedP dividedS)

theorem quot_val {A B V U q r p : Nat} (hp : 0 < p) (hV : V = p * B) (hU : U = p * A) (h : r + V * q = U) (hr : r < V) : q = A / B ∧ r / p = A % B := by
  subst hV hU
  have hB : 0 < p * B := by omega
  have h1 : (p * A) / (p * B) = q := by
    rw [← h, Nat.add_mul_div_left _ _ hB, Nat.div_eq_of_lt hr, Nat.zero_add]
  have h2 : (p * A) % (p * B) = r := by
    rw [← h, Nat.add_mul_mod_self_left, Nat.mod_eq_of_lt hr]
  rw [Nat.mul_div_mul_left _ _ hp] at h1
  rw [Nat.mul_mod_mul_left] at h2
  exact ⟨h1.symm, by rw [← h2, Nat.mul_div_cancel_left _ hp]⟩
theorem frz_two {H : Heap} {id n : Nat} {ty : TypeId} {l : List UInt32} {d : Option (List UInt32)} (h : H[id]? = some (.row 0 1 ty (l.map eu))) (hn : n = l.length) : A.freezeB true 64 H (.tup [.sl id 0 0 n n, eD d]) = some (.tup [eD (some l), eD d]) := by
  have h1 : A.freezeB true 63 H (.sl id 0 0 n n) = _ := frz_limbs h hn 61
  have h2 : A.freezeB true 63 H (eD d) = some (eD d) := (imm_frz (v := eD d) (by simp) 60 H).1
  rw [freeze_tup64]
  simp [h1, h2]

theorem okDivided : PolOK base 45 pDivided := still2 base_ok TDvd ⟨okGuess, okTake, okGive, okShifted, okCut, okBack, trivial⟩ fun a b ⟨h2, hab, hla, htop⟩ => by
  obtain ⟨n, hn⟩ : ∃ n, (b.getD []).length = n := ⟨_, rfl⟩
  obtain ⟨la, hal⟩ : ∃ n, (a.getD []).length = n := ⟨_, rfl⟩
  rw [hn, hal] at hab
  rw [hn] at h2 htop
  rw [hal] at hla
  have fa : few a := by unfold few; omega
  have fb : few b := by unfold few; omega
  obtain ⟨s, hs, hlo, hhi, hL0⟩ := shift_loop (pol := polT TDvd) (a0 := eD a) (d := b) (n := n) hn (by omega) (by omega) htop [] 32 0 rfl (by have := at_lt (b.getD []) (n - 1); omega)
  obtain ⟨hvl, hvt, hvV⟩ := norm_top hn (by omega) hs hlo hhi
  have hps : 0 < 2 ^ s := Nat.pow_pos (by omega)
  have hp31 := pow_small hs
  have sh_val : ∀ l : List UInt32, val (shiftedL l s) = 2 ^ s * val l := fun l => by
    unfold shiftedL
    refine val_digs_lt ?_
    have := val_lt l
    rw [Nat.pow_succ, Nat.mul_comm _ 4294967296]
    exact Nat.lt_of_lt_of_le (Nat.mul_lt_mul_of_pos_left this hps) (Nat.mul_le_mul_right _ (by omega))
  have sh_len : ∀ l : List UInt32, (shiftedL l s).length = l.length + 1 := fun l => by unfold shiftedL; rw [digs_length]
  -- what it is divided by
  obtain ⟨G, hcut⟩ : ∃ G : Heap, ∀ (k : AV → Heap → Option AV), polK pCut [.sl 0 0 0 (n + 1) (n + 1)] [.row 0 1 64 ((shiftedL (b.getD []) s).map eu)] k = k (eD (some (lim (2 ^ s * val (b.getD []))))) G := ⟨_, fun k => by
    unfold pCut
    have hf : freezeAll [.row 0 1 64 ((shiftedL (b.getD []) s).map eu)] [.sl 0 0 0 (n + 1) (n + 1)] = some [eD (some (shiftedL (b.getD []) s))] := freezeAll_cons (frz_limbs (l := shiftedL (b.getD []) s) rfl (by rw [sh_len, hn]) 62) rfl
    rw [polK_frz hf]
    simp only [p1_app, dec_cD, Option.bind_some]
    rw [if_pos (by unfold few; rw [Option.getD_some, sh_len]; omega)]
    unfold cutS
    rw [Option.map_some, sh_val]
    rfl⟩
  have hV : val (lim (2 ^ s * val (b.getD []))) = 2 ^ s * val (b.getD []) := val_lim _
  generalize lim (2 ^ s * val (b.getD [])) = v at *
  -- the digits
  obtain ⟨M, hM⟩ : ∃ M, M = la - n + 1 := ⟨_, rfl⟩
  have hmk : A.makeSlice 1 4 64 (.int .u32 0) (.int .i64 ((la : Int) - (n : Int) + 1)) (.int .i64 ((la : Int) - (n : Int) + 1)) (G ++ [.row 0 1 64 ((shiftedL (a.getD []) s).map eu)]) = some (.sl (G.length + 1) 0 0 M M, G ++ [.row 0 1 64 ((shiftedL (a.getD []) s).map eu)] ++ [.row 0 1 64 ((List.replicate M (0 : UInt32)).map eu)]) := by
    rw [show (la : Int) - (n : Int) + 1 = ((M : Nat) : Int) by omega, row_make (bytes := 4) (l := ((M : Nat) : Int)) (by omega) (by omega) (by omega)]
    simp
  have hinv : val ((shiftedL (a.getD []) s).drop M) < val v := by
    have e := val_drop (l := shiftedL (a.getD []) s) (n := M) (by rw [sh_len, hal]; omega)
    rw [sh_val] at e
    have h3 := val_lt (a.getD [])
    rw [hal] at h3
    have h4 : 4294967296 ^ M * val ((shiftedL (a.getD []) s).drop M) < 4294967296 ^ M * (2147483648 * 4294967296 ^ (n - 1)) := by
      have e1 : 4294967296 ^ M * (2147483648 * 4294967296 ^ (n - 1)) = 2147483648 * 4294967296 ^ la := by
        rw [Nat.mul_left_comm, ← Nat.pow_add, show M + (n - 1) = la by omega]
      rw [e1]
      have h5 : 2 ^ s * val (a.getD []) < 2 ^ s * 4294967296 ^ la := Nat.mul_lt_mul_of_pos_left h3 hps
      have h6 : 2 ^ s * 4294967296 ^ la ≤ 2147483648 * 4294967296 ^ la := Nat.mul_le_mul_right _ hp31
      generalize 4294967296 ^ M * val ((shiftedL (a.getD []) s).drop M) = X at *
      omega
    have := Nat.lt_of_mul_lt_mul_left h4
    rw [hV]
    omega
  obtain ⟨H', u', q', hL, s1, s2, s3, s4, s5, s6, -⟩ := div_loop (v := v) (ui := G.length) (qi := G.length + 1) (n := n) (N := la + 1) (M := M) (s := s) hvl h2 hvt (by omega) (by omega) (by omega) M (shiftedL (a.getD []) s) (List.replicate M 0) (G ++ [.row 0 1 64 ((shiftedL (a.getD []) s).map eu)] ++ [.row 0 1 64 ((List.replicate M (0 : UInt32)).map eu)])
    (by rw [sh_len, hal]) (by simp) (Nat.le_refl _) (by omega) hinv (by simp) (by simp)
  rw [List.take_of_length_le (by omega), sh_val] at s6
  obtain ⟨hq, hr⟩ := quot_val hps hV rfl s6 s5
  have hbk : ∀ (k : AV → Heap → Option AV), polK pBack [.sl G.length 0 0 (la + 1) (la + 1), .int .i64 (s : Nat)] H' k = k (eD (some (digs (la + 1) (val (a.getD []) % val (b.getD []))))) (H'.set G.length .dead) := fun k => by
    have h := kBackH (k := k) (s := s) s1 (by omega) hs
    rw [s3, hr] at h
    exact h
  have hfz : A.freezeB true 64 (H'.set G.length .dead) (.tup [.sl (G.length + 1) 0 0 M M, eD (some (digs (la + 1) (val (a.getD []) % val (b.getD []))))]) = some (.tup [eD (some q'), eD (some (digs (la + 1) (val (a.getD []) % val (b.getD []))))]) :=
    frz_two (by rw [get_set_ne (by omega)]; exact s2) s4.symm
  have hqd : q' = digs M (val (a.getD []) / val (b.getD [])) := eq_digs s4 hq
  refine Evs.withL hL0 (Evs.withL hL (Evs.of fun n' m g3 _ g0 _ => ?_))
  unfold dividedS
  dsimp only
  rw [hal, hn, ← hM, ← hqd]
  have hM1 : (M : Int) - 1 = (la : Int) - (n : Int) := by omega
  rw [hM1] at g3
  have e0 : ((0 : Nat) : Int) = 0 := rfl
  simp only [e0] at g0
  have hsh1 : ∀ (k : AV → Heap → Option AV), polK pShifted [eD b, .int .i64 (s : Nat)] [] k = k (.sl 0 0 0 (n + 1) (n + 1)) [.row 0 1 64 ((shiftedL (b.getD []) s).map eu)] := fun k => by
    rw [kShifted fb hs, hn]
    rfl
  have hsh2 : ∀ (k : AV → Heap → Option AV), polK pShifted [eD a, .int .i64 (s : Nat)] G k = k (.sl G.length 0 0 (la + 1) (la + 1)) (G ++ [.row 0 1 64 ((shiftedL (a.getD []) s).map eu)]) := fun k => by
    rw [kShifted fa hs, hal]
  generalize digs (la + 1) (val (a.getD []) % val (b.getD [])) = rd at *
  generalize G ++ [.row 0 1 64 ((shiftedL (a.getD []) s).map eu)] ++ [.row 0 1 64 ((List.replicate M (0 : UInt32)).map eu)] = H7 at *
  generalize G ++ [.row 0 1 64 ((shiftedL (a.getD []) s).map eu)] = H6 at *
  generalize [HObj.row 0 1 64 ((shiftedL (b.getD []) s).map eu)] = H2 at *
  simp (disch := omega) [↓bindV_eq, ↓withV_of, ↓withVH_some, ↓bindX_some, S45, g0, hsh1, hcut, hsh2, hal, hn, wrap_i64, hmk, g3, hbk, hfz]
end Go.Proofs.YtikkpecdkdgmfaaDoor

/- Numbers of any size: quotients. -/
set_option maxRecDepth 100000
set_option maxHeartbeats 2000000
namespace Go.Proofs.YtikkpecdkdgmfaaDoor
open Go Go.Den

theorem kDivided {R : Type} {a b : Option (List UInt32)} (h : dividedP a b) {H : Heap} {k : AV → Heap → Option R} : polK pDivided [eD a, eD b] H k = k (.tup [eD (some (dividedS a b).1), eD (some (dividedS a b).2)]) H := by
  simp [pDivided, polK_imm, h]
theorem qDivided {R : Type} {a b : Option (List UInt32)} (h : dividedP a b) {H : Heap} {k : AV → Heap → Option R} : polQ pDivided [eD a, eD b] H k = k (.tup [eD (some (dividedS a b).1), eD (some (dividedS a b).2)]) H := by
  simp [pDivided, polQ_imm, h]
noncomputable def pDiv : Pol := .still (p2 cN cN eDiv (fun a b => lot a.2 ∧ lot b.2) divS)
noncomputable abbrev TDiv : List (FuncId × Pol) := [(38, pCut), (44, pSize), (19, pNorm), (36, pByOne), (34, pMade), (45, pDivided)]
theorem okDiv : PolOK base 21 pDiv := still2 base_ok TDiv ⟨okCut, okSize, okNorm, okByOne, okMade, okDivided, trivial⟩ fun a b ⟨la, lb⟩ => by
  refine Evs.of fun n m => ?_
  have ha := la.few
  have hb := lb.few
  have ga : (cutS a.2).getD [] = lim (mag a) := cutS_get
  have gb : (cutS b.2).getD [] = lim (mag b) := cutS_get
  have fa := few_cut ha
  have fb := few_cut hb
  have hsz : sizeS (cutS a.2) (cutS b.2) = cmpN (mag a) (mag b) := sizeS_lim ga gb
  unfold divS
  by_cases hB : mag b = 0
  · rw [if_pos hB]
    have gb0 : (cutS b.2).getD [] = [] := by rw [gb, hB, lim_zero]
    simp [↓test_bool, ↓bindV_eq, ↓bindC_eq, ↓bindH_eq, ↓withV_of, ↓chkD_true, S21, qCut ha, qCut hb, A.ofList, gb0, A.fill, A.fits, A.splice]
    exact frz_nnb (d := none) (e := none)
  · rw [if_neg hB]
    have hne : lim (mag b) ≠ [] := fun e => hB (lim_nil.1 e)
    have hl0 : ¬ ((lim (mag b)).length : Int) = 0 := by
      have : lim (mag b) ≠ [] := fun e => hB (lim_nil.1 e)
      have := List.length_pos_iff.2 this
      omega
    by_cases hlt : mag a < mag b
    · rw [if_pos hlt]
      have hc : cmpN (mag a) (mag b) < 0 := by unfold cmpN cmpI; rw [if_pos (by omega)]; omega
      simp [↓test_bool, ↓bindV_eq, ↓bindC_eq, ↓bindH_eq, ↓withV_of, ↓chkD_true, S21, qCut ha, qCut hb, A.ofList, gb, hne, kSize fa fb, hsz, hc, kNorm ha, A.fill, A.fits, A.splice]
      exact frz_nnb (d := none)
    · rw [if_neg hlt]
      have hc : ¬ cmpN (mag a) (mag b) < 0 := by
        unfold cmpN cmpI
        rw [if_neg (by omega)]
        split <;> omega
      by_cases hl : (lim (mag b)).length = 1
      · have hl1 : ((lim (mag b)).length : Int) = 1 := by omega
        have hb32 : mag b < 4294967296 := by
          have := lim_le.1 (Nat.le_of_eq hl)
          simpa using this
        have hy : lim (mag b) = [UInt32.ofNat (mag b)] := by
          rw [lim_pos hB, Nat.div_eq_of_lt hb32, lim_zero]
        have hyn : (UInt32.ofNat (mag b)).toNat = mag b := by rw [limb_of, Nat.mod_eq_of_lt hb32]
        have hx : A.idx 1 (eD (cutS b.2)) (.int .i64 0) [] = some (.rop [eu (UInt32.ofNat (mag b))]) := by
          have h := idx_eD (d := cutS b.2) (H := []) (k := .i64) (i := 0) (by rw [gb, hl]; omega)
          have e : ((cutS b.2).getD [])[0]'(by rw [gb, hl]; omega) = UInt32.ofNat (mag b) := by
            have : (cutS b.2).getD [] = [UInt32.ofNat (mag b)] := by rw [gb, hy]
            simp only [this]
            rfl
          rw [e] at h
          exact h
        have hby : byOneS (cutS a.2) (UInt32.ofNat (mag b)) = (some (digs (lim (mag a)).length (mag a / mag b)), UInt32.ofNat (mag a % mag b)) := by
          unfold byOneS
          rw [ga, val_lim, hyn]
        have hk : ∀ (H : Heap) (k : AV → Heap → Option AV), polK pByOne [eD (cutS a.2), eu (UInt32.ofNat (mag b))] H k = k (.tup [eD (some (digs (lim (mag a)).length (mag a / mag b))), eu (UInt32.ofNat (mag a % mag b))]) H := fun H k => by
          rw [kByOne fa (by rw [hyn]; exact hB), hby]
        obtain ⟨p, hp⟩ : ∃ p, (a.1 != b.1) = p := ⟨_, rfl⟩
        have hbin : ∀ H, A.bin base.P .neq 4 (.bool a.1) (.bool b.1) false H = some (.bool p) := fun H => by rw [A.bin_bne ty_bool, ← hp]; rfl
        have hq : madeS p (some (digs (lim (mag a)).length (mag a / mag b))) = madeS p (some (lim (mag a / mag b))) := made_val (by
          rw [val_lim]
          refine val_digs_lt ?_
          have := lim_le.1 (Nat.le_refl (lim (mag a)).length)
          exact Nat.lt_of_le_of_lt (Nat.div_le_self _ _) this)
        have hrm : mag a % mag b < mag b := Nat.mod_lt _ (by omega)
        have hr : madeS a.1 (some [UInt32.ofNat (mag a % mag b)]) = madeS a.1 (some (lim (mag a % mag b))) := made_val (by
          rw [val_lim, val, val, limb_of, Nat.mod_eq_of_lt (by omega), Nat.mul_zero, Nat.add_zero])
        have fq : few (some (digs (lim (mag a)).length (mag a / mag b))) := by
          unfold few
          simp only [Option.getD_some, digs_length]
          have := lot_cut la
          unfold lot at this
          rw [ga] at this
          omega
        generalize UInt32.ofNat (mag a % mag b) = r at *
        generalize UInt32.ofNat (mag b) = y at *
        generalize digs (lim (mag a)).length (mag a / mag b) = q at *
        have hfz : freezeAll [.row 0 1 64 [eu r]] [.bool a.1, .sl 0 0 0 1 1] = some [.bool a.1, eD (some [r])] := freezeAll_bool (freezeAll_cons (frz_limbs (l := [r]) rfl rfl 62) rfl)
        obtain ⟨G, hm⟩ : ∃ G : Heap, ∀ (k : AV → Heap → Option AV), polK pMade [.bool a.1, .sl 0 0 0 1 1] [.row 0 1 64 [eu r]] k = k (eN (madeS a.1 (some [r]))) G := ⟨_, fun k => by
          unfold pMade
          rw [polK_frz hfz]
          simp only [p2_app, dec_cB, dec_cD, Option.bind_some]
          rw [if_pos (by simp [few])]
          rfl⟩
        rw [hp, ← hq, ← hr]
        have hone := fillElems_one (eu r) (.int .u32 0) rfl rfl
        have hqm : ∀ (H : Heap) (k : AV → Heap → Option AV), polQ pMade [.bool p, eD (some q)] H k = k (eN (madeS p (some q))) H := fun H k => qMade fq
        generalize madeS p (some q) = M at *
        generalize madeS a.1 (some [r]) = N at *
        obtain ⟨M1, M2⟩ := M
        obtain ⟨N1, N2⟩ := N
        simp [↓test_bool, ↓bindV_eq, ↓bindC_eq, ↓bindH_eq, ↓withV_of, ↓withL_some, ↓chkD_true, S21, qCut ha, qCut hb, A.ofList, gb, hl1, kSize fa fb, hsz, hc, hx, hk, hbin, hqm, hone, hm, A.fill, A.fits, A.splice]
      · have hl1 : ¬ ((lim (mag b)).length : Int) = 1 := by omega
        have hge : mag b ≤ mag a := by omega
        have hlab : (lim (mag b)).length ≤ (lim (mag a)).length := by
          refine lim_le.2 (Nat.lt_of_le_of_lt hge ?_)
          exact lim_le.1 (Nat.le_refl _)
        have hlot : (lim (mag a)).length ≤ 900000 := by
          have := lot_cut la
          unfold lot at this
          rw [ga] at this
          exact this
        have htop : at_ (lim (mag b)) ((lim (mag b)).length - 1) ≠ 0 := by
          obtain ⟨x, hx, hx0⟩ := lim_last hB
          have hlt' : (lim (mag b)).length - 1 < (lim (mag b)).length := by omega
          rw [List.getLast?_eq_getElem?, List.getElem?_eq_getElem hlt'] at hx
          unfold at_
          rw [dif_pos hlt', Option.some.inj hx]
          exact fun e => hx0 (UInt32.toNat_inj.1 e)
        have hdP : dividedP (cutS a.2) (cutS b.2) := by
          unfold dividedP
          rw [ga, gb]
          exact ⟨by omega, hlab, hlot, htop⟩
        have hS : dividedS (cutS a.2) (cutS b.2) = (digs ((lim (mag a)).length - (lim (mag b)).length + 1) (mag a / mag b), digs ((lim (mag a)).length + 1) (mag a % mag b)) := by
          unfold dividedS
          rw [ga, gb, val_lim, val_lim]
        have hk : ∀ (H : Heap) (k : AV → Heap → Option AV), polK pDivided [eD (cutS a.2), eD (cutS b.2)] H k = k (.tup [eD (some (digs ((lim (mag a)).length - (lim (mag b)).length + 1) (mag a / mag b))), eD (some (digs ((lim (mag a)).length + 1) (mag a % mag b)))]) H := fun H k => by
          rw [kDivided hdP, hS]
        obtain ⟨p, hp⟩ : ∃ p, (a.1 != b.1) = p := ⟨_, rfl⟩
        have hbin : ∀ H, A.bin base.P .neq 4 (.bool a.1) (.bool b.1) false H = some (.bool p) := fun H => by rw [A.bin_bne ty_bool, ← hp]; rfl
        have hqlt : mag a / mag b < 4294967296 ^ ((lim (mag a)).length - (lim (mag b)).length + 1) := by
          have h1 := lim_le.1 (Nat.le_refl (lim (mag a)).length)
          have h2 := pow_le_lim hB
          rw [Nat.div_lt_iff_lt_mul (by omega)]
          refine Nat.lt_of_lt_of_le h1 (Nat.le_trans ?_ (Nat.mul_le_mul_left _ h2))
          rw [← Nat.pow_add]
          exact Nat.pow_le_pow_right (by omega) (by omega)
        have hrlt : mag a % mag b < 4294967296 ^ ((lim (mag a)).length + 1) := by
          have h1 := lim_le.1 (Nat.le_refl (lim (mag a)).length)
          have h3 : 4294967296 ^ (lim (mag a)).length ≤ 4294967296 ^ ((lim (mag a)).length + 1) := Nat.pow_le_pow_right (by omega) (by omega)
          exact Nat.lt_of_le_of_lt (Nat.mod_le _ _) (Nat.lt_of_lt_of_le h1 h3)
        have hq : madeS p (some (digs ((lim (mag a)).length - (lim (mag b)).length + 1) (mag a / mag b))) = madeS p (some (lim (mag a / mag b))) := made_val (by rw [val_lim]; exact val_digs_lt hqlt)
        have hr : madeS a.1 (some (digs ((lim (mag a)).length + 1) (mag a % mag b))) = madeS a.1 (some (lim (mag a % mag b))) := made_val (by rw [val_lim]; exact val_digs_lt hrlt)
        have fq : few (some (digs ((lim (mag a)).length - (lim (mag b)).length + 1) (mag a / mag b))) := by
          unfold few
          simp only [Option.getD_some, digs_length]
          omega
        have fr : few (some (digs ((lim (mag a)).length + 1) (mag a % mag b))) := by
          unfold few
          simp only [Option.getD_some, digs_length]
          omega
        rw [hp, ← hq, ← hr]
        generalize digs ((lim (mag a)).length - (lim (mag b)).length + 1) (mag a / mag b) = q at *
        generalize digs ((lim (mag a)).length + 1) (mag a % mag b) = r at *
        have hqm : ∀ (H : Heap) (k : AV → Heap → Option AV), polQ pMade [.bool p, eD (some q)] H k = k (eN (madeS p (some q))) H := fun H k => qMade fq
        have hrm : ∀ (H : Heap) (k : AV → Heap → Option AV), polQ pMade [.bool a.1, eD (some r)] H k = k (eN (madeS a.1 (some r))) H := fun H k => qMade fr
        generalize madeS p (some q) = M at *
        generalize madeS a.1 (some r) = N at *
        obtain ⟨M1, M2⟩ := M
        obtain ⟨N1, N2⟩ := N
        simp [↓test_bool, ↓bindV_eq, ↓bindC_eq, ↓bindH_eq, ↓withV_of, ↓chkD_true, S21, qCut ha, qCut hb, A.ofList, gb, hne, hl1, kSize fa fb, hsz, hc, hk, hbin, hqm, hrm, A.fill, A.fits, A.splice]
theorem kDiv {R : Type} {a b : Nm} (la : lot a.2) (lb : lot b.2) {H : Heap} {k : AV → Heap → Option R} : polK pDiv [eN a, eN b] H k = k (eDiv (divS a b)) H := by
  simp [pDiv, polK_imm, la, lb]
theorem qDiv {R : Type} {a b : Nm} (la : lot a.2) (lb : lot b.2) {H : Heap} {k : AV → Heap → Option R} : polQ pDiv [eN a, eN b] H k = k (eDiv (divS a b)) H := by
  simp [pDiv, polQ_imm, la, lb]
end Go.Proofs.YtikkpecdkdgmfaaDoor

/- The seat's first question: by computation. -/
set_option maxRecDepth 100000
namespace Go.Proofs.YtikkpecdkdgmfaaDoor.awake
open Go Go.Den
/-- The functions that the law reaches. -/
def reached : List FuncId := [9, 13, 16, 19, 20, 34, 36, 37, 38, 39, 40, 41, 53, 54, 55, 56, 57, 58, 59, 60, 61, 71, 72, 73, 74, 75, 76, 77, 78, 79, 82, 83, 84, 85, 88, 89, 90, 92]
noncomputable def env0 : Env := { P := Tryd.prog, pol := fun f => bif Nat.beq f 86 then .prim sameF else bif Nat.beq f 87 then .prim (noZeroF 5) else bif Nat.beq f 93 then .prim indexByteF else .plain, ann := fun _ => {}, glob := fun g => bif Nat.beq g 0 then flatD (H := Unit) Rows.laid_unicode_utf8_first else bif Nat.beq g 1 then flatD (H := Unit) Rows.laid_unicode_utf8_acceptRanges else none }
/-- The places where a function's own variables are laid. -/
def siteTable : List (Nat × List (Nat × Nat × Nat)) := []
def sitesIn : List (Nat × List (Nat × Nat × Nat)) → Nat → List (Nat × Nat × Nat)
  | [], _ => []
  | (g, l) :: r, f => bif Nat.beq g f then l else sitesIn r f
/-- What is said of a function's regions, reckoned off its code. -/
noncomputable def tab (f : FuncId) : FAnn :=
  match Tryd.prog.funcs[f]? with
  | some fn => { depth := Nat.log2 fn.ntmps + 1, sites := sitesIn siteTable f, draws := mkDraws env0 (sitesIn siteTable f) fn }
  | none => {}
noncomputable def env : Env := { env0 with ann := fun f => if f ∈ reached then tab f else {} }

theorem env_ok : EnvOK env := envOK reached (by kernel_rfl) (fun f hf => by show (if f ∈ reached then tab f else {}).draws = []; rw [if_neg hf]) (by kernel_rfl)
theorem prims_ok : ∀ f, env.pol f = .plain ∨ ∃ F, env.pol f = .prim F ∧ PrimOK env f F := fun f => by
  cases h86 : Nat.beq f 86
  case true =>
    obtain rfl := Nat.eq_of_beq_eq_true h86
    exact .inr ⟨sameF, rfl, same_prim (fn := Tryd.f86) Tryd.func86 (by kernel_rfl) (by kernel_rfl) (by kernel_rfl) (by kernel_rfl)⟩
  case false =>
    cases h87 : Nat.beq f 87
    case true =>
      obtain rfl := Nat.eq_of_beq_eq_true h87
      exact .inr ⟨(noZeroF 5), rfl, noZero_prim (t := 83) (ps := #[3]) (ht := by kernel_rfl) (fn := Tryd.f87) Tryd.func87 (by kernel_rfl) (by kernel_rfl) (by kernel_rfl) (by kernel_rfl)⟩
    case false =>
      cases h93 : Nat.beq f 93
      case true =>
        obtain rfl := Nat.eq_of_beq_eq_true h93
        exact .inr ⟨indexByteF, rfl, indexByte_prim (fn := Tryd.f93) Tryd.func93 (by kernel_rfl) (by kernel_rfl) (by kernel_rfl) (by kernel_rfl)⟩
      case false =>
        refine .inl ?_
        show (bif Nat.beq f 86 then Pol.prim sameF else bif Nat.beq f 87 then Pol.prim (noZeroF 5) else bif Nat.beq f 93 then Pol.prim indexByteF else Pol.plain) = _
        simp only [h86, h87, h93, cond_false]
theorem calls_ok (n : Nat) : CallOK env (callF env n) := callF_prims env_ok (by kernel_rfl) prims_ok n
def saysTrue : Option AV → Bool
  | some (.bool true) => true
  | _ => false
theorem says_true {x : Option AV} (h : saysTrue x = true) : x = some (.bool true) := by
  unfold saysTrue at h
  split at h
  · rfl
  · cases h
theorem known : callF env 300 AV 9 [] [] (fun v G => A.freezeB true 64 G v) = some (.bool true) := says_true (by kernel_rfl)
end Go.Proofs.YtikkpecdkdgmfaaDoor.awake
namespace Go.Proofs.YtikkpecdkdgmfaaDoor
open Go Go.Den
noncomputable def pAwake : Pol := .still (Cd.f0 (.bool true))
theorem okAwake : PolOK base 9 pAwake := pure_prim (E := base) (E' := awake.env) rfl rfl awake.calls_ok fun xs v h => by
  unfold Cd.f0 at h
  split at h
  · cases h
    exact ⟨300, awake.known⟩
  · cases h
theorem kAwake {R : Type} {H : Heap} {k : AV → Heap → Option R} : polK pAwake [] H k = k (.bool true) H := by
  unfold pAwake
  rw [polK_imm (by simp)]
  rfl
end Go.Proofs.YtikkpecdkdgmfaaDoor
