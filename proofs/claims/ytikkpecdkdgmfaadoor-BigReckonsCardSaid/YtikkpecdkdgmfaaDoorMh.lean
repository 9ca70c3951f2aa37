/- Texts put together: Big11, Big12, Big13, Big14, Big15, Big16, Big17, Big18, Big19, Big20, Big21, Big22, Big23, Big24, Big25, Big26, Big27, Big28, Big29, Big30, Awake, LawNum. -/
import Derived.Test.YtikkpecdkdgmfaaDoorMg
import Derived.Test.YtikkpecdkdgmfaaDoorRows

/- Numbers of any size: what a step of a long division takes away and gives back. -/
set_option maxRecDepth 100000
set_option maxHeartbeats 2000000
namespace Go.Proofs.YtikkpecdkdgmfaaDoor
open Go Go.Den
theorem and_low {P : Program} {t : TypeId} {c : Bool} {H : Heap} {x : Nat} (h : x < 18446744073709551616) : A.bin P .and t (.int .u64 (x : Int)) (.int .u64 4294967295) c H = some (.int .u64 ((x % 4294967296 : Nat) : Int)) := by
  have key : (BitVec.ofInt 64 (x : Int) &&& BitVec.ofInt 64 4294967295).toNat = x % 4294967296 := by
    rw [BitVec.toNat_and]
    have e : (BitVec.ofInt 64 4294967295).toNat = 2 ^ 32 - 1 := by decide
    rw [e, Nat.and_two_pow_sub_one_eq_mod]
    simp
  simp only [A.bin, decide_true, cond_true, A.binInt, A.bits, Option.map_some]
  rw [show IntKind.bits .u64 = 64 from rfl, key, wrap_u64 (by omega) (by omega)]
theorem drop_head {l : List UInt32} {i : Nat} (h : i < l.length) : (l.drop i).headD 0 = l[i] := by rw [List.drop_eq_getElem_cons h]; rfl
theorem drop_head0 {l : List UInt32} {i : Nat} (h : ¬ i < l.length) : (l.drop i).headD 0 = 0 := by rw [List.drop_eq_nil_of_le (by omega)]; rfl
theorem mid_get {pre rs post : List UInt32} {r : UInt32} {j : Nat} (h : pre.length = j) (hj : j < (pre ++ r :: rs ++ post).length) : (pre ++ r :: rs ++ post)[j] = r := by
  subst h
  simp
theorem mid_set {pre rs post : List UInt32} {r d : UInt32} {j : Nat} (h : pre.length = j) : (pre ++ r :: rs ++ post).set j d = (pre ++ [d]) ++ rs ++ post := by
  subst h
  simp
theorem take_loop {pol : FuncId → Pol} {d : Option (List UInt32)} {id N kk q n : Nat} {post : List UInt32} (hn : (d.getD []).length = n) (hN : N ≤ 2000000) (hq : q ≤ 4294967296) : ∀ (seg pre : List UInt32) (i c b : Nat) (H : Heap), pre.length = kk + i → i + seg.length = n + 1 → N = (pre ++ seg ++ post).length → c < 4294967296 → b ≤ 1 →
    H[id]? = some (.row 0 1 64 ((pre ++ seg ++ post).map eu)) →
    LDoes (L66_0 pol) ⟨[.sl id 0 0 N N, eD d, .int .i64 (kk : Nat), .int .u64 (q : Nat), .int .u64 (c : Nat), .int .u64 (b : Nat), .int .i64 ((n : Int) + 1), .int .i64 (i : Nat)], []⟩ H 0
      ⟨[.int .u64 ((takeS q seg ((d.getD []).drop i) c b).2 : Nat)], []⟩ (H.set id (.row 0 1 64 ((pre ++ (takeS q seg ((d.getD []).drop i) c b).1 ++ post).map eu))) := by
  intro seg
  induction seg with
  | nil =>
    intro pre i c b H hp hi hl hc hb hH
    have : i = n + 1 := by simpa using hi
    subst this
    rw [show (takeS q [] ((d.getD []).drop (n + 1)) c b) = ([], b) from rfl, set_same hH]
    refine LDoes.step (Evs.of fun n m => ?_)
    simp [↓test_bool, ↓withV_of, L66_0_step]
  | cons r rs ih =>
    intro pre i c b H hp hi hl hc hb hH
    simp only [List.length_cons] at hi
    have hlen : pre.length + (rs.length + 1) + post.length = N := by rw [hl]; simp; omega
    have hj : kk + i < (pre ++ r :: rs ++ post).length := by rw [← hl]; omega
    obtain ⟨r1, r2, r3⟩ := lrow (k := .i64) (n := N) (j := kk + i) (i := (kk : Int) + (i : Int)) hH hl hj (by omega)
    rw [mid_get hp hj] at r2
    have hr := limb_lt r
    have hxl := limb_lt (((d.getD []).drop i).headD 0)
    have ht := take_t hq hc hxl
    have htail : ((d.getD []).drop i).tail = (d.getD []).drop (i + 1) := by rw [List.tail_drop]
    have hm := Nat.mod_lt (c + q * (((d.getD []).drop i).headD 0).toNat) (show 0 < 4294967296 by omega)
    have hcar : (c + q * (((d.getD []).drop i).headD 0).toNat) / 4294967296 < 4294967296 := by omega
    have hcastT : (c : Int) + (q : Int) * ((((d.getD []).drop i).headD 0).toNat : Int) = ((c + q * (((d.getD []).drop i).headD 0).toNat : Nat) : Int) := by simp only [Int.natCast_add, Int.natCast_mul]
    have hand : ∀ (t : TypeId) (H : Heap), A.bin base.P .and t (.int .u64 ((c : Int) + (q : Int) * ((((d.getD []).drop i).headD 0).toNat : Int))) (.int .u64 4294967295) true H = some (.int .u64 (((c + q * (((d.getD []).drop i).headD 0).toNat) % 4294967296 : Nat) : Int)) := fun t H => by rw [hcastT]; exact and_low ht
    have hshr : ∀ (t : TypeId) (H : Heap), A.bin base.P .shr t (.int .u64 ((c : Int) + (q : Int) * ((((d.getD []).drop i).headD 0).toNat : Int))) (.int .u64 32) true H = some (.int .u64 (((c + q * (((d.getD []).drop i).headD 0).toNat) / 4294967296 : Nat) : Int)) := fun t H => by rw [hcastT]; exact shr_u64 (s := 32) (by omega)
    have hx1 : i < n → ∀ H, A.idx 1 (eD d) (.int .i64 (i : Int)) H = some (.rop [eu (((d.getD []).drop i).headD 0)]) := fun h H => by
      rw [drop_head (by omega)]
      exact idx_eD (by omega)
    have hx0 : ¬ i < n → ((d.getD []).drop i).headD 0 = 0 := fun h => drop_head0 (by omega)
    have hp0 : (0 : Int) ≤ (q : Int) * ((((d.getD []).drop i).headD 0).toNat : Int) := by rw [← Int.natCast_mul]; omega
    have hp1 : (c : Int) + (q : Int) * ((((d.getD []).drop i).headD 0).toNat : Int) < 18446744073709551616 := by rw [← Int.natCast_mul]; omega
    have hin1 : (i : Int) < (n : Int) + 1 := by omega
    unfold takeS
    rw [htail]
    have ih' := ih (pre := pre ++ [if r.toNat < (c + q * (((d.getD []).drop i).headD 0).toNat) % 4294967296 + b then UInt32.ofNat (r.toNat + 4294967296 - ((c + q * (((d.getD []).drop i).headD 0).toNat) % 4294967296 + b)) else UInt32.ofNat (r.toNat - ((c + q * (((d.getD []).drop i).headD 0).toNat) % 4294967296 + b))]) (i := i + 1)
      (c := (c + q * (((d.getD []).drop i).headD 0).toNat) / 4294967296) (b := if r.toNat < (c + q * (((d.getD []).drop i).headD 0).toNat) % 4294967296 + b then 1 else 0)
      (H.set id (.row 0 1 64 (((pre ++ [if r.toNat < (c + q * (((d.getD []).drop i).headD 0).toNat) % 4294967296 + b then UInt32.ofNat (r.toNat + 4294967296 - ((c + q * (((d.getD []).drop i).headD 0).toNat) % 4294967296 + b)) else UInt32.ofNat (r.toNat - ((c + q * (((d.getD []).drop i).headD 0).toNat) % 4294967296 + b))]) ++ rs ++ post).map eu)))
      (by simp; omega) (by omega) (by rw [← hlen]; simp; omega) hcar (by split <;> omega) (row_set hH)
    rw [List.set_set] at ih'
    have hcn : (d.getD []).length = n := hn
    generalize hX : ((d.getD []).drop i).headD 0 = X at *
    generalize hY : (c + q * X.toNat) % 4294967296 = y at *
    generalize hC : (c + q * X.toNat) / 4294967296 = c' at *
    by_cases hlt : r.toNat < y + b
    · rw [if_pos hlt] at ih' ⊢
      rw [if_pos hlt] at ih'
      have hlt' : (r.toNat : Int) < (y : Int) + (b : Int) := by omega
      have hst := r3 (UInt32.ofNat (r.toNat + 4294967296 - (y + b)))
      rw [mid_set hp] at hst
      have hw : IntKind.wrap .u32 ((r.toNat : Int) + 4294967296 - ((y : Int) + (b : Int))) = ((UInt32.ofNat (r.toNat + 4294967296 - (y + b))).toNat : Int) := by
        rw [show ((r.toNat : Int) + 4294967296 - ((y : Int) + (b : Int))) = ((r.toNat + 4294967296 - (y + b) : Nat) : Int) by omega]
        exact wrap_nat32 _
      generalize UInt32.ofNat (r.toNat + 4294967296 - (y + b)) = dg at *
      rw [List.append_assoc pre [dg]] at ih'
      generalize takeS q rs ((d.getD []).drop (i + 1)) c' 1 = res at *
      refine LDoes.step (Evs.withL ih' (Evs.of fun n' m _ h3 => ?_))
      have e1 : ((1 : Nat) : Int) = 1 := rfl
      simp only [Int.natCast_add, e1, List.map_append, List.map_cons, List.append_assoc, List.cons_append, List.nil_append] at h3 hst
      by_cases hin : i < n
      · have hx := hx1 hin
        clear ih ih' r3 hx1 hx0 hH
        simp (disch := omega) [↓test_bool, ↓bindV_eq, ↓withV_of, ↓withH_some, ↓bindX_some, L66_0_step, hin1, hcn, hin, hx, cv_32_64, cv_64_32, wrap_u64, wrap_i64, r1, r2, hand, hshr, hlt', hw, hst, h3]
      · have hX0 := hx0 hin
        subst hX0
        clear ih ih' r3 hx1 hx0 hH
        have ez : (((0 : UInt32).toNat : Nat) : Int) = 0 := rfl
        rw [ez, Int.mul_zero, Int.add_zero] at hand hshr
        simp (disch := omega) [↓test_bool, ↓bindV_eq, ↓withV_of, ↓withH_some, ↓bindX_some, L66_0_step, hin1, hcn, hin, cv_32_64, cv_64_32, wrap_u64, wrap_i64, r1, r2, hand, hshr, hlt', hw, hst, h3]
    · rw [if_neg hlt] at ih' ⊢
      rw [if_neg hlt] at ih'
      have hlt' : ¬ (r.toNat : Int) < (y : Int) + (b : Int) := by omega
      have hst := r3 (UInt32.ofNat (r.toNat - (y + b)))
      rw [mid_set hp] at hst
      have hw : IntKind.wrap .u32 ((r.toNat : Int) - ((y : Int) + (b : Int))) = ((UInt32.ofNat (r.toNat - (y + b))).toNat : Int) := by
        rw [show ((r.toNat : Int) - ((y : Int) + (b : Int))) = ((r.toNat - (y + b) : Nat) : Int) by omega]
        exact wrap_nat32 _
      generalize UInt32.ofNat (r.toNat - (y + b)) = dg at *
      rw [List.append_assoc pre [dg]] at ih'
      generalize takeS q rs ((d.getD []).drop (i + 1)) c' 0 = res at *
      refine LDoes.step (Evs.withL ih' (Evs.of fun n' m _ h3 => ?_))
      have e1 : ((0 : Nat) : Int) = 0 := rfl
      have e2 : ((1 : Nat) : Int) = 1 := rfl
      simp only [Int.natCast_add, e1, e2, List.map_append, List.map_cons, List.append_assoc, List.cons_append, List.nil_append] at h3 hst
      by_cases hin : i < n
      · have hx := hx1 hin
        clear ih ih' r3 hx1 hx0 hH
        simp (disch := omega) [↓test_bool, ↓bindV_eq, ↓withV_of, ↓withH_some, ↓bindX_some, L66_0_step, hin1, hcn, hin, hx, cv_32_64, cv_64_32, wrap_u64, wrap_i64, r1, r2, hand, hshr, hlt', hw, hst, h3]
      · have hX0 := hx0 hin
        subst hX0
        clear ih ih' r3 hx1 hx0 hH
        have ez : (((0 : UInt32).toNat : Nat) : Int) = 0 := rfl
        rw [ez, Int.mul_zero, Int.add_zero] at hand hshr
        simp (disch := omega) [↓test_bool, ↓bindV_eq, ↓withV_of, ↓withH_some, ↓bindX_some, L66_0_step, hin1, hcn, hin, cv_32_64, cv_64_32, wrap_u64, wrap_i64, r1, r2, hand, hshr, hlt', hw, hst, h3]
theorem give_loop {pol : FuncId → Pol} {d : Option (List UInt32)} {id N kk n : Nat} {post : List UInt32} (hn : (d.getD []).length = n) (hN : N ≤ 2000000) : ∀ (seg pre : List UInt32) (i c : Nat) (H : Heap), pre.length = kk + i → i + seg.length = n + 1 → N = (pre ++ seg ++ post).length → c < 4294967296 →
    H[id]? = some (.row 0 1 64 ((pre ++ seg ++ post).map eu)) →
    LDoes (L67_0 pol) ⟨[.sl id 0 0 N N, eD d, .int .i64 (kk : Nat), .int .u64 (c : Nat), .int .i64 ((n : Int) + 1), .int .i64 (i : Nat)], []⟩ H 0
      ⟨[], []⟩ (H.set id (.row 0 1 64 ((pre ++ giveS seg ((d.getD []).drop i) c ++ post).map eu))) := by
  intro seg
  induction seg with
  | nil =>
    intro pre i c H hp hi hl hc hH
    have : i = n + 1 := by simpa using hi
    subst this
    rw [show (giveS [] ((d.getD []).drop (n + 1)) c) = [] from rfl, set_same hH]
    refine LDoes.step (Evs.of fun n m => ?_)
    simp [↓test_bool, ↓withV_of, L67_0_step]
  | cons r rs ih =>
    intro pre i c H hp hi hl hc hH
    simp only [List.length_cons] at hi
    have hlen : pre.length + (rs.length + 1) + post.length = N := by rw [hl]; simp; omega
    have hj : kk + i < (pre ++ r :: rs ++ post).length := by rw [← hl]; omega
    obtain ⟨r1, r2, r3⟩ := lrow (k := .i64) (n := N) (j := kk + i) (i := (kk : Int) + (i : Int)) hH hl hj (by omega)
    rw [mid_get hp hj] at r2
    have hr := limb_lt r
    have hxl := limb_lt (((d.getD []).drop i).headD 0)
    have htail : ((d.getD []).drop i).tail = (d.getD []).drop (i + 1) := by rw [List.tail_drop]
    have hx1 : i < n → ∀ H, A.idx 1 (eD d) (.int .i64 (i : Int)) H = some (.rop [eu (((d.getD []).drop i).headD 0)]) := fun h H => by
      rw [drop_head (by omega)]
      exact idx_eD (by omega)
    have hx0 : ¬ i < n → ((d.getD []).drop i).headD 0 = 0 := fun h => drop_head0 (by omega)
    have hin1 : (i : Int) < (n : Int) + 1 := by omega
    unfold giveS
    rw [htail]
    have ih' := ih (pre := pre ++ [UInt32.ofNat (c + r.toNat + (((d.getD []).drop i).headD 0).toNat)]) (i := i + 1) (c := (c + r.toNat + (((d.getD []).drop i).headD 0).toNat) / 4294967296)
      (H.set id (.row 0 1 64 (((pre ++ [UInt32.ofNat (c + r.toNat + (((d.getD []).drop i).headD 0).toNat)]) ++ rs ++ post).map eu)))
      (by simp; omega) (by omega) (by rw [← hlen]; simp; omega) (by omega) (row_set hH)
    rw [List.set_set] at ih'
    have hcn : (d.getD []).length = n := hn
    generalize hX : ((d.getD []).drop i).headD 0 = X at *
    have hst := r3 (UInt32.ofNat (c + r.toNat + X.toNat))
    rw [mid_set hp] at hst
    have hcast : (c : Int) + (r.toNat : Int) + (X.toNat : Int) = ((c + r.toNat + X.toNat : Nat) : Int) := by simp only [Int.natCast_add]
    have hw : IntKind.wrap .u32 ((c : Int) + (r.toNat : Int) + (X.toNat : Int)) = ((UInt32.ofNat (c + r.toNat + X.toNat)).toNat : Int) := by rw [hcast]; exact wrap_nat32 _
    have hshr : ∀ (t : TypeId) (H : Heap), A.bin base.P .shr t (.int .u64 ((c : Int) + (r.toNat : Int) + (X.toNat : Int))) (.int .u64 32) true H = some (.int .u64 (((c + r.toNat + X.toNat) / 4294967296 : Nat) : Int)) := fun t H => by rw [hcast]; exact shr_u64 (s := 32) (by omega)
    generalize (c + r.toNat + X.toNat) / 4294967296 = c' at *
    generalize hdg : UInt32.ofNat (c + r.toNat + X.toNat) = dg at *
    rw [List.append_assoc pre [dg]] at ih'
    generalize giveS rs ((d.getD []).drop (i + 1)) c' = res at *
    refine LDoes.step (Evs.withL ih' (Evs.of fun n' m _ h3 => ?_))
    have e2 : ((1 : Nat) : Int) = 1 := rfl
    simp only [Int.natCast_add, e2, List.map_append, List.map_cons, List.append_assoc, List.cons_append, List.nil_append] at h3 hst
    by_cases hin : i < n
    · have hx := hx1 hin
      clear ih ih' r3 hx1 hx0 hH
      simp (disch := omega) [↓test_bool, ↓bindV_eq, ↓withV_of, ↓withH_some, ↓bindX_some, L67_0_step, hin1, hcn, hin, hx, cv_32_64, cv_64_32, wrap_u64, wrap_i64, r1, r2, hshr, hw, hst, h3]
    · have hX0 := hx0 hin
      subst hX0
      clear ih ih' r3 hx1 hx0 hH
      have ez : (((0 : UInt32).toNat : Nat) : Int) = 0 := rfl
      rw [ez, Int.add_zero] at hw hshr
      simp (disch := omega) [↓test_bool, ↓bindV_eq, ↓withV_of, ↓withH_some, ↓bindX_some, L67_0_step, hin1, hcn, hin, cv_32_64, cv_64_32, wrap_u64, wrap_i64, r1, r2, hshr, hw, hst, h3]
structure TakeIn where
  id : Nat
  u : List UInt32
  d : Option (List UInt32)
  k : Nat
  q : Nat
def segS (x : TakeIn) : List UInt32 := (x.u.drop x.k).take ((x.d.getD []).length + 1)
def putS (x : TakeIn) (r : List UInt32) : List UInt32 := x.u.take x.k ++ r ++ x.u.drop (x.k + (x.d.getD []).length + 1)
theorem seg_split (x : TakeIn) : x.u = x.u.take x.k ++ segS x ++ x.u.drop (x.k + (x.d.getD []).length + 1) := by
  unfold segS
  conv => lhs; rw [← List.take_append_drop x.k x.u, ← List.take_append_drop ((x.d.getD []).length + 1) (x.u.drop x.k), List.drop_drop, ← List.append_assoc]
  rw [Nat.add_assoc]
def atRow (x : TakeIn) (H : Heap) : Prop := H[x.id]? = some (.row 0 1 64 (x.u.map eu)) ∧ x.u.length ≤ 2000000 ∧ x.k + (x.d.getD []).length + 1 ≤ x.u.length
def encTake (x : TakeIn) : List AV := [.sl x.id 0 0 x.u.length x.u.length, eD x.d, .int .i64 (x.k : Nat), .int .u64 (x.q : Nat)]
def encGive (x : TakeIn) : List AV := [.sl x.id 0 0 x.u.length x.u.length, eD x.d, .int .i64 (x.k : Nat)]
def resTake (x : TakeIn) (H : Heap) : AV × Heap := (.bool (decide ((takeS x.q (segS x) (x.d.getD []) 0 0).2 = 1)), H.set x.id (.row 0 1 64 ((putS x (takeS x.q (segS x) (x.d.getD []) 0 0).1).map eu)))
def resGive (x : TakeIn) (H : Heap) : AV × Heap := (.tup [], H.set x.id (.row 0 1 64 ((putS x (giveS (segS x) (x.d.getD []) 0)).map eu)))
noncomputable def pTake : Pol := .prim (hp encTake (fun x H => atRow x H ∧ x.q ≤ 4294967296) resTake)
noncomputable def pGive : Pol := .prim (hp encGive atRow resGive)
theorem map_eu_inj {a b : List UInt32} (h : a.map eu = b.map eu) : a = b := map_inj (f := eu) (fun _ _ h => cU32.inj _ _ h) h
theorem row_uniq {H : Heap} {i j : Nat} {a b : List UInt32} (e : i = j) (h1 : H[i]? = some (.row 0 1 64 (a.map eu))) (h2 : H[j]? = some (.row 0 1 64 (b.map eu))) : a = b := by
  subst e
  rw [h1] at h2
  simp only [Option.some.injEq, HObj.row.injEq, true_and] at h2
  exact map_eu_inj h2
theorem eD_inj {a b : Option (List UInt32)} (h : eD a = eD b) : a = b := cD.inj _ _ h
theorem kTake {R : Type} {x : TakeIn} {H : Heap} (h : atRow x H) (hq : x.q ≤ 4294967296) {k : AV → Heap → Option R} : polK pTake [.sl x.id 0 0 x.u.length x.u.length, eD x.d, .int .i64 (x.k : Nat), .int .u64 (x.q : Nat)] H k = k (resTake x H).1 (resTake x H).2 :=
  polK_hp (enc := encTake) (fun x y H e hx hy => by
    obtain ⟨xi, xu, xd, xk, xq⟩ := x
    obtain ⟨yi, yu, yd, yk, yq⟩ := y
    simp only [encTake, List.cons.injEq, AV.sl.injEq, AV.int.injEq, true_and, and_true] at e
    obtain ⟨⟨e1, _⟩, e2, e3, e4⟩ := e
    have e5 : xu = yu := row_uniq e1 hx.1.1 hy.1.1
    have e6 := eD_inj e2
    have e7 : xk = yk := by omega
    have e8 : xq = yq := by omega
    subst e1 e5 e6 e7 e8
    rfl) ⟨h, hq⟩
theorem kGive {R : Type} {x : TakeIn} {H : Heap} (h : atRow x H) {k : AV → Heap → Option R} : polK pGive [.sl x.id 0 0 x.u.length x.u.length, eD x.d, .int .i64 (x.k : Nat)] H k = k (resGive x H).1 (resGive x H).2 :=
  polK_hp (enc := encGive) (fun x y H e hx hy => by
    obtain ⟨xi, xu, xd, xk, xq⟩ := x
    obtain ⟨yi, yu, yd, yk, yq⟩ := y
    simp only [encGive, List.cons.injEq, AV.sl.injEq, AV.int.injEq, true_and, and_true] at e
    obtain ⟨⟨e1, _⟩, e2, e3⟩ := e
    have e5 : xu = yu := row_uniq e1 hx.1 hy.1
    have e6 := eD_inj e2
    have e7 : xk = yk := by omega
    subst e1 e5 e6 e7
    rfl) h
theorem okTake : PolOK base 66 pTake := heap_hp base_ok [] trivial fun x H ⟨⟨hH, hN, hk⟩, hq⟩ => by
  have hs := seg_split x
  have hlp : (x.u.take x.k).length = x.k + 0 := by rw [List.length_take]; omega
  have hls : 0 + (segS x).length = (x.d.getD []).length + 1 := by unfold segS; rw [List.length_take, List.length_drop]; omega
  have hL := take_loop (pol := polT []) (d := x.d) (id := x.id) (kk := x.k) (q := x.q) (post := x.u.drop (x.k + (x.d.getD []).length + 1)) rfl hN hq (segS x) (x.u.take x.k) 0 0 0 H hlp hls (by rw [← hs]) (by omega) (by omega) (by rw [← hs]; exact hH)
  rw [List.drop_zero] at hL
  refine Evs.withL hL (Evs.of fun n m h1 h2 => ?_)
  have e0 : ((0 : Nat) : Int) = 0 := rfl
  simp only [e0] at h1
  have hlen := hk
  have hd : (x.d.getD []).length ≤ 2000000 := by omega
  unfold encTake resTake putS
  generalize takeS x.q (segS x) (x.d.getD []) 0 0 = res at *
  simp (disch := omega) [↓bindV_eq, ↓withV_of, ↓bindX_some, S66, wrap_i64, h1]
  omega
theorem okGive : PolOK base 67 pGive := heap_hp base_ok [] trivial fun x H ⟨hH, hN, hk⟩ => by
  have hs := seg_split x
  have hlp : (x.u.take x.k).length = x.k + 0 := by rw [List.length_take]; omega
  have hls : 0 + (segS x).length = (x.d.getD []).length + 1 := by unfold segS; rw [List.length_take, List.length_drop]; omega
  have hL := give_loop (pol := polT []) (d := x.d) (id := x.id) (kk := x.k) (post := x.u.drop (x.k + (x.d.getD []).length + 1)) rfl hN (segS x) (x.u.take x.k) 0 0 H hlp hls (by rw [← hs]) (by omega) (by rw [← hs]; exact hH)
  rw [List.drop_zero] at hL
  refine Evs.withL hL (Evs.of fun n m h1 h2 => ?_)
  have e0 : ((0 : Nat) : Int) = 0 := rfl
  simp only [e0] at h1
  have hd : (x.d.getD []).length ≤ 2000000 := by omega
  unfold encGive resGive putS
  generalize giveS (segS x) (x.d.getD []) 0 = res at *
  simp (disch := omega) [↓withV_of, ↓bindX_some, S67, wrap_i64, h1]
end Go.Proofs.YtikkpecdkdgmfaaDoor

/- Numbers of any size: shifts as entries; a digit of a quotient is guessed. -/
set_option maxRecDepth 100000
set_option maxHeartbeats 2000000
namespace Go.Proofs.YtikkpecdkdgmfaaDoor
open Go Go.Den
/-! ### so many bits more, as an entry -/
def encShift (x : Option (List UInt32) × Nat) : List AV := [eD x.1, .int .i64 (x.2 : Nat)]
def resShift (x : Option (List UInt32) × Nat) (H : Heap) : AV × Heap := (.sl H.length 0 0 ((x.1.getD []).length + 1) ((x.1.getD []).length + 1), H ++ [.row 0 1 64 ((shiftedL (x.1.getD []) x.2).map eu)])
noncomputable def pShifted : Pol := .prim (hp encShift (fun x _ => few x.1 ∧ x.2 ≤ 31) resShift)
theorem kShifted {R : Type} {d : Option (List UInt32)} {s : Nat} {H : Heap} (hd : few d) (hs : s ≤ 31) {k : AV → Heap → Option R} : polK pShifted [eD d, .int .i64 (s : Nat)] H k = k (.sl H.length 0 0 ((d.getD []).length + 1) ((d.getD []).length + 1)) (H ++ [.row 0 1 64 ((shiftedL (d.getD []) s).map eu)]) :=
  polK_hp (enc := encShift) (x := (d, s)) (fun x y H e hx hy => by
    obtain ⟨xd, xs⟩ := x
    obtain ⟨yd, ys⟩ := y
    simp only [encShift, List.cons.injEq, AV.int.injEq, true_and, and_true] at e
    have e1 := eD_inj e.1
    have e2 : xs = ys := by omega
    subst e1 e2
    rfl) ⟨hd, hs⟩
theorem okShifted : PolOK base 64 pShifted := heap_hp base_ok [] trivial fun x H ⟨hd, hs⟩ => by
  obtain ⟨d, s⟩ := x
  unfold few at hd
  dsimp only at hd hs
  have hmk := row_make (H := H) (sz := 1) (ty := 64) (bytes := 4) (z := .int .u32 0) (l := (((d.getD []).length + 1 : Nat) : Int)) (by omega) (by omega) (by omega)
  simp only [Int.toNat_natCast] at hmk
  have hz : List.replicate ((d.getD []).length + 1) (AV.int .u32 0) = (List.replicate ((d.getD []).length + 1) (0 : UInt32)).map eu := by simp
  rw [hz] at hmk
  obtain ⟨H', hL, hr, hlen, hoth⟩ := shifted_loop (pol := polT []) (a := d) (s := s) (id := H.length) hs hd (d.getD []).length 0 (List.replicate ((d.getD []).length + 1) 0) (H ++ [.row 0 1 64 ((List.replicate ((d.getD []).length + 1) (0 : UInt32)).map eu)]) (by omega) (by simp) (by simp [val, val_zeros]) row_push
  have hH' : H' = H ++ [.row 0 1 64 ((shiftedL (d.getD []) s).map eu)] := by
    apply List.ext_getElem?
    intro j
    by_cases hj : j = H.length
    · subst hj; rw [hr, row_push]
    · rw [hoth j hj]
      rcases Nat.lt_or_ge j H.length with h | h
      · rw [List.getElem?_append_left h, List.getElem?_append_left h]
      · rw [List.getElem?_eq_none (by simp; omega), List.getElem?_eq_none (by simp; omega)]
  subst hH'
  refine Evs.withL hL (Evs.of fun n m h3 _ => ?_)
  unfold encShift resShift
  have e0 : ((0 : Nat) : Int) = 0 := rfl
  simp only [e0, Int.natCast_add, Int.natCast_one] at h3 hmk
  generalize shiftedL (d.getD []) s = out at *
  generalize hrep : (List.replicate ((d.getD []).length + 1) (0 : UInt32)).map eu = rep at *
  simp (disch := omega) [↓bindV_eq, ↓withV_of, ↓withVH_some, ↓bindX_some, S64, wrap_i64, hmk, h3]
/-! ### so many bits less -/
theorem back_digit {l : List UInt32} {i s : Nat} (hs : s ≤ 31) (h : i < l.length) : UInt32.ofNat ((at_ l i + 2 ^ 32 * at_ l (i + 1)) / 2 ^ s) = UInt32.ofNat (val l / 2 ^ s / 4294967296 ^ i) := by
  have h1 : val l / 4294967296 ^ i = val (l.drop i) := by
    rw [val_drop (l := l) (n := i) (by omega), Nat.add_mul_div_left _ _ (Nat.pow_pos (by omega)), Nat.div_eq_of_lt (val_take_lt _ _), Nat.zero_add]
  have h2 : val (l.drop i) = (at_ l i + 2 ^ 32 * at_ l (i + 1)) + 4294967296 * 4294967296 * val (l.drop (i + 2)) := by
    rw [List.drop_eq_getElem_cons h, val]
    rcases Nat.lt_or_ge (i + 1) l.length with h3 | h3
    · rw [List.drop_eq_getElem_cons h3, val, at_, dif_pos h, at_, dif_pos h3, show i + 1 + 1 = i + 2 from rfl]
      omega
    · rw [List.drop_eq_nil_of_le h3, List.drop_eq_nil_of_le (by omega), val, at_, dif_pos h, at_, dif_neg (by omega)]
  have h3 := pow_split hs
  have h4 : val l / 2 ^ s / 4294967296 ^ i = val l / 4294967296 ^ i / 2 ^ s := by rw [Nat.div_div_eq_div_mul, Nat.div_div_eq_div_mul, Nat.mul_comm]
  rw [h4, h1, h2]
  generalize at_ l i + 2 ^ 32 * at_ l (i + 1) = y
  have e : 4294967296 * 4294967296 * val (l.drop (i + 2)) = 2 ^ s * (4294967296 * (2 ^ (32 - s) * val (l.drop (i + 2)))) := by
    generalize val (l.drop (i + 2)) = w
    generalize 2 ^ s = p at *
    generalize 2 ^ (32 - s) = p' at *
    rw [← h3]
    simp only [Nat.mul_left_comm, Nat.mul_comm]
  rw [e, Nat.add_mul_div_left _ _ (Nat.pow_pos (by omega))]
  generalize 2 ^ (32 - s) * val (l.drop (i + 2)) = w
  generalize y / 2 ^ s = z
  refine (limb_eq ?_).symm
  rw [limb_of]
  omega
def backS (a : Option (List UInt32)) (s : Int) : Option (List UInt32) := some (digs (a.getD []).length (val (a.getD []) / 2 ^ s.toNat))
theorem back_loop {pol : FuncId → Pol} {a : Option (List UInt32)} {s id : Nat} (hs : s ≤ 31) (hf : (a.getD []).length ≤ 2000000) : ∀ (k i : Nat) (o : List UInt32) (H : Heap), k + i = (a.getD []).length → o.length = (a.getD []).length → o.take i = digs i (val (a.getD []) / 2 ^ s) →
    H[id]? = some (.row 0 1 64 (o.map eu)) →
    ∃ H', LDoes (L68_0 pol) ⟨[eD a, .int .i64 (s : Nat), .sl id 0 0 (a.getD []).length (a.getD []).length, eD a, .int .i64 ((a.getD []).length : Nat), .int .i64 (i : Nat)], []⟩ H 0 ⟨[.sl id 0 0 (a.getD []).length (a.getD []).length], []⟩ H' ∧
      H'[id]? = some (.row 0 1 64 ((digs (a.getD []).length (val (a.getD []) / 2 ^ s)).map eu)) := by
  intro k
  induction k with
  | zero =>
    intro i o H hk ho hv hH
    have : i = (a.getD []).length := by omega
    subst this
    rw [List.take_of_length_le (by omega)] at hv
    rw [hv] at hH
    refine ⟨H, LDoes.step (Evs.of fun n m => ?_), hH⟩
    simp [↓test_bool, ↓withV_of, L68_0_step]
  | succ k ih =>
    intro i o H hk ho hv hH
    have hlt : i < (a.getD []).length := by omega
    have hx := at_idx (d := a) hlt H
    have hio : i < o.length := by omega
    have h0 := at_lt (a.getD []) i
    have h1 := at_lt (a.getD []) (i + 1)
    obtain ⟨r1, r2, r3⟩ := lrow (k := .i64) (n := (a.getD []).length) (j := i) (i := (i : Int)) hH ho.symm hio rfl
    have hd := back_digit hs hlt
    have hnew : (o.set i (UInt32.ofNat ((at_ (a.getD []) i + 2 ^ 32 * at_ (a.getD []) (i + 1)) / 2 ^ s))).take (i + 1) = digs (i + 1) (val (a.getD []) / 2 ^ s) := by
      rw [hd, digs_append, ← hv, List.take_succ_eq_append_getElem (by rw [List.length_set]; exact hio), List.take_set_of_le (Nat.le_refl i), List.getElem_set_self]
    obtain ⟨H', hL, hr⟩ := ih (i + 1) _ _ (by omega) (by rw [List.length_set, ho]) hnew (row_set hH)
    refine ⟨H', LDoes.step (Evs.withL hL (Evs.of fun n m _ h3 => ?_)), hr⟩
    have hshr : ∀ (t : TypeId) (H : Heap), A.bin base.P .shr t (.int .u64 ((at_ (a.getD []) i + 2 ^ 32 * at_ (a.getD []) (i + 1) : Nat) : Int)) (.int .i64 (s : Int)) false H = some (.int .u64 (((at_ (a.getD []) i + 2 ^ 32 * at_ (a.getD []) (i + 1)) / 2 ^ s : Nat) : Int)) := fun t H => shr_u64 (by omega)
    have hshl : ∀ (t : TypeId) (H : Heap), A.bin base.P .shl t (.int .u64 (at_ (a.getD []) (i + 1) : Int)) (.int .u64 32) true H = some (.int .u64 ((2 ^ 32 * at_ (a.getD []) (i + 1) : Nat) : Int)) := fun t H => shl_nat (s := 32) (by omega) (by omega)
    have hor : ∀ (t : TypeId) (H : Heap), A.bin base.P .or t (.int .u64 (at_ (a.getD []) i : Int)) (.int .u64 ((2 ^ 32 * at_ (a.getD []) (i + 1) : Nat) : Int)) false H = some (.int .u64 ((at_ (a.getD []) i + 2 ^ 32 * at_ (a.getD []) (i + 1) : Nat) : Int)) := fun t H => (or_nat (s := 32) (by omega) (by omega)).1
    have hst := r3 (UInt32.ofNat ((at_ (a.getD []) i + 2 ^ 32 * at_ (a.getD []) (i + 1)) / 2 ^ s))
    have hw : IntKind.wrap .u32 (((at_ (a.getD []) i + 2 ^ 32 * at_ (a.getD []) (i + 1)) / 2 ^ s : Nat) : Int) = ((UInt32.ofNat ((at_ (a.getD []) i + 2 ^ 32 * at_ (a.getD []) (i + 1)) / 2 ^ s)).toNat : Int) := wrap_nat32 _
    have hx1 : i + 1 < (a.getD []).length → ∀ H, A.idx 1 (eD a) (.int .i64 ((i : Int) + 1)) H = some (.rop [.int .u32 (at_ (a.getD []) (i + 1) : Nat)]) := fun h H => at_idx (d := a) h H
    have hx0 : ¬ i + 1 < (a.getD []).length → at_ (a.getD []) (i + 1) = 0 := fun h => at_out h
    have hsm : ((at_ (a.getD []) i + 2 ^ 32 * at_ (a.getD []) (i + 1)) : Nat) = at_ (a.getD []) i + 4294967296 * at_ (a.getD []) (i + 1) := rfl
    clear hnew hd ih
    generalize UInt32.ofNat ((at_ (a.getD []) i + 2 ^ 32 * at_ (a.getD []) (i + 1)) / 2 ^ s) = dg at *
    generalize (((at_ (a.getD []) i + 2 ^ 32 * at_ (a.getD []) (i + 1)) / 2 ^ s : Nat) : Int) = dn at *
    simp only [Int.natCast_add, Int.natCast_one, List.map_set] at h3 hst
    by_cases hin : i + 1 < (a.getD []).length
    · have hin' : (i : Int) + 1 < ((a.getD []).length : Int) := by omega
      have hx' := hx1 hin H
      generalize ((at_ (a.getD []) i + 2 ^ 32 * at_ (a.getD []) (i + 1) : Nat) : Int) = yy at *
      generalize ((2 ^ 32 * at_ (a.getD []) (i + 1) : Nat) : Int) = y2 at *
      generalize at_ (a.getD []) (i + 1) = x1 at *
      generalize at_ (a.getD []) i = x0 at *
      clear hx1 hx0 r3 hsm
      simp (disch := omega) [↓test_bool, ↓bindV_eq, ↓withV_of, ↓withH_some, ↓bindX_some, L68_0_step, hlt, hin', hx, hx', cv_32_64, cv_64_32, wrap_u64, wrap_i64, hshl, hor, hshr, hw, r1, hst, h3]
    · have hin' : ¬ (i : Int) + 1 < ((a.getD []).length : Int) := by omega
      have hz := hx0 hin
      rw [hz, Nat.mul_zero, Nat.add_zero] at hshr
      generalize at_ (a.getD []) i = x0 at *
      clear hx1 hx0 r3 hsm hshl hor
      simp (disch := omega) [↓test_bool, ↓bindV_eq, ↓withV_of, ↓withH_some, ↓bindX_some, L68_0_step, hlt, hin', hx, cv_32_64, cv_64_32, wrap_u64, wrap_i64, hshr, hw, r1, hst, h3]
noncomputable def pBack : Pol := .still (p2 cD (cI .i64) eD (fun a s => (a.getD []).length ≤ 2000000 ∧ 0 ≤ s ∧ s ≤ 31) backS)
theorem okBack : PolOK base 68 pBack := still2 base_ok [] trivial fun a s ⟨hf, hs0, hs⟩ => by
  obtain ⟨s, rfl⟩ : ∃ t : Nat, s = t := ⟨s.toNat, by omega⟩
  have hmk := row_make (H := []) (sz := 1) (ty := 64) (bytes := 4) (z := .int .u32 0) (l := (((a.getD []).length : Nat) : Int)) (by omega) (by omega) (by omega)
  simp only [List.length_nil, Int.toNat_natCast, List.nil_append] at hmk
  have hz : List.replicate (a.getD []).length (AV.int .u32 0) = (List.replicate (a.getD []).length (0 : UInt32)).map eu := by simp
  rw [hz] at hmk
  obtain ⟨H', hL, hr⟩ := back_loop (pol := polT []) (a := a) (s := s) (id := 0) (by omega) hf (a.getD []).length 0 (List.replicate (a.getD []).length 0) [.row 0 1 64 ((List.replicate (a.getD []).length (0 : UInt32)).map eu)] (by omega) (by simp) (by simp [digs]) rfl
  refine Evs.withL hL (Evs.of fun n m h3 _ => ?_)
  have e0 : ((0 : Nat) : Int) = 0 := rfl
  simp only [e0] at h3
  have hfz := frz_limbs hr (digs_length _ _).symm 62 (n := (a.getD []).length) (cap := (a.getD []).length)
  unfold backS
  simp only [Int.toNat_natCast]
  generalize digs (a.getD []).length (val (a.getD []) / 2 ^ s) = out at *
  generalize hrep : (List.replicate (a.getD []).length (0 : UInt32)).map eu = rep at *
  simp (disch := omega) [↓bindV_eq, ↓withV_of, ↓withVH_some, ↓bindX_some, S68, hmk, h3, hfz]
end Go.Proofs.YtikkpecdkdgmfaaDoor

/- Numbers of any size: a digit of a quotient is guessed. -/
set_option maxRecDepth 100000
set_option maxHeartbeats 2000000
namespace Go.Proofs.YtikkpecdkdgmfaaDoor
open Go Go.Den
theorem guess_loop {pol : FuncId → Pol} {u v : Option (List UInt32)} {k n : Nat} (hn : (v.getD []).length = n) (h2 : 2 ≤ n) (hnb : n ≤ 2000000) (hk : k + n < (u.getD []).length) (hub : (u.getD []).length ≤ 2000000) : ∀ (f q r : Nat) (H : Heap), q ≤ 4294967297 → r < 4294967296 → 4294967296 ≤ r + f * at_ (v.getD []) (n - 1) →
    LDoes (L65_0 pol) ⟨[eD u, eD v, .int .i64 (k : Nat), .int .i64 (n : Nat), .int .u64 (q : Nat), .int .u64 (r : Nat)], []⟩ H 0 ⟨[.int .u64 ((guessG (at_ (v.getD []) (n - 1)) (at_ (v.getD []) (n - 2)) (at_ (u.getD []) (k + n - 2)) f q r : Nat) : Int)], []⟩ H := by
  intro f
  induction f with
  | zero =>
    intro q r H hq hr hf
    exfalso
    omega
  | succ f ih =>
    intro q r H hq hr hf
    have hv1 := at_lt (v.getD []) (n - 1)
    have hv2 := at_lt (v.getD []) (n - 2)
    have hu2 := at_lt (u.getD []) (k + n - 2)
    have i1 : ∀ H, A.idx 1 (eD v) (.int .i64 ((n : Int) - 1)) H = some (.rop [.int .u32 (at_ (v.getD []) (n - 1) : Nat)]) := fun H => by
      rw [show (n : Int) - 1 = ((n - 1 : Nat) : Int) by omega]
      exact at_idx (d := v) (by omega) H
    have i2 : ∀ H, A.idx 1 (eD v) (.int .i64 ((n : Int) - 2)) H = some (.rop [.int .u32 (at_ (v.getD []) (n - 2) : Nat)]) := fun H => by
      rw [show (n : Int) - 2 = ((n - 2 : Nat) : Int) by omega]
      exact at_idx (d := v) (by omega) H
    have i3 : ∀ H, A.idx 1 (eD u) (.int .i64 ((k : Int) + (n : Int) - 2)) H = some (.rop [.int .u32 (at_ (u.getD []) (k + n - 2) : Nat)]) := fun H => by
      rw [show (k : Int) + (n : Int) - 2 = ((k + n - 2 : Nat) : Int) by omega]
      exact at_idx (d := u) (by omega) H
    unfold guessG
    have ihs := ih (q - 1) (r + at_ (v.getD []) (n - 1)) H (by omega)
    have hfm : (f + 1) * at_ (v.getD []) (n - 1) = f * at_ (v.getD []) (n - 1) + at_ (v.getD []) (n - 1) := by rw [Nat.add_mul, Nat.one_mul]
    rw [hfm] at hf
    generalize at_ (v.getD []) (n - 1) = v1 at *
    generalize at_ (v.getD []) (n - 2) = v2 at *
    generalize at_ (u.getD []) (k + n - 2) = u2 at *
    have hshl : ∀ (t : TypeId) (H : Heap), A.bin base.P .shl t (.int .u64 (r : Int)) (.int .u64 32) true H = some (.int .u64 ((2 ^ 32 * r : Nat) : Int)) := fun t H => shl_nat (s := 32) (by omega) (by omega)
    have hor : ∀ (t : TypeId) (H : Heap), A.bin base.P .or t (.int .u64 ((2 ^ 32 * r : Nat) : Int)) (.int .u64 (u2 : Int)) false H = some (.int .u64 ((u2 + 2 ^ 32 * r : Nat) : Int)) := fun t H => (or_nat (s := 32) (by omega) (by omega)).2
    have hS : 2 ^ 32 * r = 4294967296 * r := rfl
    rw [hS] at hor hshl
    generalize hSS : 4294967296 * r = S at *
    by_cases hc1 : 4294967296 ≤ q
    · rw [if_pos (.inl hc1)]
      have hc1' : (4294967296 : Int) ≤ (q : Int) := by omega
      have hq1 : (q : Int) - 1 = ((q - 1 : Nat) : Int) := by omega
      by_cases hrr : 4294967296 ≤ r + v1
      · rw [if_pos hrr]
        have hrr' : (4294967296 : Int) ≤ (r : Int) + (v1 : Int) := by omega
        refine LDoes.step (Evs.of fun n' m => ?_)
        simp (disch := omega) [↓test_bool, ↓withV_of, ↓withP_some, ↓withB_some, L65_0_step, hc1', i1, cv_32_64, wrap_u64, wrap_i64, hrr']
        omega
      · rw [if_neg hrr]
        have hrr' : ¬ (4294967296 : Int) ≤ (r : Int) + (v1 : Int) := by omega
        refine LDoes.step (Evs.withL (ihs (by omega) (by omega)) (Evs.of fun n' m _ h3 => ?_))
        generalize guessG v1 v2 u2 f (q - 1) (r + v1) = res at *
        rw [← hq1] at h3
        simp only [Int.natCast_add] at h3
        simp (disch := omega) [↓test_bool, ↓withV_of, ↓withP_some, ↓withB_some, L65_0_step, hc1', i1, cv_32_64, wrap_u64, wrap_i64, hrr', h3]
    · have hc1' : ¬ (4294967296 : Int) ≤ (q : Int) := by omega
      have hp : q * v2 ≤ 4294967295 * 4294967295 := Nat.mul_le_mul (by omega) (by omega)
      have hp0 : (0 : Int) ≤ (q : Int) * (v2 : Int) := by rw [← Int.natCast_mul]; omega
      have hp1 : (q : Int) * (v2 : Int) < 18446744073709551616 := by rw [← Int.natCast_mul]; omega
      by_cases hc2 : S + u2 < q * v2
      · rw [if_pos (.inr hc2)]
        have hc2' : (u2 : Int) + (S : Int) < (q : Int) * (v2 : Int) := by rw [← Int.natCast_mul]; omega
        have hqpos : 1 ≤ q := by
          rcases Nat.eq_zero_or_pos q with h0 | h0
          · rw [h0, Nat.zero_mul] at hc2; omega
          · exact h0
        have hq1 : (q : Int) - 1 = ((q - 1 : Nat) : Int) := by omega
        by_cases hrr : 4294967296 ≤ r + v1
        · rw [if_pos hrr]
          have hrr' : (4294967296 : Int) ≤ (r : Int) + (v1 : Int) := by omega
          refine LDoes.step (Evs.of fun n' m => ?_)
          simp (disch := omega) [↓test_bool, ↓withV_of, ↓withP_some, ↓withB_some, L65_0_step, hc1', i1, i2, i3, cv_32_64, wrap_u64, wrap_i64, hrr', hshl, hor, hc2']
          omega
        · rw [if_neg hrr]
          have hrr' : ¬ (4294967296 : Int) ≤ (r : Int) + (v1 : Int) := by omega
          refine LDoes.step (Evs.withL (ihs (by omega) (by omega)) (Evs.of fun n' m _ h3 => ?_))
          generalize guessG v1 v2 u2 f (q - 1) (r + v1) = res at *
          rw [← hq1] at h3
          simp only [Int.natCast_add] at h3
          simp (disch := omega) [↓test_bool, ↓withV_of, ↓withP_some, ↓withB_some, L65_0_step, hc1', i1, i2, i3, cv_32_64, wrap_u64, wrap_i64, hrr', hshl, hor, hc2', h3]
      · rw [if_neg (by omega)]
        have hc2' : ¬ (u2 : Int) + (S : Int) < (q : Int) * (v2 : Int) := by rw [← Int.natCast_mul]; omega
        refine LDoes.step (Evs.of fun n' m => ?_)
        simp (disch := omega) [↓test_bool, ↓withV_of, ↓withP_some, ↓withB_some, L65_0_step, hc1', i2, i3, cv_32_64, wrap_u64, wrap_i64, hshl, hor, hc2']
def topS (u v : Option (List UInt32)) (k : Nat) : Nat := 4294967296 * at_ (u.getD []) (k + (v.getD []).length) + at_ (u.getD []) (k + (v.getD []).length - 1)
def guessS (u v : Option (List UInt32)) (k : Int) : Int := (guessG (at_ (v.getD []) ((v.getD []).length - 1)) (at_ (v.getD []) ((v.getD []).length - 2)) (at_ (u.getD []) (k.toNat + (v.getD []).length - 2)) 3 (topS u v k.toNat / at_ (v.getD []) ((v.getD []).length - 1)) (topS u v k.toNat % at_ (v.getD []) ((v.getD []).length - 1)) : Nat)
def guessP (u v : Option (List UInt32)) (k : Int) : Prop := 0 ≤ k ∧ 2 ≤ (v.getD []).length ∧ (v.getD []).length ≤ 2000000 ∧ k.toNat + (v.getD []).length < (u.getD []).length ∧ (u.getD []).length ≤ 2000000 ∧ 2147483648 ≤ at_ (v.getD []) ((v.getD []).length - 1) ∧ at_ (u.getD []) (k.toNat + (v.getD []).length) ≤ at_ (v.getD []) ((v.getD []).length - 1)
noncomputable def pGuess : Pol := .still (p3 cD cD (cI .i64) (.int .u64) guessP guessS)
theorem okGuess : PolOK base 65 pGuess := still3 base_ok [] trivial fun u v k ⟨hk0, h2, hnb, hkn, hub, hv1, hu0⟩ => by
  obtain ⟨k, rfl⟩ : ∃ t : Nat, k = t := ⟨k.toNat, by omega⟩
  unfold guessS topS
  simp only [Int.toNat_natCast] at hkn hu0 ⊢
  clear hk0
  generalize hn : (v.getD []).length = n at *
  have hu0l := at_lt (u.getD []) (k + n)
  have hu1l := at_lt (u.getD []) (k + n - 1)
  have hv1l := at_lt (v.getD []) (n - 1)
  have i1 : ∀ H, A.idx 1 (eD v) (.int .i64 ((n : Int) - 1)) H = some (.rop [.int .u32 (at_ (v.getD []) (n - 1) : Nat)]) := fun H => by
    rw [show (n : Int) - 1 = ((n - 1 : Nat) : Int) by omega]
    exact at_idx (d := v) (by omega) H
  have j0 : ∀ H, A.idx 1 (eD u) (.int .i64 ((k : Int) + (n : Int))) H = some (.rop [.int .u32 (at_ (u.getD []) (k + n) : Nat)]) := fun H => by
    rw [show (k : Int) + (n : Int) = ((k + n : Nat) : Int) by omega]
    exact at_idx (d := u) (by omega) H
  have j1 : ∀ H, A.idx 1 (eD u) (.int .i64 ((k : Int) + (n : Int) - 1)) H = some (.rop [.int .u32 (at_ (u.getD []) (k + n - 1) : Nat)]) := fun H => by
    rw [show (k : Int) + (n : Int) - 1 = ((k + n - 1 : Nat) : Int) by omega]
    exact at_idx (d := u) (by omega) H
  have hdm := Nat.mod_add_div (4294967296 * at_ (u.getD []) (k + n) + at_ (u.getD []) (k + n - 1)) (at_ (v.getD []) (n - 1))
  have hml := Nat.mod_lt (4294967296 * at_ (u.getD []) (k + n) + at_ (u.getD []) (k + n - 1)) (show 0 < at_ (v.getD []) (n - 1) by omega)
  have hql : (4294967296 * at_ (u.getD []) (k + n) + at_ (u.getD []) (k + n - 1)) / at_ (v.getD []) (n - 1) ≤ 4294967297 := by
    have : (4294967296 * at_ (u.getD []) (k + n) + at_ (u.getD []) (k + n - 1)) / at_ (v.getD []) (n - 1) < 4294967298 := by
      rw [Nat.div_lt_iff_lt_mul (by omega)]
      omega
    omega
  have hL := guess_loop (pol := polT []) (u := u) (v := v) (k := k) (n := n) hn h2 hnb hkn hub 3 ((4294967296 * at_ (u.getD []) (k + n) + at_ (u.getD []) (k + n - 1)) / at_ (v.getD []) (n - 1)) ((4294967296 * at_ (u.getD []) (k + n) + at_ (u.getD []) (k + n - 1)) % at_ (v.getD []) (n - 1)) [] hql (by omega) (by omega)
  generalize guessG (at_ (v.getD []) (n - 1)) (at_ (v.getD []) (n - 2)) (at_ (u.getD []) (k + n - 2)) 3 ((4294967296 * at_ (u.getD []) (k + n) + at_ (u.getD []) (k + n - 1)) / at_ (v.getD []) (n - 1)) ((4294967296 * at_ (u.getD []) (k + n) + at_ (u.getD []) (k + n - 1)) % at_ (v.getD []) (n - 1)) = res at *
  have hshl : ∀ (t : TypeId) (H : Heap), A.bin base.P .shl t (.int .u64 (at_ (u.getD []) (k + n) : Int)) (.int .u64 32) true H = some (.int .u64 ((2 ^ 32 * at_ (u.getD []) (k + n) : Nat) : Int)) := fun t H => shl_nat (s := 32) (by omega) (by omega)
  have hor : ∀ (t : TypeId) (H : Heap), A.bin base.P .or t (.int .u64 ((2 ^ 32 * at_ (u.getD []) (k + n) : Nat) : Int)) (.int .u64 (at_ (u.getD []) (k + n - 1) : Int)) false H = some (.int .u64 ((4294967296 * at_ (u.getD []) (k + n) + at_ (u.getD []) (k + n - 1) : Nat) : Int)) := fun t H => by
    rw [(or_nat (s := 32) (by omega) (by omega)).2, Nat.add_comm]
  have hquo : ∀ (t : TypeId) (H : Heap), A.bin base.P .quo t (.int .u64 ((4294967296 * at_ (u.getD []) (k + n) + at_ (u.getD []) (k + n - 1) : Nat) : Int)) (.int .u64 (at_ (v.getD []) (n - 1) : Int)) false H = some (.int .u64 (((4294967296 * at_ (u.getD []) (k + n) + at_ (u.getD []) (k + n - 1)) / at_ (v.getD []) (n - 1) : Nat) : Int)) := fun t H => quo_nat (by omega) (by omega)
  have hrem : ∀ (t : TypeId) (H : Heap), A.bin base.P .rem t (.int .u64 ((4294967296 * at_ (u.getD []) (k + n) + at_ (u.getD []) (k + n - 1) : Nat) : Int)) (.int .u64 (at_ (v.getD []) (n - 1) : Int)) false H = some (.int .u64 (((4294967296 * at_ (u.getD []) (k + n) + at_ (u.getD []) (k + n - 1)) % at_ (v.getD []) (n - 1) : Nat) : Int)) := fun t H => rem_nat (by omega)
  refine Evs.withL hL (Evs.of fun n' m h3 _ => ?_)
  generalize ((2 ^ 32 * at_ (u.getD []) (k + n) : Nat) : Int) = y0 at *
  generalize (((4294967296 * at_ (u.getD []) (k + n) + at_ (u.getD []) (k + n - 1)) / at_ (v.getD []) (n - 1) : Nat) : Int) = qq at *
  generalize (((4294967296 * at_ (u.getD []) (k + n) + at_ (u.getD []) (k + n - 1)) % at_ (v.getD []) (n - 1) : Nat) : Int) = rr at *
  generalize ((4294967296 * at_ (u.getD []) (k + n) + at_ (u.getD []) (k + n - 1) : Nat) : Int) = tt at *
  simp (disch := omega) [↓bindV_eq, ↓withV_of, ↓bindX_some, S65, wrap_i64, wrap_u64, cv_32_64, hn, i1, j0, j1, hshl, hor, hquo, hrem, h3]
end Go.Proofs.YtikkpecdkdgmfaaDoor

/- Numbers of any size: one step of a long division, on lists of limbs. -/
set_option maxRecDepth 100000
set_option maxHeartbeats 2000000
namespace Go.Proofs.YtikkpecdkdgmfaaDoor
open Go Go.Den
theorem at_drop (l : List UInt32) (k i : Nat) : at_ (l.drop k) i = at_ l (k + i) := by
  unfold at_
  by_cases h : k + i < l.length
  · rw [dif_pos h, dif_pos (by rw [List.length_drop]; omega)]
    simp
  · rw [dif_neg h, dif_neg (by rw [List.length_drop]; omega)]
theorem val_top {l : List UInt32} {m : Nat} (h : l.length = m + 2) : val l = 4294967296 ^ m * (4294967296 * at_ l (m + 1) + at_ l m) + val (l.take m) := by
  have e : val l = val (l.take (m + 1 + 1)) := by rw [List.take_of_length_le (by omega)]
  rw [e, val_at, val_at, Nat.pow_succ, Nat.mul_add]
  rw [show 4294967296 ^ m * (4294967296 * at_ l (m + 1)) = 4294967296 ^ m * 4294967296 * at_ l (m + 1) from (Nat.mul_assoc _ _ _).symm]
  omega
theorem val_top3 {l : List UInt32} {m : Nat} (h : val (l.drop (m + 3)) = 0) (hl : m + 3 ≤ l.length) : val l = 4294967296 ^ m * (4294967296 * (4294967296 * at_ l (m + 2) + at_ l (m + 1)) + at_ l m) + val (l.take m) := by
  have e := val_drop (l := l) (n := m + 3) hl
  rw [h, Nat.mul_zero, Nat.add_zero, show m + 3 = m + 2 + 1 from rfl, val_at, show m + 2 = m + 1 + 1 from rfl, val_at, val_at] at e
  simp only [Nat.pow_succ] at e
  rw [e]
  clear e
  generalize 4294967296 ^ m = p
  have e1 : p * (4294967296 * (4294967296 * at_ l (m + 2) + at_ l (m + 1)) + at_ l m) = p * 4294967296 * 4294967296 * at_ l (m + 2) + p * 4294967296 * at_ l (m + 1) + p * at_ l m := by
    simp only [Nat.mul_add, Nat.mul_assoc]
  have e2 : at_ l (m + 1 + 1) = at_ l (m + 2) := rfl
  rw [e1, e2]
  omega
theorem div_digit {u v : List UInt32} {k n : Nat} (hn : v.length = n) (h2 : 2 ≤ n) (hk : k + n + 1 ≤ u.length) (htop : 2147483648 ≤ at_ v (n - 1)) (hinv : val (u.drop (k + 1)) < val v) :
    at_ u (k + n) ≤ at_ v (n - 1) ∧ ∃ x b Q : Nat, guessS (some u) (some v) (k : Nat) = (x : Nat) ∧ x < 4294967296 ∧ Q < 4294967296 ∧
      (takeS x (segS ⟨0, u, some v, k, x⟩) v 0 0).2 = b ∧ val (u.drop k) < 4294967296 * val v ∧
      (b = 1 → x = Q + 1 ∧ val (giveS (takeS x (segS ⟨0, u, some v, k, x⟩) v 0 0).1 v 0) + Q * val v = val (u.drop k) ∧ val (giveS (takeS x (segS ⟨0, u, some v, k, x⟩) v 0 0).1 v 0) < val v) ∧
      (b ≠ 1 → x = Q ∧ val (takeS x (segS ⟨0, u, some v, k, x⟩) v 0 0).1 + Q * val v = val (u.drop k) ∧ val (takeS x (segS ⟨0, u, some v, k, x⟩) v 0 0).1 < val v) := by
  obtain ⟨m, rfl⟩ : ∃ m, n = m + 2 := ⟨n - 2, by omega⟩
  have hv := val_top hn
  have hv3 := val_take_lt v m
  have hP : 0 < 4294967296 ^ m := Nat.pow_pos (by omega)
  have hvn : val v < 4294967296 ^ (m + 2) := by rw [← hn]; exact val_lt v
  rw [show m + 2 - 1 = m + 1 from rfl] at htop ⊢
  -- nothing stands above
  have hz : val (u.drop (k + 1 + (m + 2))) = 0 := by
    have e := val_drop (l := u.drop (k + 1)) (n := m + 2) (by rw [List.length_drop]; omega)
    rw [List.drop_drop] at e
    rcases Nat.eq_zero_or_pos (val (u.drop (k + 1 + (m + 2)))) with h0 | h0
    · exact h0
    · exfalso
      have : 4294967296 ^ (m + 2) * 1 ≤ 4294967296 ^ (m + 2) * val (u.drop (k + 1 + (m + 2))) := Nat.mul_le_mul_left _ h0
      omega
  have hz' : val ((u.drop k).drop (m + 3)) = 0 := by rw [List.drop_drop, show k + (m + 3) = k + 1 + (m + 2) by omega]; exact hz
  have hS := val_top3 hz' (by rw [List.length_drop]; omega)
  rw [at_drop, at_drop, at_drop] at hS
  have hu3 := val_take_lt (u.drop k) m
  -- the top limb
  have hu0 : at_ u (k + (m + 2)) ≤ at_ v (m + 1) := by
    have e := val_drop (l := u.drop (k + 1)) (n := m + 2) (by rw [List.length_drop]; omega)
    rw [List.drop_drop, hz, Nat.mul_zero, Nat.add_zero, show m + 2 = m + 1 + 1 from rfl, val_at, at_drop, show k + 1 + (m + 1) = k + (m + 2) by omega] at e
    have h1 : 4294967296 ^ (m + 1) * at_ u (k + (m + 2)) < 4294967296 ^ (m + 1) * (at_ v (m + 1) + 1) := by
      have h3 := at_lt v m
      have e2 : val v = val (v.take (m + 1)) + 4294967296 ^ (m + 1) * at_ v (m + 1) := by rw [← val_at, List.take_of_length_le (by omega)]
      have h4 := val_take_lt v (m + 1)
      rw [Nat.mul_add, Nat.mul_one]
      omega
    have := Nat.lt_of_mul_lt_mul_left h1
    omega
  have hS2 : val (u.drop k) = at_ u k + 4294967296 * val (u.drop (k + 1)) := by
    rw [List.drop_eq_getElem_cons (by omega), val, at_, dif_pos (by omega)]
  have hukl := at_lt u k
  have hSB : val (u.drop k) < 4294967296 * val v := by omega
  have hVpos : 0 < val v := by omega
  have hQB : val (u.drop k) / val v < 4294967296 := Nat.div_lt_of_lt_mul (by rw [Nat.mul_comm]; exact hSB)
  have hQ1 : (val (u.drop k) / val v) * val v ≤ val (u.drop k) := Nat.div_mul_le_self _ _
  have hQ2 : val (u.drop k) < (val (u.drop k) / val v + 1) * val v := by
    have := Nat.lt_mul_div_succ (val (u.drop k)) hVpos
    rw [Nat.mul_comm]; exact this
  have hu1l := at_lt u (k + (m + 1))
  have hu2l := at_lt u (k + m)
  have hv1l := at_lt v (m + 1)
  have hv2l := at_lt v m
  -- the guess
  have hdm := Nat.div_add_mod (4294967296 * at_ u (k + (m + 2)) + at_ u (k + (m + 1))) (at_ v (m + 1))
  have hml := Nat.mod_lt (4294967296 * at_ u (k + (m + 2)) + at_ u (k + (m + 1))) (show 0 < at_ v (m + 1) by omega)
  have hQq : val (u.drop k) / val v ≤ (4294967296 * at_ u (k + (m + 2)) + at_ u (k + (m + 1))) / at_ v (m + 1) := by
    rw [Nat.le_div_iff_mul_le (by omega)]
    generalize val (u.drop k) / val v = Q at *
    have h1 : 4294967296 ^ m * 4294967296 * (Q * at_ v (m + 1)) < 4294967296 ^ m * 4294967296 * (4294967296 * at_ u (k + (m + 2)) + at_ u (k + (m + 1)) + 1) := by
      have e1 : 4294967296 ^ m * 4294967296 * (Q * at_ v (m + 1)) ≤ Q * val v := by
        rw [hv]
        have e2 : 4294967296 ^ m * 4294967296 * (Q * at_ v (m + 1)) = Q * (4294967296 ^ m * (4294967296 * at_ v (m + 1))) := by
          simp only [Nat.mul_assoc, Nat.mul_left_comm]
        rw [e2]
        refine Nat.mul_le_mul_left _ ?_
        rw [Nat.mul_add]
        omega
      have e3 : val (u.drop k) < 4294967296 ^ m * 4294967296 * (4294967296 * at_ u (k + (m + 2)) + at_ u (k + (m + 1)) + 1) := by
        rw [hS]
        generalize 4294967296 * at_ u (k + (m + 2)) + at_ u (k + (m + 1)) = T
        have e4 : 4294967296 ^ m * 4294967296 * (T + 1) = 4294967296 ^ m * (4294967296 * T + 4294967295) + 4294967296 ^ m := by
          have e6 : 4294967296 * (T + 1) = 4294967296 * T + 4294967295 + 1 := by omega
          rw [Nat.mul_assoc, e6, Nat.mul_add (4294967296 ^ m) (4294967296 * T + 4294967295) 1, Nat.mul_one]
        have e5 : 4294967296 ^ m * (4294967296 * T + at_ u (k + m)) ≤ 4294967296 ^ m * (4294967296 * T + 4294967295) := Nat.mul_le_mul_left _ (by omega)
        omega
      omega
    have := Nat.lt_of_mul_lt_mul_left h1
    omega
  have hg := guess_ok (P := 4294967296 ^ m) (Q := val (u.drop k) / val v) (v1 := at_ v (m + 1)) (v2 := at_ v m) (v3 := val (v.take m)) (u0 := at_ u (k + (m + 2))) (u1 := at_ u (k + (m + 1))) (u2 := at_ u (k + m)) (u3 := val ((u.drop k).take m)) hP hu3 hu1l hu2l hv1l htop hv2l hv3 hu0
    (by rw [← hv, ← hS]; exact hQ1) (by rw [← hv, ← hS]; exact hQ2) hQB 3 _ ((4294967296 * at_ u (k + (m + 2)) + at_ u (k + (m + 1))) % at_ v (m + 1)) (by rw [Nat.mul_comm]; exact hdm) hQq (by omega) (by omega)
  refine ⟨hu0, ?_⟩
  obtain ⟨x, hx⟩ : ∃ x, guessG (at_ v (m + 1)) (at_ v m) (at_ u (k + m)) 3 ((4294967296 * at_ u (k + (m + 2)) + at_ u (k + (m + 1))) / at_ v (m + 1)) ((4294967296 * at_ u (k + (m + 2)) + at_ u (k + (m + 1))) % at_ v (m + 1)) = x := ⟨_, rfl⟩
  rw [hx] at hg
  obtain ⟨g1, g2, g3⟩ := hg
  -- what is taken
  have hsl : (segS ⟨0, u, some v, k, x⟩).length = m + 3 := by
    unfold segS
    simp only [Option.getD_some, List.length_take, List.length_drop]
    omega
  have hsv : val (segS ⟨0, u, some v, k, x⟩) = val (u.drop k) := by
    unfold segS
    simp only [Option.getD_some]
    have e := val_drop (l := u.drop k) (n := m + 3) (by rw [List.length_drop]; omega)
    rw [hz', Nat.mul_zero, Nat.add_zero] at e
    rw [hn, e]
  have hpow : 4294967296 ^ (m + 3) = 4294967296 * 4294967296 ^ (m + 2) := by rw [Nat.pow_succ, Nat.mul_comm]
  have hxv : x * val v + 0 < 4294967296 ^ (m + 3) := by
    have h1 : x * val v ≤ 4294967295 * val v := Nat.mul_le_mul_right _ (by omega)
    rw [hpow]
    omega
  have ht := takeS_val (q := x) (by omega) (segS ⟨0, u, some v, k, x⟩) v 0 0 (by omega) (by omega) (by omega) (by rw [hsl]; exact hxv)
  have hol := takeS_len x (segS ⟨0, u, some v, k, x⟩) v 0 0
  rw [hsl] at ht hol
  rw [hsv] at ht
  have hob := val_lt (takeS x (segS ⟨0, u, some v, k, x⟩) v 0 0).1
  rw [hol] at hob
  have hgv := giveS_val (takeS x (segS ⟨0, u, some v, k, x⟩) v 0 0).1 v 0 (by omega)
  rw [hol] at hgv
  refine ⟨x, (takeS x (segS ⟨0, u, some v, k, x⟩) v 0 0).2, val (u.drop k) / val v, ?_, g3, hQB, rfl, hSB, ?_⟩
  · unfold guessS topS
    simp only [Option.getD_some, Int.toNat_natCast, hn, show m + 2 - 1 = m + 1 from rfl, show m + 2 - 2 = m from rfl, show k + (m + 2) - 2 = k + m by omega, show k + (m + 2) - 1 = k + (m + 1) by omega]
    rw [hx]
  · obtain ⟨ht1, ht2⟩ := ht
    generalize val (u.drop k) / val v = Q at *
    generalize takeS x (segS ⟨0, u, some v, k, x⟩) v 0 0 = tk at *
    have hSW : val (u.drop k) < 4294967296 ^ (m + 3) := by rw [hpow]; omega
    generalize 4294967296 ^ (m + 3) = W at *
    have hQ3 : (Q + 1) * val v = Q * val v + val v := by rw [Nat.add_mul, Nat.one_mul]
    rw [hQ3] at hQ2
    rcases (show x = Q ∨ x = Q + 1 by omega) with rfl | rfl
    · have hb0 : tk.2 = 0 := by
        rcases (show tk.2 = 0 ∨ tk.2 = 1 by omega) with h | h
        · exact h
        · rw [h] at ht1; omega
      refine ⟨fun h => by omega, fun _ => ⟨rfl, ?_, ?_⟩⟩
      · rw [hb0] at ht1; omega
      · rw [hb0] at ht1; omega
    · rw [hQ3] at ht1
      have hb1 : tk.2 = 1 := by
        rcases (show tk.2 = 0 ∨ tk.2 = 1 by omega) with h | h
        · rw [h] at ht1; omega
        · exact h
      rw [hb1] at ht1
      have hg2 : val (giveS tk.1 v 0) = val (u.drop k) - Q * val v := by
        rw [hgv, show val tk.1 + val v + 0 = (val (u.drop k) - Q * val v) + W by omega, Nat.add_mod_right, Nat.mod_eq_of_lt (by omega)]
      refine ⟨fun _ => ⟨rfl, by omega, by omega⟩, fun h => absurd hb1 h⟩
end Go.Proofs.YtikkpecdkdgmfaaDoor

/- Numbers of any size: long division. -/
set_option maxRecDepth 100000
set_option maxHeartbeats 2000000
namespace Go.Proofs.YtikkpecdkdgmfaaDoor
open Go Go.Den
theorem reach_limbs {H : Heap} {id ver off n cap : Nat} {ty : TypeId} {l : List UInt32} (h : H[id]? = some (.row ver 1 ty (l.map eu))) : reach 64 H (.sl id ver off n cap) = [id] := by
  show id :: (match H[id]? with | some (.row _ _ _ es) => es.flatMap fun e => e.cells.flatMap (reach 63 H) | _ => []) = [id]
  rw [h]
  dsimp only
  rw [List.cons.injEq]
  refine ⟨rfl, List.flatMap_eq_nil_iff.2 fun e he => ?_⟩
  obtain ⟨x, _, rfl⟩ := List.mem_map.1 he
  rfl
theorem kGuessH {R : Type} {id : Nat} {u : List UInt32} {v : Option (List UInt32)} {i : Int} {H : Heap} (h : H[id]? = some (.row 0 1 64 (u.map eu))) (hp : guessP (some u) v i) {k : AV → Heap → Option R} : polK pGuess [.sl id 0 0 u.length u.length, eD v, .int .i64 i] H k = k (.int .u64 (guessS (some u) v i)) H := by
  unfold pGuess
  have hf : freezeAll H [.sl id 0 0 u.length u.length, eD v, .int .i64 i] = some [eD (some u), eD v, .int .i64 i] := freezeAll_cons (frz_limbs h rfl 62) (freezeAll_cons frz_eD (freezeAll_cons rfl rfl))
  rw [polK_frz hf]
  simp only [p3_app, dec_cD, dec_cI, Option.bind_some]
  rw [if_pos hp]
  rfl
theorem kBackH {R : Type} {id : Nat} {u : List UInt32} {s : Nat} {H : Heap} (h : H[id]? = some (.row 0 1 64 (u.map eu))) (hu : u.length ≤ 2000000) (hs : s ≤ 31) {k : AV → Heap → Option R} : polK pBack [.sl id 0 0 u.length u.length, .int .i64 (s : Nat)] H k = k (eD (some (digs u.length (val u / 2 ^ s)))) (H.set id .dead) := by
  unfold pBack
  have hf : freezeAll H [.sl id 0 0 u.length u.length, .int .i64 (s : Nat)] = some [eD (some u), .int .i64 (s : Nat)] := freezeAll_cons (frz_limbs h rfl 62) (freezeAll_cons rfl rfl)
  rw [polK_frz hf]
  simp only [p2_app, dec_cD, dec_cI, Option.bind_some]
  rw [if_pos ⟨hu, by omega, by omega⟩]
  have hr : ([AV.sl id 0 0 u.length u.length, .int .i64 (s : Nat)]).flatMap (reach 64 H) = [id] := by
    simp only [List.flatMap_cons, List.flatMap_nil, reach_limbs h]
    rfl
  rw [hr]
  rfl
noncomputable abbrev TDvd : List (FuncId × Pol) := [(65, pGuess), (66, pTake), (67, pGive), (64, pShifted), (38, pCut), (68, pBack)]
theorem div_loop {v : List UInt32} {ui qi n N M s : Nat} (hn : v.length = n) (h2 : 2 ≤ n) (htop : 2147483648 ≤ at_ v (n - 1)) (hN : N ≤ 2000000) (hM : M ≤ 2000000) (hne : ui ≠ qi) : ∀ (j : Nat) (u q : List UInt32) (H : Heap), u.length = N → q.length = M → j ≤ M → j + n ≤ N → val (u.drop j) < val v →
    H[ui]? = some (.row 0 1 64 (u.map eu)) → H[qi]? = some (.row 0 1 64 (q.map eu)) →
    ∃ (H' : Heap) (u' q' : List UInt32), LDoes (L45_1 (polT TDvd)) ⟨[.int .i64 (s : Nat), eD (some v), .sl ui 0 0 N N, .sl qi 0 0 M M, .int .i64 ((j : Int) - 1)], []⟩ H 0 ⟨[.int .i64 (s : Nat), .sl ui 0 0 N N, .sl qi 0 0 M M], []⟩ H' ∧
      H'[ui]? = some (.row 0 1 64 (u'.map eu)) ∧ H'[qi]? = some (.row 0 1 64 (q'.map eu)) ∧ u'.length = N ∧ q'.length = M ∧ val u' < val v ∧ val u' + val v * val (q'.take j) = val u ∧ q'.drop j = q.drop j := by
  intro j
  induction j with
  | zero =>
    intro u q H hu hq hjM hjN hinv hHu hHq
    refine ⟨H, u, q, LDoes.step (Evs.of fun n m => ?_), hHu, hHq, hu, hq, by simpa using hinv, by simp [val], rfl⟩
    simp [↓test_bool, ↓withV_of, L45_1_step]
  | succ k ih =>
    intro u q H hu hq hjM hjN hinv hHu hHq
    obtain ⟨hu0, x, b, Q, hg, hx, hQ, hb, hSB, hb1, hb0⟩ := div_digit (u := u) (v := v) (k := k) hn h2 (by omega) htop hinv
    have hgP : guessP (some u) (some v) (k : Nat) := by
      unfold guessP
      simp only [Option.getD_some, Int.toNat_natCast, hn]
      exact ⟨by omega, h2, by omega, by omega, by omega, htop, hu0⟩
    have hG := @kGuessH
    have hgk : ∀ (K : AV → Heap → Option (Nat × Live × Heap)), polK pGuess [.sl ui 0 0 N N, eD (some v), .int .i64 (k : Nat)] H K = K (.int .u64 (x : Nat)) H := fun K => by
      have h := kGuessH (k := K) hHu hgP
      rw [hg, hu] at h
      exact h
    have hat : atRow ⟨ui, u, some v, k, x⟩ H := ⟨hHu, by dsimp only; omega, by simp only [Option.getD_some, hn]; omega⟩
    have hseg : ∀ i : Nat, segS ⟨i, u, some v, k, x⟩ = segS ⟨0, u, some v, k, x⟩ := fun _ => rfl
    have htl := takeS_len x (segS ⟨0, u, some v, k, x⟩) v 0 0
    have hsl : (segS ⟨0, u, some v, k, x⟩).length = n + 1 := by
      unfold segS
      simp only [Option.getD_some, List.length_take, List.length_drop, hn]
      omega
    rw [hsl] at htl
    have htk : ∀ (K : AV → Heap → Option (Nat × Live × Heap)), polK pTake [.sl ui 0 0 N N, eD (some v), .int .i64 (k : Nat), .int .u64 (x : Nat)] H K = K (.bool (decide (b = 1))) (H.set ui (.row 0 1 64 ((putS ⟨0, u, some v, k, x⟩ (takeS x (segS ⟨0, u, some v, k, x⟩) v 0 0).1).map eu))) := fun K => by
      have h := kTake (k := K) hat (by dsimp only; omega)
      dsimp only at h
      rw [hu] at h
      rw [h]
      unfold resTake
      dsimp only [Option.getD_some]
      simp only [hseg, hb]
      rfl
    generalize takeS x (segS ⟨0, u, some v, k, x⟩) v 0 0 = tk at *
    -- what stands in the row: o where the digit is taken
    have put_len : ∀ o : List UInt32, o.length = n + 1 → (putS ⟨0, u, some v, k, x⟩ o).length = N := fun o ho => by
      unfold putS
      simp only [Option.getD_some, List.length_append, List.length_take, List.length_drop, ho, hn]
      omega
    have put_val : ∀ o : List UInt32, o.length = n + 1 → val o + Q * val v = val (u.drop k) → val o < val v → val (putS ⟨0, u, some v, k, x⟩ o) + val v * (4294967296 ^ k * Q) = val u ∧ val ((putS ⟨0, u, some v, k, x⟩ o).drop k) < val v := fun o ho hov hol => by
      have hzz : val (u.drop (k + n + 1)) = 0 := by
        have e := val_drop (l := u.drop (k + 1)) (n := n) (by rw [List.length_drop]; omega)
        rw [List.drop_drop, show k + 1 + n = k + n + 1 by omega] at e
        have hvn : val v < 4294967296 ^ n := by rw [← hn]; exact val_lt v
        rcases Nat.eq_zero_or_pos (val (u.drop (k + n + 1))) with h0 | h0
        · exact h0
        · exfalso
          have : 4294967296 ^ n * 1 ≤ 4294967296 ^ n * val (u.drop (k + n + 1)) := Nat.mul_le_mul_left _ h0
          omega
      have hku : (u.take k).length = k := by rw [List.length_take]; omega
      have hdr : (putS ⟨0, u, some v, k, x⟩ o).drop k = o ++ u.drop (k + n + 1) := by
        unfold putS
        simp only [Option.getD_some, hn]
        rw [List.append_assoc, List.drop_append, List.drop_of_length_le (by omega), hku, Nat.sub_self, List.drop_zero, List.nil_append]
      have hvd : val (o ++ u.drop (k + n + 1)) = val o := by rw [val_append, hzz, Nat.mul_zero, Nat.add_zero]
      refine ⟨?_, by rw [hdr, hvd]; exact hol⟩
      have e1 : val (putS ⟨0, u, some v, k, x⟩ o) = val (u.take k) + 4294967296 ^ k * val o := by
        unfold putS
        simp only [Option.getD_some, hn]
        rw [List.append_assoc, val_append, hku, hvd]
      rw [e1, val_drop (l := u) (n := k) (by omega), ← hov, Nat.mul_add, ← Nat.mul_assoc, Nat.mul_comm (val v), Nat.mul_assoc, Nat.add_assoc, Nat.mul_comm Q]
    have hkq : k < q.length := by omega
    obtain ⟨hdig, o', ho', hov', hol', hwalk⟩ : (if b = 1 then x - 1 else x) = Q ∧ ∃ o' : List UInt32, o'.length = n + 1 ∧ val o' + Q * val v = val (u.drop k) ∧ val o' < val v ∧
        (if b = 1 then ∀ (K : AV → Heap → Option (Nat × Live × Heap)), polK pGive [.sl ui 0 0 N N, eD (some v), .int .i64 (k : Nat)] (H.set ui (.row 0 1 64 ((putS ⟨0, u, some v, k, x⟩ tk.1).map eu))) K = K (.tup []) (H.set ui (.row 0 1 64 ((putS ⟨0, u, some v, k, x⟩ o').map eu))) else o' = tk.1) := by
      by_cases hbb : b = 1
      · obtain ⟨hx1, hv1, hl1⟩ := hb1 hbb
        rw [if_pos hbb]
        refine ⟨by omega, giveS tk.1 v 0, by rw [giveS_len]; exact htl, hv1, hl1, ?_⟩
        rw [if_pos hbb]
        intro K
        have hku : (u.take k).length = k := by rw [List.length_take]; omega
        have hps : segS ⟨ui, putS ⟨0, u, some v, k, x⟩ tk.1, some v, k, x⟩ = tk.1 := by
          unfold segS putS
          simp only [Option.getD_some, hn]
          rw [List.append_assoc, List.drop_append, List.drop_of_length_le (by omega), hku, Nat.sub_self, List.drop_zero, List.nil_append, List.take_append_of_le_length (by omega), List.take_of_length_le (by omega)]
        have hpp : ∀ r, putS ⟨ui, putS ⟨0, u, some v, k, x⟩ tk.1, some v, k, x⟩ r = putS ⟨0, u, some v, k, x⟩ r := fun r => by
          unfold putS
          simp only [Option.getD_some, hn]
          congr 1
          · congr 1
            rw [List.append_assoc, List.take_append_of_le_length (by omega), List.take_of_length_le (by omega)]
          · rw [List.drop_append, List.drop_of_length_le (by simp only [List.length_append]; omega), List.nil_append]
            simp only [List.length_append, hku, htl]
            rw [show k + n + 1 - (k + (n + 1)) = 0 by omega, List.drop_zero]
        have hat2 : atRow ⟨ui, putS ⟨0, u, some v, k, x⟩ tk.1, some v, k, x⟩ (H.set ui (.row 0 1 64 ((putS ⟨0, u, some v, k, x⟩ tk.1).map eu))) := ⟨row_set hHu, by dsimp only; rw [put_len _ htl]; exact hN, by simp only [Option.getD_some, hn]; rw [put_len _ htl]; omega⟩
        have h := kGive (k := K) hat2
        dsimp only at h
        rw [put_len _ htl] at h
        rw [h]
        unfold resGive
        dsimp only [Option.getD_some]
        rw [hps, hpp, List.set_set]
      · obtain ⟨hx0, hv0, hl0⟩ := hb0 hbb
        rw [if_neg hbb]
        refine ⟨hx0, tk.1, htl, hv0, hl0, ?_⟩
        rw [if_neg hbb]
    obtain ⟨hval, hdrop⟩ := put_val o' ho' hov' hol'
    have hH1q : (H.set ui (.row 0 1 64 ((putS ⟨0, u, some v, k, x⟩ o').map eu)))[qi]? = some (.row 0 1 64 (q.map eu)) := by rw [get_set_ne hne]; exact hHq
    obtain ⟨r1, r2, r3⟩ := lrow (k := .i64) (n := M) (j := k) (i := (k : Int)) hH1q hq.symm hkq rfl
    have hst := r3 (UInt32.ofNat Q)
    have hHu2 : ((H.set ui (.row 0 1 64 ((putS ⟨0, u, some v, k, x⟩ o').map eu))).set qi (.row 0 1 64 ((q.set k (UInt32.ofNat Q)).map eu)))[ui]? = some (.row 0 1 64 ((putS ⟨0, u, some v, k, x⟩ o').map eu)) := by
      rw [get_set_ne (Ne.symm hne)]
      exact row_set hHu
    obtain ⟨H', u', q', hL, s1, s2, s3, s4, s5, s6, s7⟩ := ih (putS ⟨0, u, some v, k, x⟩ o') (q.set k (UInt32.ofNat Q)) _ (put_len o' ho') (by rw [List.length_set, hq]) (by omega) (by omega) hdrop hHu2 (row_set hH1q)
    have hkq' : k < q'.length := by omega
    have hqk : q'[k] = UInt32.ofNat Q := by
      have e : (q'.drop k)[0]? = ((q.set k (UInt32.ofNat Q)).drop k)[0]? := by rw [s7]
      rw [List.getElem?_drop, List.getElem?_drop, Nat.add_zero, List.getElem?_eq_getElem hkq', List.getElem?_set_self hkq] at e
      exact Option.some.inj e
    refine ⟨H', u', q', ?_, s1, s2, s3, s4, s5, ?_, ?_⟩
    · refine LDoes.step (Evs.withL hL (Evs.of fun n' m _ h3 => ?_))
      have hj1 : ((k + 1 : Nat) : Int) - 1 = (k : Nat) := by omega
      rw [hj1]
      have hk0 : (0 : Int) ≤ (k : Int) := by omega
      have hw : IntKind.wrap .u32 (Q : Int) = ((UInt32.ofNat Q).toNat : Int) := wrap_nat32 Q
      simp only [List.map_set] at h3 hst
      generalize UInt32.ofNat Q = dq at *
      by_cases hbb : b = 1
      · rw [if_pos hbb] at hwalk hdig
        have hxQ : (x : Int) - 1 = (Q : Int) := by
          have := (hb1 hbb).1
          omega
        generalize (putS ⟨0, u, some v, k, x⟩ o').map eu = row1 at *
        generalize (putS ⟨0, u, some v, k, x⟩ tk.1).map eu = row0 at *
        clear ih hL put_len put_val hG hb0 hb1 hat r3
        simp (disch := omega) [↓test_bool, ↓bindV_eq, ↓withV_of, ↓withH_some, ↓bindX_some, L45_1_step, hk0, hgk, htk, hbb, hwalk, hxQ, wrap_u64, wrap_i64, cv_64_32, hw, r1, hst, h3]
      · rw [if_neg hbb] at hwalk hdig
        subst hwalk
        subst hdig
        generalize (putS ⟨0, u, some v, k, x⟩ tk.1).map eu = row0 at *
        clear ih hL put_len put_val hG hb0 hb1 hat r3
        simp (disch := omega) [↓test_bool, ↓bindV_eq, ↓withV_of, ↓withH_some, ↓bindX_some, L45_1_step, hk0, hgk, htk, hbb, wrap_i64, cv_64_32, hw, r1, hst, h3]
    · rw [val_take_succ hkq', hqk, limb_of, Nat.mod_eq_of_lt hQ, Nat.mul_add, ← Nat.add_assoc, s6]
      exact hval
    · have e1 : q'.drop (k + 1) = (q'.drop k).drop 1 := by rw [List.drop_drop]
      have e2 : q.drop (k + 1) = ((q.set k (UInt32.ofNat Q)).drop k).drop 1 := by rw [List.drop_drop, List.drop_set_of_lt (by omega)]
      rw [e1, e2, s7]
end Go.Proofs.YtikkpecdkdgmfaaDoor

/- Numbers of any size: long division, as an entry. -/
set_option maxRecDepth 100000
set_option maxHeartbeats 2000000
namespace Go.Proofs.YtikkpecdkdgmfaaDoor
open Go Go.Den
theorem shr_u32 {P : Program} {t : TypeId} {c : Bool} {H : Heap} {a s : Nat} {j : IntKind} (h : s ≤ 32) : A.bin P .shr t (.int .u32 (a : Int)) (.int j (s : Int)) c H = some (.int .u32 ((a / 2 ^ s : Nat) : Int)) := by
  simp only [A.bin, A.binInt]
  rw [if_neg (by omega)]
  have : min (s : Int).toNat (IntKind.bits .u32) = s := by simp [IntKind.bits]; omega
  have e : (2 : Int) ^ s = ((2 ^ s : Nat) : Int) := by push_cast; rfl
  rw [this, e, Int.fdiv_eq_ediv_of_nonneg _ (Int.natCast_nonneg _)]
  rfl
theorem shl_u32 {P : Program} {t : TypeId} {c : Bool} {H : Heap} {a s : Nat} {j : IntKind} (h : s ≤ 32) (hl : 2 ^ s * a < 4294967296) : A.bin P .shl t (.int .u32 (a : Int)) (.int j (s : Int)) c H = some (.int .u32 ((2 ^ s * a : Nat) : Int)) := by
  rw [Nat.mul_comm] at hl ⊢
  simp only [A.bin, A.binInt]
  rw [if_neg (by omega)]
  have : min (s : Int).toNat (IntKind.bits .u32) = s := by simp [IntKind.bits]; omega
  rw [this]
  have e : (a : Int) * 2 ^ s = ((a * 2 ^ s : Nat) : Int) := by push_cast; rfl
  rw [e, wrap_u32 (by omega) (by omega)]
theorem shift_loop {pol : FuncId → Pol} {a0 : AV} {d : Option (List UInt32)} {n : Nat} (hn : (d.getD []).length = n) (h1 : 1 ≤ n) (hnb : n ≤ 2000000) (ht : at_ (d.getD []) (n - 1) ≠ 0) (H : Heap) : ∀ (f s : Nat), s + f = 32 → 2 ^ s * at_ (d.getD []) (n - 1) < 4294967296 →
    ∃ s', s' ≤ 31 ∧ 2147483648 ≤ 2 ^ s' * at_ (d.getD []) (n - 1) ∧ 2 ^ s' * at_ (d.getD []) (n - 1) < 4294967296 ∧ LDoes (L45_0 pol) ⟨[a0, eD d, .int .i64 (s : Nat)], []⟩ H 0 ⟨[a0, eD d, .int .i64 (s' : Nat)], []⟩ H := by
  intro f
  induction f with
  | zero =>
    intro s hs hlt
    exfalso
    have : s = 32 := by omega
    subst this
    omega
  | succ f ih =>
    intro s hs hlt
    have i1 : A.idx 1 (eD d) (.int .i64 ((n : Int) - 1)) H = some (.rop [.int .u32 (at_ (d.getD []) (n - 1) : Nat)]) := by
      rw [show (n : Int) - 1 = ((n - 1 : Nat) : Int) by omega]
      exact at_idx (d := d) (by omega) H
    have hshl : A.bin base.P .shl 64 (.int .u32 (at_ (d.getD []) (n - 1) : Int)) (.int .i64 (s : Int)) false H = some (.int .u32 ((2 ^ s * at_ (d.getD []) (n - 1) : Nat) : Int)) := shl_u32 (by omega) hlt
    have hshr : A.bin base.P .shr 64 (.int .u32 ((2 ^ s * at_ (d.getD []) (n - 1) : Nat) : Int)) (.int .u64 31) true H = some (.int .u32 ((2 ^ s * at_ (d.getD []) (n - 1) / 2 ^ 31 : Nat) : Int)) := shr_u32 (s := 31) (by omega)
    by_cases hc : 2 ^ s * at_ (d.getD []) (n - 1) < 2147483648
    · obtain ⟨s', g1, g2, g3, hL⟩ := ih (s + 1) (by omega) (by rw [Nat.pow_succ, Nat.mul_comm (2 ^ s) 2, Nat.mul_assoc]; omega)
      refine ⟨s', g1, g2, g3, LDoes.step (Evs.withL hL (Evs.of fun n' m _ h3 => ?_))⟩
      have hz : ((2 ^ s * at_ (d.getD []) (n - 1) / 2 ^ 31 : Nat) : Int) = 0 := by
        rw [Nat.div_eq_of_lt (by omega)]; rfl
      rw [hz] at hshr
      generalize ((2 ^ s * at_ (d.getD []) (n - 1) : Nat) : Int) = y at *
      simp only [Int.natCast_add, Int.natCast_one] at h3
      simp (disch := omega) [↓test_bool, ↓withV_of, L45_0_step, hn, wrap_i64, i1, hshl, hshr, h3]
    · refine ⟨s, by omega, by omega, hlt, LDoes.step (Evs.of fun n' m => ?_)⟩
      have hz : ((2 ^ s * at_ (d.getD []) (n - 1) / 2 ^ 31 : Nat) : Int) = 1 := by
        have : 2 ^ s * at_ (d.getD []) (n - 1) / 2 ^ 31 = 1 := by omega
        rw [this]; rfl
      rw [hz] at hshr
      generalize ((2 ^ s * at_ (d.getD []) (n - 1) : Nat) : Int) = y at *
      simp (disch := omega) [↓test_bool, ↓withV_of, L45_0_step, hn, wrap_i64, i1, hshl, hshr]
theorem norm_top {b : List UInt32} {n s : Nat} (hn : b.length = n) (h1 : 1 ≤ n) (hs : s ≤ 31) (hlo : 2147483648 ≤ 2 ^ s * at_ b (n - 1)) (hhi : 2 ^ s * at_ b (n - 1) < 4294967296) :
    (lim (2 ^ s * val b)).length = n ∧ 2147483648 ≤ at_ (lim (2 ^ s * val b)) (n - 1) ∧ 2147483648 * 4294967296 ^ (n - 1) ≤ 2 ^ s * val b := by
  obtain ⟨m, rfl⟩ : ∃ m, n = m + 1 := ⟨n - 1, by omega⟩
  rw [show m + 1 - 1 = m from rfl] at *
  have hb : val b = val (b.take m) + 4294967296 ^ m * at_ b m := by rw [← val_at, List.take_of_length_le (by omega)]
  have hbt := val_take_lt b m
  have hsp := pow_split hs
  have hP : 0 < 2 ^ s := Nat.pow_pos (by omega)
  have htop : 2 ^ s * (at_ b m + 1) ≤ 4294967296 := by
    rw [← hsp] at hhi ⊢
    have := Nat.lt_of_mul_lt_mul_left hhi
    exact Nat.mul_le_mul_left _ this
  have hge : 2147483648 * 4294967296 ^ m ≤ 2 ^ s * val b := by
    rw [hb, Nat.mul_add, Nat.mul_left_comm]
    have : 4294967296 ^ m * 2147483648 ≤ 4294967296 ^ m * (2 ^ s * at_ b m) := Nat.mul_le_mul_left _ hlo
    rw [Nat.mul_comm 2147483648]
    exact Nat.le_trans this (Nat.le_add_left _ _)
  have hlt : 2 ^ s * val b < 4294967296 ^ (m + 1) := by
    have h2 : val b < 4294967296 ^ m * (at_ b m + 1) := by rw [hb, Nat.mul_add, Nat.mul_one]; omega
    have h3 : 2 ^ s * val b < 2 ^ s * (4294967296 ^ m * (at_ b m + 1)) := Nat.mul_lt_mul_of_pos_left h2 hP
    have h4 : 2 ^ s * (4294967296 ^ m * (at_ b m + 1)) ≤ 4294967296 ^ (m + 1) := by
      rw [Nat.mul_left_comm, Nat.pow_succ]
      exact Nat.mul_le_mul_left _ htop
    exact Nat.lt_of_lt_of_le h3 h4
  have hle : (lim (2 ^ s * val b)).length ≤ m + 1 := lim_le.2 hlt
  have hat : 2147483648 ≤ at_ (lim (2 ^ s * val b)) m := by
    have e : val (lim (2 ^ s * val b)) = val ((lim (2 ^ s * val b)).take m) + 4294967296 ^ m * at_ (lim (2 ^ s * val b)) m := by rw [← val_at, List.take_of_length_le hle]
    rw [val_lim] at e
    have h4 := val_take_lt (lim (2 ^ s * val b)) m
    have h5 : 4294967296 ^ m * 2147483648 < 4294967296 ^ m * (at_ (lim (2 ^ s * val b)) m + 1) := by
      rw [Nat.mul_add, Nat.mul_one, Nat.mul_comm _ 2147483648]
      omega
    have := Nat.lt_of_mul_lt_mul_left h5
    omega
  refine ⟨?_, hat, hge⟩
  rcases Nat.lt_or_ge (lim (2 ^ s * val b)).length (m + 1) with h | h
  · rw [at_out (by omega)] at hat
    omega
  · omega
def dividedS (a b : Option (List UInt32)) : List UInt32 × List UInt32 := (digs ((a.getD []).length - (b.getD []).length + 1) (val (a.getD []) / val (b.getD [])), digs ((a.getD []).length + 1) (val (a.getD []) % val (b.getD [])))
def dividedP (a b : Option (List UInt32)) : Prop := 2 ≤ (b.getD []).length ∧ (b.getD []).length ≤ (a.getD []).length ∧ (a.getD []).length ≤ 900000 ∧ at_ (b.getD []) ((b.getD []).length - 1) ≠ 0
noncomputable def pDivided : Pol := .still (p2 cD cD (fun r : List UInt32 × List UInt32 => .tup [eD (some r.1), eD (some r.2)]) dividedP dividedS)
theorem quot_val {A B V U q r p : Nat} (hp : 0 < p) (hV : V = p * B) (hU : U = p * A) (h : r + V * q = U) (hr : r < V) : q = A / B ∧ r / p = A % B := by
  subst hV hU
  have hB : 0 < p * B := by omega
  have h1 : (p * A) / (p * B) = q := by
    rw [← h, Nat.add_mul_div_left _ _ hB, Nat.div_eq_of_lt hr, Nat.zero_add]
  have h2 : (p * A) % (p * B) = r := by
    rw [← h, Nat.add_mul_mod_self_left, Nat.mod_eq_of_lt hr]
  rw [Nat.mul_div_mul_left _ _ hp] at h1
  rw [Nat.mul_mod_mul_left] at h2
  exact ⟨h1.symm, by rw [← h2, Nat.mul_div_cancel_left _ hp]⟩
theorem frz_two {H : Heap} {id n : Nat} {ty : TypeId} {l : List UInt32} {d : Option (List UInt32)} (h : H[id]? = some (.row 0 1 ty (l.map eu))) (hn : n = l.length) : A.freezeB true 64 H (.tup [.sl id 0 0 n n, eD d]) = some (.tup [eD (some l), eD d]) := by
  have h1 : A.freezeB true 63 H (.sl id 0 0 n n) = _ := frz_limbs h hn 61
  have h2 : A.freezeB true 63 H (eD d) = some (eD d) := (imm_frz (v := eD d) (by simp) 60 H).1
  rw [freeze_tup64]
  simp [h1, h2]
theorem okDivided : PolOK base 45 pDivided := still2 base_ok TDvd ⟨okGuess, okTake, okGive, okShifted, okCut, okBack, trivial⟩ fun a b ⟨h2, hab, hla, htop⟩ => by
  obtain ⟨n, hn⟩ : ∃ n, (b.getD []).length = n := ⟨_, rfl⟩
  obtain ⟨la, hal⟩ : ∃ n, (a.getD []).length = n := ⟨_, rfl⟩
  rw [hn, hal] at hab
  rw [hn] at h2 htop
  rw [hal] at hla
  have fa : few a := by unfold few; omega
  have fb : few b := by unfold few; omega
  obtain ⟨s, hs, hlo, hhi, hL0⟩ := shift_loop (pol := polT TDvd) (a0 := eD a) (d := b) (n := n) hn (by omega) (by omega) htop [] 32 0 rfl (by have := at_lt (b.getD []) (n - 1); omega)
  obtain ⟨hvl, hvt, hvV⟩ := norm_top hn (by omega) hs hlo hhi
  have hps : 0 < 2 ^ s := Nat.pow_pos (by omega)
  have hp31 := pow_small hs
  have sh_val : ∀ l : List UInt32, val (shiftedL l s) = 2 ^ s * val l := fun l => by
    unfold shiftedL
    refine val_digs_lt ?_
    have := val_lt l
    rw [Nat.pow_succ, Nat.mul_comm _ 4294967296]
    exact Nat.lt_of_lt_of_le (Nat.mul_lt_mul_of_pos_left this hps) (Nat.mul_le_mul_right _ (by omega))
  have sh_len : ∀ l : List UInt32, (shiftedL l s).length = l.length + 1 := fun l => by unfold shiftedL; rw [digs_length]
  -- what it is divided by
  obtain ⟨G, hcut⟩ : ∃ G : Heap, ∀ (k : AV → Heap → Option AV), polK pCut [.sl 0 0 0 (n + 1) (n + 1)] [.row 0 1 64 ((shiftedL (b.getD []) s).map eu)] k = k (eD (some (lim (2 ^ s * val (b.getD []))))) G := ⟨_, fun k => by
    unfold pCut
    have hf : freezeAll [.row 0 1 64 ((shiftedL (b.getD []) s).map eu)] [.sl 0 0 0 (n + 1) (n + 1)] = some [eD (some (shiftedL (b.getD []) s))] := freezeAll_cons (frz_limbs (l := shiftedL (b.getD []) s) rfl (by rw [sh_len, hn]) 62) rfl
    rw [polK_frz hf]
    simp only [p1_app, dec_cD, Option.bind_some]
    rw [if_pos (by unfold few; rw [Option.getD_some, sh_len]; omega)]
    unfold cutS
    rw [Option.map_some, sh_val]
    rfl⟩
  have hV : val (lim (2 ^ s * val (b.getD []))) = 2 ^ s * val (b.getD []) := val_lim _
  generalize lim (2 ^ s * val (b.getD [])) = v at *
  -- the digits
  obtain ⟨M, hM⟩ : ∃ M, M = la - n + 1 := ⟨_, rfl⟩
  have hmk : A.makeSlice 1 4 64 (.int .u32 0) (.int .i64 ((la : Int) - (n : Int) + 1)) (.int .i64 ((la : Int) - (n : Int) + 1)) (G ++ [.row 0 1 64 ((shiftedL (a.getD []) s).map eu)]) = some (.sl (G.length + 1) 0 0 M M, G ++ [.row 0 1 64 ((shiftedL (a.getD []) s).map eu)] ++ [.row 0 1 64 ((List.replicate M (0 : UInt32)).map eu)]) := by
    rw [show (la : Int) - (n : Int) + 1 = ((M : Nat) : Int) by omega, row_make (bytes := 4) (l := ((M : Nat) : Int)) (by omega) (by omega) (by omega)]
    simp
  have hinv : val ((shiftedL (a.getD []) s).drop M) < val v := by
    have e := val_drop (l := shiftedL (a.getD []) s) (n := M) (by rw [sh_len, hal]; omega)
    rw [sh_val] at e
    have h3 := val_lt (a.getD [])
    rw [hal] at h3
    have h4 : 4294967296 ^ M * val ((shiftedL (a.getD []) s).drop M) < 4294967296 ^ M * (2147483648 * 4294967296 ^ (n - 1)) := by
      have e1 : 4294967296 ^ M * (2147483648 * 4294967296 ^ (n - 1)) = 2147483648 * 4294967296 ^ la := by
        rw [Nat.mul_left_comm, ← Nat.pow_add, show M + (n - 1) = la by omega]
      rw [e1]
      have h5 : 2 ^ s * val (a.getD []) < 2 ^ s * 4294967296 ^ la := Nat.mul_lt_mul_of_pos_left h3 hps
      have h6 : 2 ^ s * 4294967296 ^ la ≤ 2147483648 * 4294967296 ^ la := Nat.mul_le_mul_right _ hp31
      generalize 4294967296 ^ M * val ((shiftedL (a.getD []) s).drop M) = X at *
      omega
    have := Nat.lt_of_mul_lt_mul_left h4
    rw [hV]
    omega
  obtain ⟨H', u', q', hL, s1, s2, s3, s4, s5, s6, -⟩ := div_loop (v := v) (ui := G.length) (qi := G.length + 1) (n := n) (N := la + 1) (M := M) (s := s) hvl h2 hvt (by omega) (by omega) (by omega) M (shiftedL (a.getD []) s) (List.replicate M 0) (G ++ [.row 0 1 64 ((shiftedL (a.getD []) s).map eu)] ++ [.row 0 1 64 ((List.replicate M (0 : UInt32)).map eu)])
    (by rw [sh_len, hal]) (by simp) (Nat.le_refl _) (by omega) hinv (by simp) (by simp)
  rw [List.take_of_length_le (by omega), sh_val] at s6
  obtain ⟨hq, hr⟩ := quot_val hps hV rfl s6 s5
  have hbk : ∀ (k : AV → Heap → Option AV), polK pBack [.sl G.length 0 0 (la + 1) (la + 1), .int .i64 (s : Nat)] H' k = k (eD (some (digs (la + 1) (val (a.getD []) % val (b.getD []))))) (H'.set G.length .dead) := fun k => by
    have h := kBackH (k := k) (s := s) s1 (by omega) hs
    rw [s3, hr] at h
    exact h
  have hfz : A.freezeB true 64 (H'.set G.length .dead) (.tup [.sl (G.length + 1) 0 0 M M, eD (some (digs (la + 1) (val (a.getD []) % val (b.getD []))))]) = some (.tup [eD (some q'), eD (some (digs (la + 1) (val (a.getD []) % val (b.getD []))))]) :=
    frz_two (by rw [get_set_ne (by omega)]; exact s2) s4.symm
  have hqd : q' = digs M (val (a.getD []) / val (b.getD [])) := eq_digs s4 hq
  refine Evs.withL hL0 (Evs.withL hL (Evs.of fun n' m g3 _ g0 _ => ?_))
  unfold dividedS
  dsimp only
  rw [hal, hn, ← hM, ← hqd]
  have hM1 : (M : Int) - 1 = (la : Int) - (n : Int) := by omega
  rw [hM1] at g3
  have e0 : ((0 : Nat) : Int) = 0 := rfl
  simp only [e0] at g0
  have hsh1 : ∀ (k : AV → Heap → Option AV), polK pShifted [eD b, .int .i64 (s : Nat)] [] k = k (.sl 0 0 0 (n + 1) (n + 1)) [.row 0 1 64 ((shiftedL (b.getD []) s).map eu)] := fun k => by
    rw [kShifted fb hs, hn]
    rfl
  have hsh2 : ∀ (k : AV → Heap → Option AV), polK pShifted [eD a, .int .i64 (s : Nat)] G k = k (.sl G.length 0 0 (la + 1) (la + 1)) (G ++ [.row 0 1 64 ((shiftedL (a.getD []) s).map eu)]) := fun k => by
    rw [kShifted fa hs, hal]
  generalize digs (la + 1) (val (a.getD []) % val (b.getD [])) = rd at *
  generalize G ++ [.row 0 1 64 ((shiftedL (a.getD []) s).map eu)] ++ [.row 0 1 64 ((List.replicate M (0 : UInt32)).map eu)] = H7 at *
  generalize G ++ [.row 0 1 64 ((shiftedL (a.getD []) s).map eu)] = H6 at *
  generalize [HObj.row 0 1 64 ((shiftedL (b.getD []) s).map eu)] = H2 at *
  simp (disch := omega) [↓bindV_eq, ↓withV_of, ↓withVH_some, ↓bindX_some, S45, g0, hsh1, hcut, hsh2, hal, hn, wrap_i64, hmk, g3, hbk, hfz]
end Go.Proofs.YtikkpecdkdgmfaaDoor

/- Numbers of any size: quotients. -/
set_option maxRecDepth 100000
set_option maxHeartbeats 2000000
namespace Go.Proofs.YtikkpecdkdgmfaaDoor
open Go Go.Den
theorem kDivided {R : Type} {a b : Option (List UInt32)} (h : dividedP a b) {H : Heap} {k : AV → Heap → Option R} : polK pDivided [eD a, eD b] H k = k (.tup [eD (some (dividedS a b).1), eD (some (dividedS a b).2)]) H := by
  simp [pDivided, polK_imm, h]
theorem qDivided {R : Type} {a b : Option (List UInt32)} (h : dividedP a b) {H : Heap} {k : AV → Heap → Option R} : polQ pDivided [eD a, eD b] H k = k (.tup [eD (some (dividedS a b).1), eD (some (dividedS a b).2)]) H := by
  simp [pDivided, polQ_imm, h]
noncomputable def pDiv : Pol := .still (p2 cN cN eDiv (fun a b => lot a.2 ∧ lot b.2) divS)
noncomputable abbrev TDiv : List (FuncId × Pol) := [(38, pCut), (44, pSize), (19, pNorm), (36, pByOne), (34, pMade), (45, pDivided)]
theorem okDiv : PolOK base 21 pDiv := still2 base_ok TDiv ⟨okCut, okSize, okNorm, okByOne, okMade, okDivided, trivial⟩ fun a b ⟨la, lb⟩ => by
  refine Evs.of fun n m => ?_
  have ha := la.few
  have hb := lb.few
  have ga : (cutS a.2).getD [] = lim (mag a) := cutS_get
  have gb : (cutS b.2).getD [] = lim (mag b) := cutS_get
  have fa := few_cut ha
  have fb := few_cut hb
  have hsz : sizeS (cutS a.2) (cutS b.2) = cmpN (mag a) (mag b) := sizeS_lim ga gb
  unfold divS
  by_cases hB : mag b = 0
  · rw [if_pos hB]
    have gb0 : (cutS b.2).getD [] = [] := by rw [gb, hB, lim_zero]
    simp [↓test_bool, ↓bindV_eq, ↓bindC_eq, ↓bindH_eq, ↓withV_of, ↓chkD_true, S21, qCut ha, qCut hb, A.ofList, gb0, A.fill, A.fits, A.splice]
    exact frz_nnb (d := none) (e := none)
  · rw [if_neg hB]
    have hne : lim (mag b) ≠ [] := fun e => hB (lim_nil.1 e)
    have hl0 : ¬ ((lim (mag b)).length : Int) = 0 := by
      have : lim (mag b) ≠ [] := fun e => hB (lim_nil.1 e)
      have := List.length_pos_iff.2 this
      omega
    by_cases hlt : mag a < mag b
    · rw [if_pos hlt]
      have hc : cmpN (mag a) (mag b) < 0 := by unfold cmpN cmpI; rw [if_pos (by omega)]; omega
      simp [↓test_bool, ↓bindV_eq, ↓bindC_eq, ↓bindH_eq, ↓withV_of, ↓chkD_true, S21, qCut ha, qCut hb, A.ofList, gb, hne, kSize fa fb, hsz, hc, kNorm ha, A.fill, A.fits, A.splice]
      exact frz_nnb (d := none)
    · rw [if_neg hlt]
      have hc : ¬ cmpN (mag a) (mag b) < 0 := by
        unfold cmpN cmpI
        rw [if_neg (by omega)]
        split <;> omega
      by_cases hl : (lim (mag b)).length = 1
      · have hl1 : ((lim (mag b)).length : Int) = 1 := by omega
        have hb32 : mag b < 4294967296 := by
          have := lim_le.1 (Nat.le_of_eq hl)
          simpa using this
        have hy : lim (mag b) = [UInt32.ofNat (mag b)] := by
          rw [lim_pos hB, Nat.div_eq_of_lt hb32, lim_zero]
        have hyn : (UInt32.ofNat (mag b)).toNat = mag b := by rw [limb_of, Nat.mod_eq_of_lt hb32]
        have hx : A.idx 1 (eD (cutS b.2)) (.int .i64 0) [] = some (.rop [eu (UInt32.ofNat (mag b))]) := by
          have h := idx_eD (d := cutS b.2) (H := []) (k := .i64) (i := 0) (by rw [gb, hl]; omega)
          have e : ((cutS b.2).getD [])[0]'(by rw [gb, hl]; omega) = UInt32.ofNat (mag b) := by
            have : (cutS b.2).getD [] = [UInt32.ofNat (mag b)] := by rw [gb, hy]
            simp only [this]
            rfl
          rw [e] at h
          exact h
        have hby : byOneS (cutS a.2) (UInt32.ofNat (mag b)) = (some (digs (lim (mag a)).length (mag a / mag b)), UInt32.ofNat (mag a % mag b)) := by
          unfold byOneS
          rw [ga, val_lim, hyn]
        have hk : ∀ (H : Heap) (k : AV → Heap → Option AV), polK pByOne [eD (cutS a.2), eu (UInt32.ofNat (mag b))] H k = k (.tup [eD (some (digs (lim (mag a)).length (mag a / mag b))), eu (UInt32.ofNat (mag a % mag b))]) H := fun H k => by
          rw [kByOne fa (by rw [hyn]; exact hB), hby]
        obtain ⟨p, hp⟩ : ∃ p, (a.1 != b.1) = p := ⟨_, rfl⟩
        have hbin : ∀ H, A.bin base.P .neq 4 (.bool a.1) (.bool b.1) false H = some (.bool p) := fun H => by rw [A.bin_bne ty_bool, ← hp]; rfl
        have hq : madeS p (some (digs (lim (mag a)).length (mag a / mag b))) = madeS p (some (lim (mag a / mag b))) := made_val (by
          rw [val_lim]
          refine val_digs_lt ?_
          have := lim_le.1 (Nat.le_refl (lim (mag a)).length)
          exact Nat.lt_of_le_of_lt (Nat.div_le_self _ _) this)
        have hrm : mag a % mag b < mag b := Nat.mod_lt _ (by omega)
        have hr : madeS a.1 (some [UInt32.ofNat (mag a % mag b)]) = madeS a.1 (some (lim (mag a % mag b))) := made_val (by
          rw [val_lim, val, val, limb_of, Nat.mod_eq_of_lt (by omega), Nat.mul_zero, Nat.add_zero])
        have fq : few (some (digs (lim (mag a)).length (mag a / mag b))) := by
          unfold few
          simp only [Option.getD_some, digs_length]
          have := lot_cut la
          unfold lot at this
          rw [ga] at this
          omega
        generalize UInt32.ofNat (mag a % mag b) = r at *
        generalize UInt32.ofNat (mag b) = y at *
        generalize digs (lim (mag a)).length (mag a / mag b) = q at *
        have hfz : freezeAll [.row 0 1 64 [eu r]] [.bool a.1, .sl 0 0 0 1 1] = some [.bool a.1, eD (some [r])] := freezeAll_bool (freezeAll_cons (frz_limbs (l := [r]) rfl rfl 62) rfl)
        obtain ⟨G, hm⟩ : ∃ G : Heap, ∀ (k : AV → Heap → Option AV), polK pMade [.bool a.1, .sl 0 0 0 1 1] [.row 0 1 64 [eu r]] k = k (eN (madeS a.1 (some [r]))) G := ⟨_, fun k => by
          unfold pMade
          rw [polK_frz hfz]
          simp only [p2_app, dec_cB, dec_cD, Option.bind_some]
          rw [if_pos (by simp [few])]
          rfl⟩
        rw [hp, ← hq, ← hr]
        have hone := fillElems_one (eu r) (.int .u32 0) rfl rfl
        have hqm : ∀ (H : Heap) (k : AV → Heap → Option AV), polQ pMade [.bool p, eD (some q)] H k = k (eN (madeS p (some q))) H := fun H k => qMade fq
        generalize madeS p (some q) = M at *
        generalize madeS a.1 (some [r]) = N at *
        obtain ⟨M1, M2⟩ := M
        obtain ⟨N1, N2⟩ := N
        simp [↓test_bool, ↓bindV_eq, ↓bindC_eq, ↓bindH_eq, ↓withV_of, ↓withL_some, ↓chkD_true, S21, qCut ha, qCut hb, A.ofList, gb, hl1, kSize fa fb, hsz, hc, hx, hk, hbin, hqm, hone, hm, A.fill, A.fits, A.splice]
      · have hl1 : ¬ ((lim (mag b)).length : Int) = 1 := by omega
        have hge : mag b ≤ mag a := by omega
        have hlab : (lim (mag b)).length ≤ (lim (mag a)).length := by
          refine lim_le.2 (Nat.lt_of_le_of_lt hge ?_)
          exact lim_le.1 (Nat.le_refl _)
        have hlot : (lim (mag a)).length ≤ 900000 := by
          have := lot_cut la
          unfold lot at this
          rw [ga] at this
          exact this
        have htop : at_ (lim (mag b)) ((lim (mag b)).length - 1) ≠ 0 := by
          obtain ⟨x, hx, hx0⟩ := lim_last hB
          have hlt' : (lim (mag b)).length - 1 < (lim (mag b)).length := by omega
          rw [List.getLast?_eq_getElem?, List.getElem?_eq_getElem hlt'] at hx
          unfold at_
          rw [dif_pos hlt', Option.some.inj hx]
          exact fun e => hx0 (UInt32.toNat_inj.1 e)
        have hdP : dividedP (cutS a.2) (cutS b.2) := by
          unfold dividedP
          rw [ga, gb]
          exact ⟨by omega, hlab, hlot, htop⟩
        have hS : dividedS (cutS a.2) (cutS b.2) = (digs ((lim (mag a)).length - (lim (mag b)).length + 1) (mag a / mag b), digs ((lim (mag a)).length + 1) (mag a % mag b)) := by
          unfold dividedS
          rw [ga, gb, val_lim, val_lim]
        have hk : ∀ (H : Heap) (k : AV → Heap → Option AV), polK pDivided [eD (cutS a.2), eD (cutS b.2)] H k = k (.tup [eD (some (digs ((lim (mag a)).length - (lim (mag b)).length + 1) (mag a / mag b))), eD (some (digs ((lim (mag a)).length + 1) (mag a % mag b)))]) H := fun H k => by
          rw [kDivided hdP, hS]
        obtain ⟨p, hp⟩ : ∃ p, (a.1 != b.1) = p := ⟨_, rfl⟩
        have hbin : ∀ H, A.bin base.P .neq 4 (.bool a.1) (.bool b.1) false H = some (.bool p) := fun H => by rw [A.bin_bne ty_bool, ← hp]; rfl
        have hqlt : mag a / mag b < 4294967296 ^ ((lim (mag a)).length - (lim (mag b)).length + 1) := by
          have h1 := lim_le.1 (Nat.le_refl (lim (mag a)).length)
          have h2 := pow_le_lim hB
          rw [Nat.div_lt_iff_lt_mul (by omega)]
          refine Nat.lt_of_lt_of_le h1 (Nat.le_trans ?_ (Nat.mul_le_mul_left _ h2))
          rw [← Nat.pow_add]
          exact Nat.pow_le_pow_right (by omega) (by omega)
        have hrlt : mag a % mag b < 4294967296 ^ ((lim (mag a)).length + 1) := by
          have h1 := lim_le.1 (Nat.le_refl (lim (mag a)).length)
          have h3 : 4294967296 ^ (lim (mag a)).length ≤ 4294967296 ^ ((lim (mag a)).length + 1) := Nat.pow_le_pow_right (by omega) (by omega)
          exact Nat.lt_of_le_of_lt (Nat.mod_le _ _) (Nat.lt_of_lt_of_le h1 h3)
        have hq : madeS p (some (digs ((lim (mag a)).length - (lim (mag b)).length + 1) (mag a / mag b))) = madeS p (some (lim (mag a / mag b))) := made_val (by rw [val_lim]; exact val_digs_lt hqlt)
        have hr : madeS a.1 (some (digs ((lim (mag a)).length + 1) (mag a % mag b))) = madeS a.1 (some (lim (mag a % mag b))) := made_val (by rw [val_lim]; exact val_digs_lt hrlt)
        have fq : few (some (digs ((lim (mag a)).length - (lim (mag b)).length + 1) (mag a / mag b))) := by
          unfold few
          simp only [Option.getD_some, digs_length]
          omega
        have fr : few (some (digs ((lim (mag a)).length + 1) (mag a % mag b))) := by
          unfold few
          simp only [Option.getD_some, digs_length]
          omega
        rw [hp, ← hq, ← hr]
        generalize digs ((lim (mag a)).length - (lim (mag b)).length + 1) (mag a / mag b) = q at *
        generalize digs ((lim (mag a)).length + 1) (mag a % mag b) = r at *
        have hqm : ∀ (H : Heap) (k : AV → Heap → Option AV), polQ pMade [.bool p, eD (some q)] H k = k (eN (madeS p (some q))) H := fun H k => qMade fq
        have hrm : ∀ (H : Heap) (k : AV → Heap → Option AV), polQ pMade [.bool a.1, eD (some r)] H k = k (eN (madeS a.1 (some r))) H := fun H k => qMade fr
        generalize madeS p (some q) = M at *
        generalize madeS a.1 (some r) = N at *
        obtain ⟨M1, M2⟩ := M
        obtain ⟨N1, N2⟩ := N
        simp [↓test_bool, ↓bindV_eq, ↓bindC_eq, ↓bindH_eq, ↓withV_of, ↓chkD_true, S21, qCut ha, qCut hb, A.ofList, gb, hne, hl1, kSize fa fb, hsz, hc, hk, hbin, hqm, hrm, A.fill, A.fits, A.splice]
theorem kDiv {R : Type} {a b : Nm} (la : lot a.2) (lb : lot b.2) {H : Heap} {k : AV → Heap → Option R} : polK pDiv [eN a, eN b] H k = k (eDiv (divS a b)) H := by
  simp [pDiv, polK_imm, la, lb]
theorem qDiv {R : Type} {a b : Nm} (la : lot a.2) (lb : lot b.2) {H : Heap} {k : AV → Heap → Option R} : polQ pDiv [eN a, eN b] H k = k (eDiv (divS a b)) H := by
  simp [pDiv, polQ_imm, la, lb]
end Go.Proofs.YtikkpecdkdgmfaaDoor

/- Numbers of any size: the reference's own: order, limbs, which is greater. -/
set_option maxRecDepth 100000
set_option maxHeartbeats 2000000
namespace Go.Proofs.YtikkpecdkdgmfaaDoor
open Go Go.Den
noncomputable def pOrder : Pol := .still (p2 (cI .i64) (cI .i64) (.int .i64) (fun _ _ => True) cmpI)
theorem okOrder : PolOK base 70 pOrder := still2 base_ok [] trivial fun a b _ => Evs.of fun n m => by
  unfold cmpI
  by_cases h : a < b
  · simp [↓test_bool, ↓withV_of, S70, h]
  · by_cases h2 : b < a
    · simp [↓test_bool, ↓withV_of, S70, h, h2]
    · simp [↓test_bool, ↓withV_of, S70, h, h2]
theorem kOrder {R : Type} {a b : Int} {H : Heap} {k : AV → Heap → Option R} : polK pOrder [.int .i64 a, .int .i64 b] H k = k (.int .i64 (cmpI a b)) H := by
  simp [pOrder, polK_imm]
theorem qOrder {R : Type} {a b : Int} {H : Heap} {k : AV → Heap → Option R} : polQ pOrder [.int .i64 a, .int .i64 b] H k = k (.int .i64 (cmpI a b)) H := by
  simp [pOrder, polQ_imm]
noncomputable def pLimb : Pol := .still (p2 cD (cI .i64) (.int .u64) (fun a i => few a ∧ 0 ≤ i) (fun a i => (at_ (a.getD []) i.toNat : Int)))
theorem okLimb : PolOK base 69 pLimb := still2 base_ok [] trivial fun a i ⟨ha, hi⟩ => by
  obtain ⟨i, rfl⟩ : ∃ t : Nat, i = t := ⟨i.toNat, by omega⟩
  refine Evs.of fun n m => ?_
  have hl := at_lt (a.getD []) i
  simp only [Int.toNat_natCast]
  by_cases h : i < (a.getD []).length
  · have hx := at_idx (d := a) h []
    generalize at_ (a.getD []) i = x at *
    simp (disch := omega) [↓test_bool, ↓withV_of, S69, h, hx, cv_32_64, wrap_u64]
  · rw [at_out h]
    simp [↓test_bool, ↓withV_of, S69, h]
theorem kLimb {R : Type} {a : Option (List UInt32)} {i : Nat} (ha : few a) (hi : (0 : Int) ≤ (i : Int)) {H : Heap} {k : AV → Heap → Option R} : polK pLimb [eD a, .int .i64 (i : Int)] H k = k (.int .u64 (at_ (a.getD []) (i : Int).toNat : Int)) H := by
  simp [pLimb, polK_imm, ha, hi]
theorem qLimb {R : Type} {a : Option (List UInt32)} {i : Nat} (ha : few a) (hi : (0 : Int) ≤ (i : Int)) {H : Heap} {k : AV → Heap → Option R} : polQ pLimb [eD a, .int .i64 (i : Int)] H k = k (.int .u64 (at_ (a.getD []) (i : Int).toNat : Int)) H := by
  simp [pLimb, polQ_imm, ha, hi]
noncomputable abbrev TMags : List (FuncId × Pol) := [(70, pOrder)]
noncomputable def pMags : Pol := .still (p2 cD cD (.int .i64) (fun a b => few a ∧ few b) sizeS)
theorem cv_32_i64 (n : Int) (j : IntKind) : Go.Den.convert base 64 2 (.int j n) = some (.int .i64 (IntKind.wrap .i64 n)) := conv_int (x := .int .u32) (by kernel_rfl) (by kernel_rfl)
theorem mags_loop {a b : Option (List UInt32)} (hab : (a.getD []).length = (b.getD []).length) (hf : (a.getD []).length ≤ 1000000) (H : Heap) : ∀ i, i ≤ (a.getD []).length →
    LDoes (L49_0 (polT TMags)) ⟨[eD a, eD b, .int .i64 ((i : Int) - 1)], []⟩ H (if cmpN (val ((a.getD []).take i)) (val ((b.getD []).take i)) = 0 then 0 else 1) ⟨[if cmpN (val ((a.getD []).take i)) (val ((b.getD []).take i)) = 0 then .undef else .int .i64 (cmpN (val ((a.getD []).take i)) (val ((b.getD []).take i)))], []⟩ H := by
  intro i
  induction i with
  | zero =>
    intro _
    refine LDoes.step (Evs.of fun n m => ?_)
    have : cmpN (val []) (val []) = 0 := cmpI_self _
    simp [↓test_bool, ↓withV_of, L49_0_step, this]
  | succ i ih =>
    intro hi
    have hx := idx_eD (d := a) (H := H) (k := .i64) (i := i) (by omega)
    have hy := idx_eD (d := b) (H := H) (k := .i64) (i := i) (by omega)
    rw [cmp_top (by omega) (by omega)]
    have e : ((i + 1 : Nat) : Int) - 1 = i := by omega
    rw [e]
    have hp : (0 : Int) ≤ i := by omega
    by_cases h0 : (a.getD [])[i] = (b.getD [])[i]
    · rw [if_pos h0]
      refine LDoes.step (Evs.withL (ih (by omega)) (Evs.of fun n m h1 h2 => ?_))
      simp (disch := omega) [↓test_bool, ↓withV_of, L49_0_step, hx, hy, h0, hp, wrap_i64, h2]
    · rw [if_neg h0]
      have h0' : ¬ (((a.getD [])[i]).toNat : Int) = ((b.getD [])[i]).toNat := fun e => h0 (UInt32.toNat_inj.1 (by omega))
      have h1 : ¬ cmpI ((a.getD [])[i]).toNat ((b.getD [])[i]).toNat = 0 := fun e => h0' (cmpI_eq.1 e)
      have l1 := limb_lt (a.getD [])[i]
      have l2 := limb_lt (b.getD [])[i]
      refine LDoes.step (Evs.of fun n m => ?_)
      generalize (a.getD [])[i] = x at *
      generalize (b.getD [])[i] = y at *
      simp (disch := omega) [↓test_bool, ↓withV_of, L49_0_step, hx, hy, h0', hp, cv_32_i64, wrap_i64, qOrder, h1]
theorem okMags : PolOK base 49 pMags := still2 base_ok TMags ⟨okOrder, trivial⟩ fun a b ⟨ha, hb⟩ => by
  unfold few at ha hb
  by_cases hl : (a.getD []).length = (b.getD []).length
  · refine Evs.withL (mags_loop hl ha [] _ (Nat.le_refl _)) (Evs.of fun n m h1 _ => ?_)
    rw [List.take_length, hl, List.take_length] at h1
    have e : sizeS a b = cmpN (val (a.getD [])) (val (b.getD [])) := by unfold sizeS; rw [if_neg (by simp [hl])]
    rw [e]
    by_cases h0 : cmpN (val (a.getD [])) (val (b.getD [])) = 0
    · simp only [h0, if_true] at h1
      simp (disch := omega) [↓test_bool, ↓bindV_eq, ↓withV_of, ↓bindX_some, S49, hl, wrap_i64, h1, h0]
    · simp only [h0, if_false] at h1
      simp (disch := omega) [↓test_bool, ↓bindV_eq, ↓withV_of, ↓bindX_some, S49, hl, wrap_i64, h1]
  · refine Evs.of fun n m => ?_
    have hl' : ¬ ((a.getD []).length : Int) = (b.getD []).length := by omega
    simp [↓test_bool, ↓withV_of, S49, sizeS, hl, hl', kOrder]
theorem kMags {R : Type} {a b : Option (List UInt32)} (ha : few a) (hb : few b) {H : Heap} {k : AV → Heap → Option R} : polK pMags [eD a, eD b] H k = k (.int .i64 (sizeS a b)) H := by
  simp [pMags, polK_imm, ha, hb]
theorem qMags {R : Type} {a b : Option (List UInt32)} (ha : few a) (hb : few b) {H : Heap} {k : AV → Heap → Option R} : polQ pMags [eD a, eD b] H k = k (.int .i64 (sizeS a b)) H := by
  simp [pMags, polQ_imm, ha, hb]
end Go.Proofs.YtikkpecdkdgmfaaDoor

/- Numbers of any size: the reference's sums of rows of limbs. -/
set_option maxRecDepth 100000
set_option maxHeartbeats 2000000
namespace Go.Proofs.YtikkpecdkdgmfaaDoor
open Go Go.Den
noncomputable abbrev TLimb : List (FuncId × Pol) := [(69, pLimb)]
theorem limbK {R : Type} {a : Option (List UInt32)} {i : Nat} (ha : few a) {H : Heap} {k : AV → Heap → Option R} : polK pLimb [eD a, .int .i64 (i : Int)] H k = k (.int .u64 (at_ (a.getD []) i : Nat)) H := kLimb ha (by omega)
theorem limbQ {R : Type} {a : Option (List UInt32)} {i : Nat} (ha : few a) {H : Heap} {k : AV → Heap → Option R} : polQ pLimb [eD a, .int .i64 (i : Int)] H k = k (.int .u64 (at_ (a.getD []) i : Nat)) H := qLimb ha (by omega)
theorem rplus_loop {a b : Option (List UInt32)} (ha : few a) (hb : few b) : ∀ (k i : Nat) (H : Heap) (out : AV), k + i = plusM a b → Out eu 1 64 H out (digs i (plusT a b i)) →
    ∃ H' out', LDoes (L48_0 (polT TLimb)) ⟨[eD a, eD b, out, .int .u64 ((plusT a b i / 4294967296 ^ i : Nat) : Int), .int .i64 i], []⟩ H 0 ⟨[out', .int .u64 ((plusT a b (plusM a b) / 4294967296 ^ plusM a b : Nat) : Int)], []⟩ H' ∧ Out eu 1 64 H' out' (digs (plusM a b) (plusT a b (plusM a b))) := by
  have ka := @limbK (AV × Heap)
  have hfa := ha
  have hfb := hb
  unfold few at ha hb
  have hM : plusM a b ≤ 1000000 := by unfold plusM; omega
  intro k
  induction k with
  | zero =>
    intro i H out hi ho
    have : i = plusM a b := by omega
    subst this
    refine ⟨H, out, LDoes.step (Evs.of fun n m => ?_), ho⟩
    have hA : ¬ plusM a b < (a.getD []).length := by unfold plusM; omega
    have hB : ¬ plusM a b < (b.getD []).length := by unfold plusM; omega
    generalize plusT a b (plusM a b) / 4294967296 ^ plusM a b = C at *
    generalize plusM a b = K at *
    simp [↓test_bool, ↓withV_of, ↓withP_some, ↓withB_some, L48_0_step, hA, hB]
  | succ k ih =>
    intro i H out hi ho
    have hg : i < (a.getD []).length ∨ i < (b.getD []).length := by
      have : i < plusM a b := by omega
      unfold plusM at this
      omega
    have hc := plusT_carry a b i
    have hx := at_lt (a.getD []) i
    have hy := at_lt (b.getD []) i
    generalize hC : plusT a b i / 4294967296 ^ i = C at *
    have hdig := plusT_digs a b i
    have hsuc := plusT_succ a b i
    rw [hC] at hdig hsuc
    have hcar : plusT a b (i + 1) / 4294967296 ^ (i + 1) = (C + at_ (a.getD []) i + at_ (b.getD []) i) / 4294967296 := by
      rw [Nat.pow_succ, ← Nat.div_div_eq_div_mul, hsuc]
    obtain ⟨v', H1, hap, hO⟩ := ho.push (x := UInt32.ofNat (C + at_ (a.getD []) i + at_ (b.getD []) i)) (bytes := 4) (by omega) (by rw [digs_length]; omega)
    rw [← hdig] at hO
    have hnum : ((at_ (a.getD []) i : Int) + at_ (b.getD []) i + C) = ((C + at_ (a.getD []) i + at_ (b.getD []) i : Nat) : Int) := by omega
    have hw : IntKind.wrap .u32 ((at_ (a.getD []) i : Int) + at_ (b.getD []) i + C) = ((UInt32.ofNat (C + at_ (a.getD []) i + at_ (b.getD []) i)).toNat : Nat) := by
      rw [hnum, ← wrap_nat32]
    generalize UInt32.ofNat (C + at_ (a.getD []) i + at_ (b.getD []) i) = dig at hap hw
    obtain ⟨H', out', hL, hO'⟩ := ih (i + 1) H1 v' (by omega) hO
    refine ⟨H', out', LDoes.step (Evs.withL hL (Evs.of fun n m _ h2 => ?_)), hO'⟩
    rw [hcar] at h2
    have hs : ∀ H, A.bin base.P .shr 63 (.int .u64 ((at_ (a.getD []) i : Int) + at_ (b.getD []) i + C)) (.int .u64 32) true H = some (.int .u64 (((C + at_ (a.getD []) i + at_ (b.getD []) i) / 4294967296 : Nat) : Int)) := fun H => by
      rw [hnum]
      exact shr_u64 (s := 32) (by omega)
    have hone := fillElems_one (eu dig) (.int .u32 0) rfl rfl
    have hread := tmp_read (H := H) (sz := 1) (ty := 64) (x := eu dig)
    have hi1 : IntKind.wrap .i64 ((i : Int) + 1) = (i : Int) + 1 := wrap_i64 (by omega) (by omega)
    have q1 : ∀ (H : Heap) (k : AV → Heap → Option (Nat × Live × Heap)), polK pLimb [eD a, .int .i64 (i : Int)] H k = k (.int .u64 (at_ (a.getD []) i : Nat)) H := fun H k => limbK hfa
    have q2 : ∀ (H : Heap) (k : AV → Heap → Option (Nat × Live × Heap)), polK pLimb [eD b, .int .i64 (i : Int)] H k = k (.int .u64 (at_ (b.getD []) i : Nat)) H := fun H k => limbK hfb
    generalize (((C + at_ (a.getD []) i + at_ (b.getD []) i) / 4294967296 : Nat) : Int) = cq at *
    generalize plusT a b (plusM a b) / 4294967296 ^ plusM a b = CC at *
    simp only [Int.natCast_add, Int.natCast_one] at h2
    by_cases hA : i < (a.getD []).length
    · simp (disch := omega) [↓test_bool, ↓bindV_eq, ↓bindH_eq, ↓withV_of, ↓withP_some, ↓withL_some, ↓withVH_some, ↓withB_some, L48_0_step, hA, q1, q2, cv_64_32, wrap_u64, hw, hs, hone, newsZ_sl ty_limbs, hread, hap, hi1, h2]
    · have hB : i < (b.getD []).length := by omega
      simp (disch := omega) [↓test_bool, ↓bindV_eq, ↓bindH_eq, ↓withV_of, ↓withP_some, ↓withL_some, ↓withVH_some, ↓withB_some, L48_0_step, hA, hB, q1, q2, cv_64_32, wrap_u64, hw, hs, hone, newsZ_sl ty_limbs, hread, hap, hi1, h2]
def rplusS (a b : Option (List UInt32)) : Option (List UInt32) := some (digs (plusM a b + 1) (plusN a b))
noncomputable def pRplus : Pol := .still (p2 cD cD eD (fun a b => few a ∧ few b) rplusS)
theorem okRplus : PolOK base 48 pRplus := still2 base_ok TLimb ⟨okLimb, trivial⟩ fun a b ⟨ha, hb⟩ => by
  obtain ⟨H', out', hL, hO⟩ := rplus_loop ha hb (plusM a b) 0 [] .nils (by omega) .nil
  have hM : plusM a b ≤ 1000000 := by unfold few at ha hb; unfold plusM; omega
  have hN : plusT a b (plusM a b) = plusN a b := plusT_end (Nat.le_refl _)
  rw [hN] at hL hO
  obtain ⟨v', H1, hap, hO1⟩ := hO.push (x := UInt32.ofNat (plusN a b / 4294967296 ^ plusM a b)) (bytes := 4) (by omega) (by rw [digs_length]; omega)
  rw [← digs_append] at hO1
  refine Evs.withL hL (Evs.of fun n m h1 _ => ?_)
  have e0 : plusT a b 0 / 4294967296 ^ 0 = 0 := by simp [plusT, val]
  rw [e0] at h1
  simp only [Int.natCast_zero] at h1
  have hw : IntKind.wrap .u32 ((plusN a b / 4294967296 ^ plusM a b : Nat) : Int) = ((UInt32.ofNat (plusN a b / 4294967296 ^ plusM a b)).toNat : Nat) := wrap_nat32 _
  have hfz := hO1.frz flat_eu
  have hnz : nz (digs (plusM a b + 1) (plusN a b)) = rplusS a b := rfl
  rw [hnz] at hfz
  generalize UInt32.ofNat (plusN a b / 4294967296 ^ plusM a b) = dig at *
  generalize ((plusN a b / 4294967296 ^ plusM a b : Nat) : Int) = cc at *
  have hone := fillElems_one (eu dig) (.int .u32 0) rfl rfl
  have hread := tmp_read (H := H') (sz := 1) (ty := 64) (x := eu dig)
  simp [↓bindV_eq, ↓bindH_eq, ↓withV_of, ↓withL_some, ↓withVH_some, ↓bindX_some, S48, h1, cv_64_32, hw, hone, newsZ_sl ty_limbs, hread, hap, hfz]
theorem kRplus {R : Type} {a b : Option (List UInt32)} (ha : few a) (hb : few b) {H : Heap} {k : AV → Heap → Option R} : polK pRplus [eD a, eD b] H k = k (eD (rplusS a b)) H := by
  simp [pRplus, polK_imm, ha, hb]
theorem qRplus {R : Type} {a b : Option (List UInt32)} (ha : few a) (hb : few b) {H : Heap} {k : AV → Heap → Option R} : polQ pRplus [eD a, eD b] H k = k (eD (rplusS a b)) H := by
  simp [pRplus, polQ_imm, ha, hb]
end Go.Proofs.YtikkpecdkdgmfaaDoor

/- Numbers of any size: the reference's differences of rows of limbs. -/
set_option maxRecDepth 100000
set_option maxHeartbeats 2000000
namespace Go.Proofs.YtikkpecdkdgmfaaDoor
open Go Go.Den
theorem wrap_neg {x : Int} (h1 : -18446744073709551616 ≤ x) (h2 : x < 0) : IntKind.wrap .u64 x = x + 18446744073709551616 := by
  simp [IntKind.wrap, IntKind.bits, IntKind.signed]
  omega
theorem wrap_lo {x : Int} {z : Nat} (h : x = z + 18446744069414584320) (hz : z < 4294967296) : IntKind.wrap .u32 x = z := by
  simp [IntKind.wrap, IntKind.bits, IntKind.signed]
  omega
theorem rminus_step {o : List UInt32} {A B T U c c' w x y z : Nat} (hv : val o + B = A + c * w) (hz : z + (c + y) = x + c' * T) (hU : U = w * T) : val o + w * z + (B + w * y) = A + w * x + c' * U := by
  subst hU
  have e : w * z + w * (c + y) = w * x + w * (c' * T) := by rw [← Nat.mul_add, hz, Nat.mul_add]
  rw [Nat.mul_add] at e
  have e2 : c' * (w * T) = w * (c' * T) := Nat.mul_left_comm _ _ _
  have e3 : c * w = w * c := Nat.mul_comm _ _
  rw [e2]
  omega
theorem rminus_loop {a b : Option (List UInt32)} (ha : few a) (hb : few b) : ∀ (k i c : Nat) (o : List UInt32) (H : Heap) (out : AV), k + i = (a.getD []).length → o.length = i → c ≤ 1 → val o + val ((b.getD []).take i) = val ((a.getD []).take i) + c * 4294967296 ^ i → Out eu 1 64 H out o →
    ∃ (H' : Heap) (out' : AV) (o' : List UInt32) (c' : Nat), LDoes (L50_0 (polT TLimb)) ⟨[eD a, eD b, out, .int .u64 (c : Nat), .int .i64 (i : Nat)], []⟩ H 0 ⟨[out'], []⟩ H' ∧ Out eu 1 64 H' out' o' ∧ o'.length = (a.getD []).length ∧ c' ≤ 1 ∧
      val o' + val ((b.getD []).take (a.getD []).length) = val (a.getD []) + c' * 4294967296 ^ (a.getD []).length := by
  have hfb := hb
  unfold few at ha hb
  intro k
  induction k with
  | zero =>
    intro i c o H out hi hol hc hv ho
    have : i = (a.getD []).length := by omega
    subst this
    rw [List.take_length] at hv
    refine ⟨H, out, o, c, LDoes.step (Evs.of fun n m => ?_), ho, hol, hc, hv⟩
    simp [↓test_bool, ↓withV_of, L50_0_step]
  | succ k ih =>
    intro i c o H out hi hol hc hv ho
    have hil : i < (a.getD []).length := by omega
    have hax := at_idx (d := a) hil H
    have hx := at_lt (a.getD []) i
    have hy := at_lt (b.getD []) i
    have q2 : ∀ (H : Heap) (k : AV → Heap → Option (Nat × Live × Heap)), polQ pLimb [eD b, .int .i64 (i : Int)] H k = k (.int .u64 (at_ (b.getD []) i : Nat)) H := fun H k => limbQ hfb
    have hi1 : IntKind.wrap .i64 ((i : Int) + 1) = (i : Int) + 1 := wrap_i64 (by omega) (by omega)
    obtain ⟨c', z, hz, hzl, hc'⟩ : ∃ c' z : Nat, z + (c + at_ (b.getD []) i) = at_ (a.getD []) i + c' * 4294967296 ∧ z < 4294967296 ∧ ((c' = 0 ∧ c + at_ (b.getD []) i ≤ at_ (a.getD []) i) ∨ (c' = 1 ∧ at_ (a.getD []) i < c + at_ (b.getD []) i)) := by
      by_cases h : c + at_ (b.getD []) i ≤ at_ (a.getD []) i
      · exact ⟨0, at_ (a.getD []) i - (c + at_ (b.getD []) i), by omega, by omega, .inl ⟨rfl, h⟩⟩
      · exact ⟨1, at_ (a.getD []) i + 4294967296 - (c + at_ (b.getD []) i), by omega, by omega, .inr ⟨rfl, by omega⟩⟩
    have hnew : val (o ++ [UInt32.ofNat z]) + val ((b.getD []).take (i + 1)) = val ((a.getD []).take (i + 1)) + c' * 4294967296 ^ (i + 1) := by
      rw [val_append, val_at, val_at, hol, val, val, limb_of, Nat.mod_eq_of_lt hzl, Nat.mul_zero, Nat.add_zero]
      exact rminus_step hv hz (Nat.pow_succ _ _)
    obtain ⟨v', H1, hap, hO⟩ := ho.push (x := UInt32.ofNat z) (bytes := 4) (by omega) (by omega)
    obtain ⟨H', out', o', c2, hL, s1, s2, s3, s4⟩ := ih (i + 1) c' (o ++ [UInt32.ofNat z]) H1 v' (by omega) (by simp [hol]) (by omega) hnew hO
    refine ⟨H', out', o', c2, LDoes.step (Evs.withL hL (Evs.of fun n m _ h2 => ?_)), s1, s2, s3, s4⟩
    have hzz : (z : Int) = ((UInt32.ofNat z).toNat : Int) := by rw [limb_of, Nat.mod_eq_of_lt hzl]
    have hdig : ∃ dig : UInt32, UInt32.ofNat z = dig := ⟨_, rfl⟩
    obtain ⟨dig, hdg⟩ := hdig
    rw [hdg] at hap hzz
    have hone := fillElems_one (eu dig) (.int .u32 0) rfl rfl
    have hread := tmp_read (H := H) (sz := 1) (ty := 64) (x := eu dig)
    rcases hc' with ⟨h0, hle⟩ | ⟨h1, hlt⟩
    · subst h0
      have e0 : ((0 : Nat) : Int) = 0 := rfl
      simp only [Int.natCast_add, Int.natCast_one, e0] at h2
      have hE : (at_ (a.getD []) i : Int) - (at_ (b.getD []) i : Int) - (c : Int) = (z : Int) := by omega
      have hw : IntKind.wrap .u32 (z : Int) = (dig.toNat : Int) := by rw [wrap_u32 (by omega) (by omega), hzz]
      have hs : ∀ H, A.bin base.P .shr 63 (.int .u64 (z : Int)) (.int .u64 63) true H = some (.int .u64 0) := fun H => by
        have := shr_u64 (P := base.P) (t := 63) (c := true) (H := H) (a := z) (s := 63) (j := .u64) (by omega)
        rw [Nat.div_eq_of_lt (by omega)] at this
        exact this
      generalize at_ (a.getD []) i = x at *
      generalize at_ (b.getD []) i = y at *
      simp (disch := omega) [↓test_bool, ↓bindV_eq, ↓bindH_eq, ↓withV_of, ↓withL_some, ↓withVH_some, L50_0_step, hil, hax, q2, cv_32_64, cv_64_32, wrap_u64, hE, hw, hs, hone, newsZ_sl ty_limbs, hread, hap, hi1, h2]
    · subst h1
      have e0 : ((1 : Nat) : Int) = 1 := rfl
      simp only [Int.natCast_add, e0] at h2
      have hw : ∀ E : Int, E = (z : Int) + 18446744069414584320 → IntKind.wrap .u32 E = (dig.toNat : Int) := fun E hE => by rw [wrap_lo hE hzl, hzz]
      have hs : ∀ (E : Int) (H : Heap), E = (z : Int) + 18446744069414584320 → A.bin base.P .shr 63 (.int .u64 E) (.int .u64 63) true H = some (.int .u64 1) := fun E H hE => by
        have := shr_u64 (P := base.P) (t := 63) (c := true) (H := H) (a := z + 18446744069414584320) (s := 63) (j := .u64) (by omega)
        rw [show (z + 18446744069414584320) / 2 ^ 63 = 1 by omega] at this
        rw [hE]
        exact this
      have w2 : IntKind.wrap .u64 (IntKind.wrap .u64 ((at_ (a.getD []) i : Int) - (at_ (b.getD []) i : Int)) - (c : Int)) = (z : Int) + 18446744069414584320 := by
        by_cases hxy : at_ (a.getD []) i < at_ (b.getD []) i
        · rw [wrap_neg (x := (at_ (a.getD []) i : Int) - (at_ (b.getD []) i : Int)) (by omega) (by omega), wrap_u64 (by omega) (by omega)]
          omega
        · rw [wrap_u64 (x := (at_ (a.getD []) i : Int) - (at_ (b.getD []) i : Int)) (by omega) (by omega), wrap_neg (by omega) (by omega)]
          omega
      have hw' := hw _ rfl
      have hs' := fun H => hs _ H rfl
      generalize at_ (a.getD []) i = x at *
      generalize at_ (b.getD []) i = y at *
      generalize (z : Int) + 18446744069414584320 = E at *
      have wx : IntKind.wrap .u64 (x : Int) = x := wrap_u64 (by omega) (by omega)
      clear hw hs
      simp [↓test_bool, ↓bindV_eq, ↓bindH_eq, ↓withV_of, ↓withL_some, ↓withVH_some, L50_0_step, hil, hax, q2, cv_32_64, cv_64_32, wx, w2, hw', hs', hone, newsZ_sl ty_limbs, hread, hap, hi1, h2]
def rminusS (a b : Option (List UInt32)) : Option (List UInt32) := nz (digs (a.getD []).length (val (a.getD []) - val (b.getD [])))
noncomputable def pRminus : Pol := .still (p2 cD cD eD (fun a b => few a ∧ few b ∧ val (b.getD []) ≤ val (a.getD [])) rminusS)
theorem okRminus : PolOK base 50 pRminus := still2 base_ok TLimb ⟨okLimb, trivial⟩ fun a b ⟨ha, hb, hv⟩ => by
  obtain ⟨H', out', o', c', hL, hO, hl, hc, hval⟩ := rminus_loop ha hb (a.getD []).length 0 0 [] [] .nils (by omega) rfl (by omega) (by simp [val]) .nil
  have h1 := val_lt o'
  rw [hl] at h1
  have hbt : val ((b.getD []).take (a.getD []).length) = val (b.getD []) := by
    rcases Nat.lt_or_ge (b.getD []).length (a.getD []).length with h | h
    · rw [List.take_of_length_le (by omega)]
    · have e := val_drop (l := b.getD []) (n := (a.getD []).length) h
      have h2 := val_lt (a.getD [])
      rcases Nat.eq_zero_or_pos (val ((b.getD []).drop (a.getD []).length)) with h0 | h0
      · rw [h0, Nat.mul_zero, Nat.add_zero] at e
        exact e.symm
      · exfalso
        have : 4294967296 ^ (a.getD []).length * 1 ≤ 4294967296 ^ (a.getD []).length * val ((b.getD []).drop (a.getD []).length) := Nat.mul_le_mul_left _ h0
        omega
  rw [hbt] at hval
  have hd : o' = digs (a.getD []).length (val (a.getD []) - val (b.getD [])) := by
    refine eq_digs hl ?_
    rcases (show c' = 0 ∨ c' = 1 by omega) with h | h
    · rw [h] at hval; omega
    · rw [h] at hval
      omega
  refine Evs.withL hL (Evs.of fun n m h3 _ => ?_)
  have e0 : ((0 : Nat) : Int) = 0 := rfl
  simp only [e0] at h3
  have hfz := hO.frz flat_eu
  have hnz : nz o' = rminusS a b := by unfold rminusS; rw [hd]
  rw [hnz] at hfz
  simp [↓bindV_eq, ↓bindX_some, S50, h3, hfz]
theorem kRminus {R : Type} {a b : Option (List UInt32)} (ha : few a) (hb : few b) (hv : val (b.getD []) ≤ val (a.getD [])) {H : Heap} {k : AV → Heap → Option R} : polK pRminus [eD a, eD b] H k = k (eD (rminusS a b)) H := by
  simp [pRminus, polK_imm, ha, hb, hv]
theorem qRminus {R : Type} {a b : Option (List UInt32)} (ha : few a) (hb : few b) (hv : val (b.getD []) ≤ val (a.getD [])) {H : Heap} {k : AV → Heap → Option R} : polQ pRminus [eD a, eD b] H k = k (eD (rminusS a b)) H := by
  simp [pRminus, polQ_imm, ha, hb, hv]
end Go.Proofs.YtikkpecdkdgmfaaDoor

/- Numbers of any size: the reference's sums, differences, order. -/
set_option maxRecDepth 100000
set_option maxHeartbeats 2000000
namespace Go.Proofs.YtikkpecdkdgmfaaDoor
open Go Go.Den
theorem rplus_val (a b : Option (List UInt32)) : val ((rplusS a b).getD []) = val (a.getD []) + val (b.getD []) := by
  unfold rplusS
  simp only [Option.getD_some]
  refine val_digs_lt ?_
  have h1 := val_lt (a.getD [])
  have h2 := val_lt (b.getD [])
  have h3 : 4294967296 ^ (a.getD []).length ≤ 4294967296 ^ plusM a b := Nat.pow_le_pow_right (by omega) (by unfold plusM; omega)
  have h4 : 4294967296 ^ (b.getD []).length ≤ 4294967296 ^ plusM a b := Nat.pow_le_pow_right (by omega) (by unfold plusM; omega)
  unfold plusN
  rw [Nat.pow_succ]
  omega
theorem rminus_val (a b : Option (List UInt32)) : val ((rminusS a b).getD []) = val (a.getD []) - val (b.getD []) := by
  unfold rminusS
  rw [nz_get]
  refine val_digs_lt ?_
  have h1 := val_lt (a.getD [])
  omega
theorem rminus_len (a b : Option (List UInt32)) : ((rminusS a b).getD []).length = (a.getD []).length := by
  unfold rminusS
  rw [nz_get, digs_length]
theorem rplus_len (a b : Option (List UInt32)) : ((rplusS a b).getD []).length = plusM a b + 1 := by
  unfold rplusS
  rw [Option.getD_some, digs_length]
theorem rnorm_len (a : Nm) : ((rnormS a).2.getD []).length ≤ (a.2.getD []).length := by
  unfold rnormS
  dsimp only
  rw [nz_get]
  exact lim_len_le _
def raddC (x y : Nm) : Nm :=
  if x.1 = y.1 then rnormS (x.1, rplusS x.2 y.2)
  else if 0 ≤ sizeS x.2 y.2 then rnormS (x.1, rminusS x.2 y.2)
  else rnormS (y.1, rminusS y.2 x.2)
def raddS (a b : Nm) : Nm := raddC (rnormS a) (rnormS b)
theorem size_val {a b : Nm} : sizeS (rnormS a).2 (rnormS b).2 = cmpN (val ((rnormS a).2.getD [])) (val ((rnormS b).2.getD [])) := by
  unfold rnormS
  dsimp only
  rw [nz_get, nz_get, val_lim, val_lim]
  exact sizeS_lim (nz_get ..) (nz_get ..)
theorem toI_rnorm (a : Nm) : toI (rnormS a) = toI a := (rep_rnorm a).toI
theorem rep_radd (a b : Nm) : Rep (raddS a b) (toI a + toI b) := by
  have hsz := size_val (a := a) (b := b)
  rw [← toI_rnorm a, ← toI_rnorm b]
  unfold raddS raddC
  generalize rnormS a = x at *
  generalize rnormS b = y at *
  obtain ⟨p, d⟩ := x
  obtain ⟨q, e⟩ := y
  dsimp only at hsz ⊢
  by_cases hpq : p = q
  · subst hpq
    rw [if_pos rfl]
    have h := rep_rnorm (p, rplusS d e)
    have : toI (p, rplusS d e) = toI (p, d) + toI (p, e) := by
      unfold toI mag sgn
      dsimp only
      rw [rplus_val]
      cases p <;> simp <;> omega
    rw [this] at h
    exact h
  · rw [if_neg hpq, hsz]
    by_cases hs : 0 ≤ cmpN (val (d.getD [])) (val (e.getD []))
    · rw [if_pos hs]
      have h := rep_rnorm (p, rminusS d e)
      have hle : val (e.getD []) ≤ val (d.getD []) := by
        unfold cmpN cmpI at hs
        split at hs <;> omega
      have : toI (p, rminusS d e) = toI (p, d) + toI (q, e) := by
        unfold toI mag sgn
        dsimp only
        rw [rminus_val]
        cases p <;> cases q <;> simp at hpq ⊢ <;> omega
      rw [this] at h
      exact h
    · rw [if_neg hs]
      have h := rep_rnorm (q, rminusS e d)
      have hle : val (d.getD []) ≤ val (e.getD []) := by
        unfold cmpN cmpI at hs
        split at hs <;> (try split at hs) <;> omega
      have : toI (q, rminusS e d) = toI (p, d) + toI (q, e) := by
        unfold toI mag sgn
        dsimp only
        rw [rminus_val]
        cases p <;> cases q <;> simp at hpq ⊢ <;> omega
      rw [this] at h
      exact h
noncomputable abbrev TRadd : List (FuncId × Pol) := [(18, pRnorm), (48, pRplus), (49, pMags), (50, pRminus)]
noncomputable def pRadd : Pol := .still (p2 cN cN eN (fun a b => lot a.2 ∧ lot b.2) raddS)
theorem okRadd : PolOK base 29 pRadd := still2 base_ok TRadd ⟨okRnorm, okRplus, okMags, okRminus, trivial⟩ fun a b ⟨la, lb⟩ => by
  refine Evs.of fun n m => ?_
  have ha := la.few
  have hb := lb.few
  have lx := rnorm_len a
  have ly := rnorm_len b
  have hsz := size_val (a := a) (b := b)
  unfold lot at la lb
  have e1 : ∀ (H : Heap) (k : AV → Heap → Option AV), polQ pRnorm [eN a] H k = k (eN (rnormS a)) H := fun H k => qRnorm ha
  have e2 : ∀ (H : Heap) (k : AV → Heap → Option AV), polQ pRnorm [eN b] H k = k (eN (rnormS b)) H := fun H k => qRnorm hb
  unfold raddS raddC
  generalize rnormS a = x at *
  generalize rnormS b = y at *
  have fx : few x.2 := by unfold few; omega
  have fy : few y.2 := by unfold few; omega
  have hM : plusM x.2 y.2 ≤ 900000 := by unfold plusM; omega
  by_cases hpq : x.1 = y.1
  · rw [if_pos hpq]
    have hbin : ∀ H, A.bin base.P .eql 4 (.bool x.1) (.bool y.1) false H = some (.bool true) := fun H => by rw [A.bin_beq ty_bool, hpq]; simp
    have e3 : ∀ (H : Heap) (k : AV → Heap → Option AV), polQ pRplus [eD x.2, eD y.2] H k = k (eD (rplusS x.2 y.2)) H := fun H k => qRplus fx fy
    have e4 : ∀ (H : Heap) (k : AV → Heap → Option AV), polQ pRnorm [.agg [.bool x.1, eD (rplusS x.2 y.2)]] H k = k (eN (rnormS (x.1, rplusS x.2 y.2))) H := fun H k => qRnorm (a := (x.1, rplusS x.2 y.2)) (by unfold few; dsimp only; rw [rplus_len]; omega)
    clear hpq
    generalize rplusS x.2 y.2 = w at *
    generalize rnormS (x.1, w) = z at *
    simp [↓test_bool, ↓bindC_eq, ↓withV_of, ↓chkD_true, S29, A.ofList, A.fits, A.splice, A.fill, e1, e2, hbin, e3, e4]
  · rw [if_neg hpq]
    have hbin : ∀ H, A.bin base.P .eql 4 (.bool x.1) (.bool y.1) false H = some (.bool false) := fun H => by rw [A.bin_beq ty_bool]; simp [hpq]
    have e3 : ∀ (H : Heap) (k : AV → Heap → Option AV), polK pMags [eD x.2, eD y.2] H k = k (.int .i64 (sizeS x.2 y.2)) H := fun H k => kMags fx fy
    by_cases hs : 0 ≤ sizeS x.2 y.2
    · rw [if_pos hs]
      rw [hsz] at hs
      have hle : val (y.2.getD []) ≤ val (x.2.getD []) := by
        unfold cmpN cmpI at hs
        split at hs <;> omega
      rw [← hsz] at hs
      have e5 : ∀ (H : Heap) (k : AV → Heap → Option AV), polQ pRminus [eD x.2, eD y.2] H k = k (eD (rminusS x.2 y.2)) H := fun H k => qRminus fx fy hle
      have e6 : ∀ (H : Heap) (k : AV → Heap → Option AV), polQ pRnorm [.agg [.bool x.1, eD (rminusS x.2 y.2)]] H k = k (eN (rnormS (x.1, rminusS x.2 y.2))) H := fun H k => qRnorm (a := (x.1, rminusS x.2 y.2)) (by unfold few; dsimp only; rw [rminus_len]; omega)
      generalize rminusS x.2 y.2 = w at *
      generalize rnormS (x.1, w) = z at *
      simp [↓test_bool, ↓bindC_eq, ↓withV_of, ↓chkD_true, S29, A.ofList, A.fits, A.splice, A.fill, e1, e2, hbin, e3, hs, e5, e6]
    · rw [if_neg hs]
      rw [hsz] at hs
      have hle : val (x.2.getD []) ≤ val (y.2.getD []) := by
        unfold cmpN cmpI at hs
        split at hs <;> (try split at hs) <;> omega
      rw [← hsz] at hs
      have e5 : ∀ (H : Heap) (k : AV → Heap → Option AV), polQ pRminus [eD y.2, eD x.2] H k = k (eD (rminusS y.2 x.2)) H := fun H k => qRminus fy fx hle
      have e6 : ∀ (H : Heap) (k : AV → Heap → Option AV), polQ pRnorm [.agg [.bool y.1, eD (rminusS y.2 x.2)]] H k = k (eN (rnormS (y.1, rminusS y.2 x.2))) H := fun H k => qRnorm (a := (y.1, rminusS y.2 x.2)) (by unfold few; dsimp only; rw [rminus_len]; omega)
      generalize rminusS y.2 x.2 = w at *
      generalize rnormS (y.1, w) = z at *
      simp [↓test_bool, ↓bindC_eq, ↓withV_of, ↓chkD_true, S29, A.ofList, A.fits, A.splice, A.fill, e1, e2, hbin, e3, hs, e5, e6]
theorem kRadd {R : Type} {a b : Nm} (la : lot a.2) (lb : lot b.2) {H : Heap} {k : AV → Heap → Option R} : polK pRadd [eN a, eN b] H k = k (eN (raddS a b)) H := by
  simp [pRadd, polK_imm, la, lb]
theorem qRadd {R : Type} {a b : Nm} (la : lot a.2) (lb : lot b.2) {H : Heap} {k : AV → Heap → Option R} : polQ pRadd [eN a, eN b] H k = k (eN (raddS a b)) H := by
  simp [pRadd, polQ_imm, la, lb]
end Go.Proofs.YtikkpecdkdgmfaaDoor

/- Numbers of any size: the reference's differences and order. -/
set_option maxRecDepth 100000
set_option maxHeartbeats 2000000
namespace Go.Proofs.YtikkpecdkdgmfaaDoor
open Go Go.Den
def rsubS (a b : Nm) : Nm := raddS a (!(rnormS b).1, (rnormS b).2)
theorem rep_rsub (a b : Nm) : Rep (rsubS a b) (toI a - toI b) := by
  unfold rsubS
  have h := rep_radd a (!(rnormS b).1, (rnormS b).2)
  have e : toI (!(rnormS b).1, (rnormS b).2) = -(toI b) := by
    rw [← toI_rnorm b]
    unfold toI mag sgn
    dsimp only
    cases (rnormS b).1 <;> simp
  rw [e, ← Int.sub_eq_add_neg] at h
  exact h
noncomputable def pRsub : Pol := .still (p2 cN cN eN (fun a b => lot a.2 ∧ lot b.2) rsubS)
theorem okRsub : PolOK base 30 pRsub := still2 base_ok [(18, pRnorm), (29, pRadd)] ⟨okRnorm, okRadd, trivial⟩ fun a b ⟨la, lb⟩ => by
  refine Evs.of fun n m => ?_
  have hb := lb.few
  have ly := rnorm_len b
  have e1 : ∀ (H : Heap) (k : AV → Heap → Option AV), polK pRnorm [eN b] H k = k (eN (rnormS b)) H := fun H k => kRnorm hb
  have ll : lot (rnormS b).2 := by unfold lot at lb ⊢; omega
  unfold rsubS
  generalize rnormS b = y at *
  have e2 : ∀ (H : Heap) (k : AV → Heap → Option AV), polK pRadd [eN a, .agg [.bool (!y.1), eD y.2]] H k = k (eN (raddS a (!y.1, y.2))) H := fun H k => kRadd (b := (!y.1, y.2)) la ll
  generalize raddS a (!y.1, y.2) = z at *
  simp [↓bindC_eq, ↓withV_of, ↓chkD_true, S30, A.ofList, A.fits, A.splice, e1, e2]
theorem kRsub {R : Type} {a b : Nm} (la : lot a.2) (lb : lot b.2) {H : Heap} {k : AV → Heap → Option R} : polK pRsub [eN a, eN b] H k = k (eN (rsubS a b)) H := by
  simp [pRsub, polK_imm, la, lb]
theorem qRsub {R : Type} {a b : Nm} (la : lot a.2) (lb : lot b.2) {H : Heap} {k : AV → Heap → Option R} : polQ pRsub [eN a, eN b] H k = k (eN (rsubS a b)) H := by
  simp [pRsub, polQ_imm, la, lb]
theorem cmp_rng (a b : Nat) : -1 ≤ cmpN a b ∧ cmpN a b ≤ 1 := by unfold cmpN cmpI; split <;> (try split) <;> omega
theorem rcmp_val {x y : Nm} {u v : Int} (hx : Rep x u) (hy : Rep y v) : cmpI u v = if x.1 = y.1 then (if x.1 then -(cmpN (val (x.2.getD [])) (val (y.2.getD []))) else cmpN (val (x.2.getD [])) (val (y.2.getD []))) else (if x.1 then -1 else 1) := by
  rw [hx.1, hx.2, hy.1, hy.2, val_lim, val_lim]
  unfold cmpN cmpI
  by_cases hu : u < 0 <;> by_cases hv : v < 0 <;> simp [hu, hv] <;> (try split) <;> (try split) <;> (try split) <;> omega
noncomputable def pRcmp : Pol := .still (p2 cN cN (.int .i64) (fun a b => few a.2 ∧ few b.2) (fun a b => cmpI (toI a) (toI b)))
theorem okRcmp : PolOK base 31 pRcmp := still2 base_ok [(18, pRnorm), (49, pMags)] ⟨okRnorm, okMags, trivial⟩ fun a b ⟨ha, hb⟩ => by
  refine Evs.of fun n m => ?_
  have lx := rnorm_len a
  have ly := rnorm_len b
  have hsz := size_val (a := a) (b := b)
  have hc := rcmp_val (rep_rnorm a) (rep_rnorm b)
  have e1 : ∀ (H : Heap) (k : AV → Heap → Option AV), polQ pRnorm [eN a] H k = k (eN (rnormS a)) H := fun H k => qRnorm ha
  have e2 : ∀ (H : Heap) (k : AV → Heap → Option AV), polQ pRnorm [eN b] H k = k (eN (rnormS b)) H := fun H k => qRnorm hb
  unfold few at ha hb
  rw [hc]
  clear hc
  generalize rnormS a = x at *
  generalize rnormS b = y at *
  have fx : few x.2 := by unfold few; omega
  have fy : few y.2 := by unfold few; omega
  have hr := cmp_rng (val (x.2.getD [])) (val (y.2.getD []))
  have e3 : ∀ (H : Heap) (k : AV → Heap → Option AV), polK pMags [eD x.2, eD y.2] H k = k (.int .i64 (cmpN (val (x.2.getD [])) (val (y.2.getD [])))) H := fun H k => by rw [kMags fx fy, hsz]
  generalize cmpN (val (x.2.getD [])) (val (y.2.getD [])) = c at *
  have hneg : A.un .neg (.int .i64 c) = some (.int .i64 (-c)) := by
    show some (AV.int .i64 (IntKind.wrap .i64 (0 - c))) = _
    rw [wrap_i64 (by omega) (by omega)]
    congr 2
    omega
  obtain ⟨x1, x2⟩ := x
  obtain ⟨y1, y2⟩ := y
  dsimp only at *
  have hbin : ∀ H, A.bin base.P .neq 4 (.bool x1) (.bool y1) false H = some (.bool !(x1 == y1)) := fun H => A.bin_bne ty_bool x1 y1
  cases x1 <;> cases y1 <;> simp [↓test_bool, ↓bindC_eq, ↓withV_of, ↓chkD_true, S31, A.ofList, A.fits, A.splice, e1, e2, hbin, e3, hneg]
theorem kRcmp {R : Type} {a b : Nm} (ha : few a.2) (hb : few b.2) {H : Heap} {k : AV → Heap → Option R} : polK pRcmp [eN a, eN b] H k = k (.int .i64 (cmpI (toI a) (toI b))) H := by
  simp [pRcmp, polK_imm, ha, hb]
theorem qRcmp {R : Type} {a b : Nm} (ha : few a.2) (hb : few b.2) {H : Heap} {k : AV → Heap → Option R} : polQ pRcmp [eN a, eN b] H k = k (.int .i64 (cmpI (toI a) (toI b))) H := by
  simp [pRcmp, polQ_imm, ha, hb]
end Go.Proofs.YtikkpecdkdgmfaaDoor

/- Numbers of any size: the reference's words. -/
set_option maxRecDepth 100000
set_option maxHeartbeats 2000000
namespace Go.Proofs.YtikkpecdkdgmfaaDoor
open Go Go.Den
theorem smallof_loop {pol : FuncId → Pol} {p : Bool} {d : Option (List UInt32)} {H : Heap} (hB : Go.Den.Box H 0 2 24 [.bool p, eD d]) (hl : (d.getD []).length ≤ 2) : ∀ j, j ≤ (d.getD []).length →
    LDoes (L28_0 pol) ⟨[.ptr 0 0 0 0, .int .u64 (val ((d.getD []).drop j) : Nat), .int .i64 ((j : Int) - 1)], []⟩ H 0 ⟨[.ptr 0 0 0 0, .int .u64 (val (d.getD []) : Nat)], []⟩ H := by
  intro j
  induction j with
  | zero =>
    intro _
    rw [List.drop_zero]
    refine LDoes.step (Evs.of fun n m => ?_)
    simp [↓test_bool, ↓withV_of, L28_0_step]
  | succ j ih =>
    intro hj
    have hjl : j < (d.getD []).length := by omega
    have hx := at_idx (d := d) hjl H
    have hxl := at_lt (d.getD []) j
    have hv : val ((d.getD []).drop j) = at_ (d.getD []) j + 2 ^ 32 * val ((d.getD []).drop (j + 1)) := by
      rw [List.drop_eq_getElem_cons hjl, val, at_, dif_pos hjl]
    have hsm : val ((d.getD []).drop (j + 1)) < 4294967296 := by
      have h1 := val_lt ((d.getD []).drop (j + 1))
      have h2 : ((d.getD []).drop (j + 1)).length ≤ 1 := by rw [List.length_drop]; omega
      have h3 : 4294967296 ^ ((d.getD []).drop (j + 1)).length ≤ 4294967296 ^ 1 := Nat.pow_le_pow_right (by omega) h2
      rw [Nat.pow_one] at h3
      omega
    have hih := ih (by omega)
    rw [hv] at hih
    have e : ((j + 1 : Nat) : Int) - 1 = j := by omega
    rw [e]
    have hj0 : (0 : Int) ≤ (j : Int) := by omega
    refine LDoes.step (Evs.withL hih (Evs.of fun n m _ h3 => ?_))
    have f1 := hB.fa (o := 1)
    have f2 := hB.load (o := 1)
    simp only [List.getElem?_cons_succ, List.getElem?_cons_zero] at f2
    generalize val ((d.getD []).drop (j + 1)) = w at *
    generalize at_ (d.getD []) j = x at *
    have hshl : A.bin base.P .shl 63 (.int .u64 (w : Int)) (.int .u64 32) true H = some (.int .u64 ((2 ^ 32 * w : Nat) : Int)) := shl_nat (s := 32) (by omega) (by omega)
    have hor : A.bin base.P .or 63 (.int .u64 ((2 ^ 32 * w : Nat) : Int)) (.int .u64 (x : Int)) false H = some (.int .u64 ((x + 2 ^ 32 * w : Nat) : Int)) := (or_nat (s := 32) (by omega) (by omega)).2
    generalize ((x + 2 ^ 32 * w : Nat) : Int) = r at *
    generalize ((2 ^ 32 * w : Nat) : Int) = y at *
    simp (disch := omega) [↓test_bool, ↓withV_of, L28_0_step, hj0, f1, f2, hx, cv_32_64, wrap_u64, wrap_i64, hshl, hor, h3]
theorem cv_64_i64 (n : Int) (j : IntKind) : Go.Den.convert base 63 2 (.int j n) = some (.int .i64 (IntKind.wrap .i64 n)) := conv_int (x := .int .u64) (by kernel_rfl) (by kernel_rfl)
noncomputable def pSmallof : Pol := .still (p1 cN (fun r : Int × Bool => .tup [.int .i64 r.1, .bool r.2]) (fun a => few a.2) smallS)
theorem okSmallof : PolOK base 28 pSmallof := still1 base_ok [(18, pRnorm)] ⟨okRnorm, trivial⟩ fun a ha => by
  have hr := rep_rnorm a
  have e1 : ∀ (H : Heap) (k : AV → Heap → Option AV), polK pRnorm [eN a] H k = k (eN (rnormS a)) H := fun H k => kRnorm ha
  rw [small_eq]
  generalize toI a = Z at *
  generalize rnormS a = x at *
  obtain ⟨p, d⟩ := x
  obtain ⟨h1, h2⟩ := hr
  dsimp only at h1 h2
  have b0 : Go.Den.Box [.row 0 2 24 [eN a]] 0 2 24 [.bool a.1, eD a.2] := rfl
  have b1 : Go.Den.Box [.row 0 2 24 [eN (p, d)]] 0 2 24 [.bool p, eD d] := rfl
  have l0 := box_load b0 rfl
  have s0 : A.store 2 (.ptr 0 0 0 0) (eN (p, d)) [.row 0 2 24 [eN a]] = some [.row 0 2 24 [eN (p, d)]] :=
    box_store (ds := [.bool p, eD d]) b0 rfl rfl ((fun d => by cases d <;> rfl : ∀ d : Option (List UInt32), [AV.bool p, eD d].all AV.one = true) _)
  have f1 := b1.fa (o := 1)
  have f2 := b1.load (o := 1)
  have f3 := b1.fa (o := 0)
  have f4 := b1.load (o := 0)
  simp only [List.getElem?_cons_succ, List.getElem?_cons_zero] at f2 f4
  by_cases hbig : 2 < (d.getD []).length
  · have hbig' : (2 : Int) < ((d.getD []).length : Int) := by omega
    have hnf : fitsS Z = false := by
      rw [h2] at hbig
      have : ¬ Z.natAbs < 4294967296 ^ 2 := fun h => by have := lim_le.2 h; omega
      unfold fitsS
      refine decide_eq_false ?_
      omega
    refine Evs.of fun n m => ?_
    simp [↓test_bool, ↓bindV_eq, ↓bindH_eq, ↓withV_of, ↓withH_some, ↓chkD_true, S28, l0, e1, s0, f1, f2, hbig', hnf]
  · have hbig' : ¬ (2 : Int) < ((d.getD []).length : Int) := by omega
    have hL := smallof_loop (pol := polT [(18, pRnorm)]) b1 (by omega) (d.getD []).length (Nat.le_refl _)
    have hN : val (d.getD []) = Z.natAbs := by rw [h2, val_lim]
    rw [List.drop_length, hN] at hL
    refine Evs.withL hL (Evs.of fun n m h3 _ => ?_)
    have e0 : ((val [] : Nat) : Int) = 0 := rfl
    rw [e0] at h3
    by_cases hz : Z < 0
    · rw [decide_eq_true hz] at h1
      subst h1
      obtain ⟨N, hNN⟩ : ∃ N, Z.natAbs = N := ⟨_, rfl⟩
      rw [hNN] at h3
      have hZ : Z = -(N : Int) := by omega
      by_cases hc : 576460752303423488 < N
      · have hc' : (576460752303423488 : Int) < (N : Int) := by omega
        have hnf : fitsS Z = false := by unfold fitsS; exact decide_eq_false (by omega)
        simp (disch := omega) [↓test_bool, ↓bindV_eq, ↓bindH_eq, ↓withV_of, ↓withP_some, ↓withH_some, ↓withB_some, ↓bindX_some, ↓chkD_true, S28, l0, e1, s0, f1, f2, f3, hbig', wrap_i64, h3, hc', hnf]
      · have hc' : ¬ (576460752303423488 : Int) < (N : Int) := by omega
        have hnf : fitsS Z = true := by unfold fitsS; exact decide_eq_true (by omega)
        have hneg : A.un .neg (.int .i64 (N : Int)) = some (.int .i64 Z) := by
          show some (AV.int .i64 (IntKind.wrap .i64 (0 - (N : Int)))) = _
          rw [wrap_i64 (by omega) (by omega)]
          congr 2
          omega
        by_cases he : (N : Int) = 576460752303423488 <;> simp (disch := omega) [↓test_bool, ↓bindV_eq, ↓bindH_eq, ↓withV_of, ↓withP_some, ↓withH_some, ↓withB_some, ↓bindX_some, ↓chkD_true, S28, l0, e1, s0, f1, f2, f3, f4, hbig', wrap_i64, h3, hc', hnf, he, cv_64_i64, hneg]
        all_goals (rw [he] at hneg; simp [hneg])
    · rw [decide_eq_false hz] at h1
      subst h1
      obtain ⟨N, hNN⟩ : ∃ N, Z.natAbs = N := ⟨_, rfl⟩
      rw [hNN] at h3
      have hZ : Z = (N : Int) := by omega
      subst hZ
      by_cases hc : 576460752303423488 < N
      · have hc' : (576460752303423488 : Int) < (N : Int) := by omega
        have hnf : fitsS (N : Int) = false := by unfold fitsS; exact decide_eq_false (by omega)
        simp (disch := omega) [↓test_bool, ↓bindV_eq, ↓bindH_eq, ↓withV_of, ↓withP_some, ↓withH_some, ↓withB_some, ↓bindX_some, ↓chkD_true, S28, l0, e1, s0, f1, f2, f3, hbig', wrap_i64, h3, hc', hnf]
      · have hc' : ¬ (576460752303423488 : Int) < (N : Int) := by omega
        by_cases he : (N : Int) = 576460752303423488
        · have hnf : fitsS (N : Int) = false := by unfold fitsS; exact decide_eq_false (by omega)
          simp (disch := omega) [↓test_bool, ↓bindV_eq, ↓bindH_eq, ↓withV_of, ↓withP_some, ↓withH_some, ↓withB_some, ↓bindX_some, ↓chkD_true, S28, l0, e1, s0, f1, f2, f3, f4, hbig', wrap_i64, h3, he, (by decide : fitsS 576460752303423488 = false)]
        · have hnf : fitsS (N : Int) = true := by unfold fitsS; exact decide_eq_true (by omega)
          simp (disch := omega) [↓test_bool, ↓bindV_eq, ↓bindH_eq, ↓withV_of, ↓withP_some, ↓withH_some, ↓withB_some, ↓bindX_some, ↓chkD_true, S28, l0, e1, s0, f1, f2, f3, f4, hbig', wrap_i64, h3, hc', hnf, he, cv_64_i64]
theorem kSmallof {R : Type} {a : Nm} (hf : few a.2) {H : Heap} {k : AV → Heap → Option R} : polK pSmallof [eN a] H k = k (.tup [.int .i64 (smallS a).1, .bool (smallS a).2]) H := by
  simp [pSmallof, polK_imm, hf]
theorem qSmallof {R : Type} {a : Nm} (hf : few a.2) {H : Heap} {k : AV → Heap → Option R} : polQ pSmallof [eN a] H k = k (.tup [.int .i64 (smallS a).1, .bool (smallS a).2]) H := by
  simp [pSmallof, polQ_imm, hf]
end Go.Proofs.YtikkpecdkdgmfaaDoor

/- Numbers of any size: the reference's products. -/
set_option maxRecDepth 100000
set_option maxHeartbeats 2000000
namespace Go.Proofs.YtikkpecdkdgmfaaDoor
open Go Go.Den
theorem rmul_inner {pol : FuncId → Pol} {dx dy : Option (List UInt32)} {id bi : Nat} {p q : Bool} {i : Nat} {o0 : List UInt32} {t6 : AV} {c1 : List AV} (hne : bi ≠ id) (hiu : i < (dx.getD []).length) (hL : i + (dy.getD []).length < o0.length) (hbig : o0.length ≤ 2000000) : ∀ (k j c : Nat) (o : List UInt32) (H : Heap), k + j = (dy.getD []).length → o.length = o0.length → o.drop (i + j) = o0.drop (i + j) → c < 4294967296 →
    val o + c * 4294967296 ^ (i + j) = val o0 + 4294967296 ^ i * (((dx.getD [])[i]).toNat * val ((dy.getD []).take j)) → H[id]? = some (.row 0 1 64 (o.map eu)) → Go.Den.Box H bi 2 24 [.bool q, eD dy] →
    ∃ (H' : Heap) (o' : List UInt32) (c' : Nat), LDoes (L25_1 pol) ⟨[.ptr bi 0 0 0, t6, .sl id 0 0 o0.length o0.length, .int .i64 (i : Nat), .int .u64 (c : Nat), .int .i64 (j : Nat)], [[.bool p, eD dx], c1]⟩ H 0
      ⟨[.ptr bi 0 0 0, t6, .sl id 0 0 o0.length o0.length, .int .i64 (i : Nat), .int .u64 (c' : Nat)], [[.bool p, eD dx], c1]⟩ H' ∧ Go.Den.Box H' bi 2 24 [.bool q, eD dy] ∧ H'[id]? = some (.row 0 1 64 (o'.map eu)) ∧ o'.length = o0.length ∧ o'.drop (i + (dy.getD []).length) = o0.drop (i + (dy.getD []).length) ∧ c' < 4294967296 ∧
      val o' + c' * 4294967296 ^ (i + (dy.getD []).length) = val o0 + 4294967296 ^ i * (((dx.getD [])[i]).toNat * val (dy.getD [])) := by
  intro k
  induction k with
  | zero =>
    intro j c o H hk ho hd hc hv hH hBx
    have : j = (dy.getD []).length := by omega
    subst this
    rw [List.take_length] at hv
    refine ⟨H, o, c, LDoes.step (Evs.of fun n m => ?_), hBx, hH, ho, hd, hc, hv⟩
    have f1 := hBx.fa (o := 1)
    have f2 := hBx.load (o := 1)
    simp only [List.getElem?_cons_succ, List.getElem?_cons_zero] at f2
    simp [↓test_bool, ↓withV_of, L25_1_step, f1, f2]
  | succ k ih =>
    intro j c o H hk ho hd hc hv hH hBx
    have hlt : j < (dy.getD []).length := by omega
    have hx := idx_eD (d := dy) (H := H) (k := .i64) (i := j) (by omega)
    have hxu := idx_eD (d := dx) (H := H) (k := .i64) (i := i) (by omega)
    have f1 := hBx.fa (o := 1)
    have f2 := hBx.load (o := 1)
    simp only [List.getElem?_cons_succ, List.getElem?_cons_zero] at f2
    have hio : i + j < o.length := by omega
    obtain ⟨r1, r2, r3⟩ := lrow (k := .i64) (n := o0.length) (j := i + j) (i := (i : Int) + (j : Int)) hH ho.symm hio (by omega)
    have hu := limb_lt (dx.getD [])[i]
    have hy := limb_lt (dy.getD [])[j]
    have hod := limb_lt o[i + j]
    obtain ⟨hb1, hb2⟩ := mul_bound hu hy hc hod
    have hset := val_set hio (UInt32.ofNat (c + (((dx.getD [])[i]).toNat * ((dy.getD [])[j]).toNat + (o[i + j]).toNat)))
    rw [limb_of] at hset
    have hvt := val_take_succ hlt
    have hdm := Nat.div_add_mod (c + (((dx.getD [])[i]).toNat * ((dy.getD [])[j]).toNat + (o[i + j]).toNat)) 4294967296
    have hnew := mul_alg (B := 4294967296) (q := (c + (((dx.getD [])[i]).toNat * ((dy.getD [])[j]).toNat + (o[i + j]).toNat)) / 4294967296) hset (Nat.mod_add_div _ _).symm rfl hv (Nat.pow_add _ _ _)
    rw [← hvt] at hnew
    have hdrop : (o.set (i + j) (UInt32.ofNat (c + (((dx.getD [])[i]).toNat * ((dy.getD [])[j]).toNat + (o[i + j]).toNat)))).drop (i + (j + 1)) = o0.drop (i + (j + 1)) := by
      rw [List.drop_set_of_lt (by omega)]
      have e1 : o.drop (i + (j + 1)) = (o.drop (i + j)).drop 1 := by rw [List.drop_drop]; congr 1
      have e2 : o0.drop (i + (j + 1)) = (o0.drop (i + j)).drop 1 := by rw [List.drop_drop]; congr 1
      rw [e1, e2, hd]
    obtain ⟨H', o', c', hL', q0, q1, q2, q3, q4, q5⟩ := ih (j + 1) ((c + (((dx.getD [])[i]).toNat * ((dy.getD [])[j]).toNat + (o[i + j]).toNat)) / 4294967296) (o.set (i + j) (UInt32.ofNat (c + (((dx.getD [])[i]).toNat * ((dy.getD [])[j]).toNat + (o[i + j]).toNat)))) _ (by omega) (by rw [List.length_set, ho]) hdrop (by omega) (by rw [show i + (j + 1) = (i + j) + 1 by omega, Nat.pow_succ]; exact hnew) (row_set hH) (by unfold Go.Den.Box; rw [get_set_ne (Ne.symm hne)]; exact hBx)
    refine ⟨H', o', c', LDoes.step (Evs.withL hL' (Evs.of fun n m _ h3 => ?_)), q0, q1, q2, q3, q4, q5⟩
    have hst := r3 (UInt32.ofNat (c + (((dx.getD [])[i]).toNat * ((dy.getD [])[j]).toNat + (o[i + j]).toNat)))
    generalize (dx.getD [])[i] = u at *
    generalize o[i + j] = ol at *
    generalize (dy.getD [])[j] = yl at *
    have hp0 : (0 : Int) ≤ (u.toNat : Int) * (yl.toNat : Int) := by rw [← Int.natCast_mul]; omega
    have hp1 : (u.toNat : Int) * (yl.toNat : Int) ≤ 18446744065119617025 := by rw [← Int.natCast_mul]; omega
    have hcast : (u.toNat : Int) * (yl.toNat : Int) + (ol.toNat : Int) + (c : Int) = ((c + (u.toNat * yl.toNat + ol.toNat) : Nat) : Int) := by simp only [Int.natCast_add, Int.natCast_mul]; omega
    have hb2' : (u.toNat : Int) * (yl.toNat : Int) + (ol.toNat : Int) + (c : Int) < 18446744073709551616 := by rw [hcast]; omega
    have hw : IntKind.wrap .u32 ((u.toNat : Int) * (yl.toNat : Int) + (ol.toNat : Int) + (c : Int)) = (UInt32.ofNat (c + (u.toNat * yl.toNat + ol.toNat))).toNat := by rw [hcast]; exact wrap_nat32 _
    have hsh : ∀ H, A.bin base.P .shr 63 (.int .u64 ((u.toNat : Int) * (yl.toNat : Int) + (ol.toNat : Int) + (c : Int))) (.int .u64 32) true H = some (.int .u64 (((c + (u.toNat * yl.toNat + ol.toNat)) / 4294967296 : Nat) : Int)) := fun H => by
      rw [hcast]
      exact shr_u64 (s := 32) (by omega)
    generalize (((c + (u.toNat * yl.toNat + ol.toNat)) / 4294967296 : Nat) : Int) = cq at *
    generalize UInt32.ofNat (c + (u.toNat * yl.toNat + ol.toNat)) = dg at *
    simp only [Int.natCast_add, Int.natCast_one, List.map_set] at h3
    simp (disch := omega) [↓test_bool, ↓withV_of, ↓withH_some, L25_1_step, A.ofList, hlt, hx, hxu, f1, f2, cv_32_64, cv_64_32, wrap_u64, wrap_i64, r1, r2, hw, hst, hsh, h3]
end Go.Proofs.YtikkpecdkdgmfaaDoor

/- Numbers of any size: the reference's products. -/
set_option maxRecDepth 100000
set_option maxHeartbeats 2000000
namespace Go.Proofs.YtikkpecdkdgmfaaDoor
open Go Go.Den
theorem rmul_outer {pol : FuncId → Pol} {dx dy : Option (List UInt32)} {id bi : Nat} {p q : Bool} {t6 : AV} {c1 : List AV} (hne : bi ≠ id) (hbx : (dx.getD []).length ≤ 128) (hby : (dy.getD []).length ≤ 128) : ∀ (k i : Nat) (o : List UInt32) (H : Heap), k + i = (dx.getD []).length → o.length = (dx.getD []).length + (dy.getD []).length → val o = val ((dx.getD []).take i) * val (dy.getD []) →
    H[id]? = some (.row 0 1 64 (o.map eu)) → Go.Den.Box H bi 2 24 [.bool q, eD dy] →
    ∃ H', LDoes (L25_0 pol) ⟨[.ptr bi 0 0 0, t6, .sl id 0 0 ((dx.getD []).length + (dy.getD []).length) ((dx.getD []).length + (dy.getD []).length), .int .i64 (i : Nat)], [[.bool p, eD dx], c1]⟩ H 0 ⟨[.ptr bi 0 0 0, t6, .sl id 0 0 ((dx.getD []).length + (dy.getD []).length) ((dx.getD []).length + (dy.getD []).length)], [[.bool p, eD dx], c1]⟩ H' ∧ Go.Den.Box H' bi 2 24 [.bool q, eD dy] ∧
      H'[id]? = some (.row 0 1 64 ((digs ((dx.getD []).length + (dy.getD []).length) (val (dx.getD []) * val (dy.getD []))).map eu)) := by
  intro k
  induction k with
  | zero =>
    intro i o H hk ho hv hH hBx
    have : i = (dx.getD []).length := by omega
    subst this
    rw [List.take_length] at hv
    have e : o = digs ((dx.getD []).length + (dy.getD []).length) (val (dx.getD []) * val (dy.getD [])) := eq_digs ho hv
    rw [e] at hH
    refine ⟨H, LDoes.step (Evs.of fun n m => ?_), hBx, hH⟩
    simp [↓test_bool, ↓bindV_eq, ↓bindC_eq, ↓withV_of, L25_0_step, A.ofList]
  | succ k ih =>
    intro i o H hk ho hv hH hBx
    have hlt : i < (dx.getD []).length := by omega
    have hx := idx_eD (d := dx) (H := H) (k := .i64) (i := i) (by omega)
    obtain ⟨H1, o1, c1', hI, q0, q1, q2, q3, q4, q5⟩ := rmul_inner (pol := pol) (dx := dx) (dy := dy) (id := id) (bi := bi) (p := p) (q := q) (t6 := t6) (c1 := c1) (i := i) (o0 := o) hne hlt (by omega) (by omega) (dy.getD []).length 0 0 o H (by omega) rfl rfl (by omega) (by simp [val]) hH hBx
    have f1 := q0.fa (o := 1)
    have f2 := q0.load (o := 1)
    simp only [List.getElem?_cons_succ, List.getElem?_cons_zero] at f2
    have hlim : val o < 4294967296 ^ (i + (dy.getD []).length) := by
      rw [hv, Nat.pow_add]
      have h1 := val_take_lt (dx.getD []) i
      have h2 := val_lt (dy.getD [])
      generalize 4294967296 ^ (dy.getD []).length = p' at *
      generalize 4294967296 ^ i = q' at *
      rcases Nat.eq_zero_or_pos (val (dy.getD [])) with h | h
      · rw [h, Nat.mul_zero]
        exact Nat.mul_pos (by omega) (by omega)
      · calc val ((dx.getD []).take i) * val (dy.getD []) < q' * val (dy.getD []) := Nat.mul_lt_mul_of_pos_right h1 h
          _ ≤ q' * p' := Nat.mul_le_mul_left _ (by omega)
    have hio : i + (dy.getD []).length < o1.length := by omega
    have hzero : o1[i + (dy.getD []).length] = 0 := by
      have h1 := List.drop_eq_getElem_cons (l := o1) (i := i + (dy.getD []).length) hio
      have h2 := List.drop_eq_getElem_cons (l := o) (i := i + (dy.getD []).length) (by omega)
      rw [q3, h2] at h1
      rw [← (List.cons.inj h1).1]
      exact limb_zero hlim (Nat.le_refl _) (by omega)
    have hset := val_set hio (UInt32.ofNat c1')
    rw [hzero, limb_of, Nat.mod_eq_of_lt q4] at hset
    simp only [UInt32.toNat_zero, Nat.mul_zero, Nat.add_zero] at hset
    have hvn : val (o1.set (i + (dy.getD []).length) (UInt32.ofNat c1')) = val ((dx.getD []).take (i + 1)) * val (dy.getD []) := by
      rw [hset, Nat.mul_comm _ c1', q5, hv, val_take_succ hlt]
      grind
    obtain ⟨r1, r2, r3⟩ := lrow (k := .i64) (n := (dx.getD []).length + (dy.getD []).length) (j := i + (dy.getD []).length) (i := (i : Int) + ((dy.getD []).length : Int)) q1 (by omega) hio (by omega)
    obtain ⟨H', hL', hb', hr⟩ := ih (i + 1) (o1.set (i + (dy.getD []).length) (UInt32.ofNat c1')) _ (by omega) (by rw [List.length_set]; omega) hvn (row_set q1) (by unfold Go.Den.Box; rw [get_set_ne (Ne.symm hne)]; exact q0)
    refine ⟨H', LDoes.step (Evs.withL hI (Evs.withL hL' (Evs.of fun n m _ h3 h4 h5 => ?_))), hb', hr⟩
    have hst := r3 (UInt32.ofNat c1')
    have hw : IntKind.wrap .u32 (c1' : Int) = (UInt32.ofNat c1').toNat := wrap_nat32 _
    generalize UInt32.ofNat c1' = dg at *
    rw [ho] at h4
    simp only [Int.natCast_add, List.map_set, Int.cast_ofNat_Int] at h3 h4 hst
    simp (disch := omega) [↓test_bool, ↓bindV_eq, ↓bindC_eq, ↓withV_of, ↓withH_some, ↓bindX_some, L25_0_step, A.ofList, hlt, f1, f2, cv_64_32, wrap_i64, h4, r1, hw, hst, h3]
end Go.Proofs.YtikkpecdkdgmfaaDoor

/- Numbers of any size: the reference's products, as an entry. -/
set_option maxRecDepth 100000
set_option maxHeartbeats 2000000
namespace Go.Proofs.YtikkpecdkdgmfaaDoor
open Go Go.Den
def rmulS (a b : Nm) : Nm × Bool :=
  if 128 < (lim (mag a)).length ∨ 128 < (lim (mag b)).length then ((false, none), false)
  else if 128 < (lim (mag a * mag b)).length then ((false, none), false)
  else (rnormS ((rnormS a).1 != (rnormS b).1, some (lim (mag a * mag b))), true)
theorem rnorm_val {p : Bool} {l m : List UInt32} (h : val l = val m) : rnormS (p, some l) = rnormS (p, some m) := by
  unfold rnormS
  simp only [Option.getD_some, h]
noncomputable def pRmul : Pol := .still (p2 cN cN (fun r : Nm × Bool => .tup [eN r.1, .bool r.2]) (fun a b => few a.2 ∧ few b.2) rmulS)
noncomputable abbrev TRmul : List (FuncId × Pol) := [(18, pRnorm)]
theorem okRmul : PolOK base 25 pRmul := still2 base_ok TRmul ⟨okRnorm, trivial⟩ fun a b ⟨ha, hb⟩ => by
  have e1 : ∀ (H : Heap) (k : AV → Heap → Option AV), polQ pRnorm [eN a] H k = k (eN (rnormS a)) H := fun H k => qRnorm ha
  have e2 : ∀ (H : Heap) (k : AV → Heap → Option AV), polQ pRnorm [eN b] H k = k (eN (rnormS b)) H := fun H k => qRnorm hb
  have gx : (rnormS a).2.getD [] = lim (mag a) := by unfold rnormS; exact nz_get ..
  have gy : (rnormS b).2.getD [] = lim (mag b) := by unfold rnormS; exact nz_get ..
  unfold rmulS
  generalize hX : mag a = X at *
  generalize hY : mag b = Y at *
  generalize rnormS a = x at *
  generalize rnormS b = y at *
  obtain ⟨p, dx⟩ := x
  obtain ⟨q, dy⟩ := y
  dsimp only at gx gy ⊢
  have b0 : Go.Den.Box [.row 0 2 24 [eN b]] 0 2 24 [.bool b.1, eD b.2] := rfl
  have b1 : Go.Den.Box [.row 0 2 24 [eN (q, dy)]] 0 2 24 [.bool q, eD dy] := rfl
  have l0 := box_load b0 rfl
  have s0 : A.store 2 (.ptr 0 0 0 0) (eN (q, dy)) [.row 0 2 24 [eN b]] = some [.row 0 2 24 [eN (q, dy)]] :=
    box_store (ds := [.bool q, eD dy]) b0 rfl rfl ((fun d => by cases d <;> rfl : ∀ d : Option (List UInt32), [AV.bool q, eD d].all AV.one = true) _)
  have f1 := b1.fa (o := 1)
  have f2 := b1.load (o := 1)
  simp only [List.getElem?_cons_succ, List.getElem?_cons_zero] at f2
  by_cases h1 : 128 < (lim X).length
  · rw [if_pos (.inl h1)]
    have h1' : (128 : Int) < ((lim X).length : Int) := by omega
    refine Evs.of fun n m => ?_
    simp [↓test_bool, ↓bindV_eq, ↓bindC_eq, ↓bindH_eq, ↓withV_of, ↓withP_some, ↓withH_some, ↓withB_some, ↓chkD_true, S25, A.ofList, A.fits, A.splice, A.fill, e1, l0, e2, s0, gx, h1']
    exact frz_nb (d := none)
  have h1' : ¬ (128 : Int) < ((lim X).length : Int) := by omega
  by_cases h2 : 128 < (lim Y).length
  · rw [if_pos (.inr h2)]
    have h2' : (128 : Int) < ((lim Y).length : Int) := by omega
    refine Evs.of fun n m => ?_
    simp [↓test_bool, ↓bindV_eq, ↓bindC_eq, ↓bindH_eq, ↓withV_of, ↓withP_some, ↓withH_some, ↓withB_some, ↓chkD_true, S25, A.ofList, A.fits, A.splice, A.fill, e1, l0, e2, s0, f1, f2, gx, gy, h1', h2']
    exact frz_nb (d := none)
  have h2' : ¬ (128 : Int) < ((lim Y).length : Int) := by omega
  rw [if_neg (by omega)]
  obtain ⟨L, hLL⟩ : ∃ L, (lim X).length + (lim Y).length = L := ⟨_, rfl⟩
  have hmk : A.makeSlice 1 4 64 (.int .u32 0) (.int .i64 (((lim X).length : Int) + ((lim Y).length : Int))) (.int .i64 (((lim X).length : Int) + ((lim Y).length : Int))) [.row 0 2 24 [eN (q, dy)]] = some (.sl 1 0 0 L L, [.row 0 2 24 [eN (q, dy)], .row 0 1 64 ((List.replicate L (0 : UInt32)).map eu)]) := by
    rw [show ((lim X).length : Int) + ((lim Y).length : Int) = ((L : Nat) : Int) by omega, row_make (bytes := 4) (l := ((L : Nat) : Int)) (by omega) (by omega) (by omega)]
    simp
  obtain ⟨H', hL, hbx, hr⟩ := rmul_outer (pol := polT TRmul) (dx := dx) (dy := dy) (id := 1) (bi := 0) (p := p) (q := q) (t6 := .int .i64 128) (c1 := [.bool false, .nils]) (by omega) (by rw [gx]; omega) (by rw [gy]; omega) (lim X).length 0 (List.replicate L 0) [.row 0 2 24 [eN (q, dy)], .row 0 1 64 ((List.replicate L (0 : UInt32)).map eu)]
    (by rw [gx]; omega) (by rw [gx, gy]; simp [hLL]) (by simp [val, val_zeros]) rfl rfl
  rw [gx, gy, hLL] at hL hr
  rw [val_lim, val_lim] at hr
  have g3 := hbx.fa (o := 0)
  have g4 := hbx.load (o := 0)
  simp only [List.getElem?_cons_zero] at g4
  obtain ⟨w, hw⟩ : ∃ w, (p != q) = w := ⟨_, rfl⟩
  have hbin : ∀ H, A.bin base.P .neq 4 (.bool p) (.bool q) false H = some (.bool w) := fun H => by rw [A.bin_bne ty_bool, ← hw]; rfl
  have hprod : X * Y < 4294967296 ^ L := by
    have e1 := lim_le.1 (Nat.le_refl (lim X).length)
    have e2 := lim_le.1 (Nat.le_refl (lim Y).length)
    rw [← hLL, Nat.pow_add]
    exact Nat.mul_lt_mul'' e1 e2
  obtain ⟨G, hm⟩ : ∃ G : Heap, ∀ (k : AV → Heap → Option AV), polK pRnorm [.agg [.bool w, .sl 1 0 0 L L]] H' k = k (eN (rnormS (w, some (lim (X * Y))))) G := ⟨_, fun k => by
    unfold pRnorm
    have hz : freezeAll H' [.agg [.bool w, .sl 1 0 0 L L]] = some [.agg [.bool w, eD (some (digs L (X * Y)))]] := freezeAll_cons (frz_num hr (by rw [digs_length])) rfl
    rw [polK_frz hz]
    simp only [p1_app, dec_cN, Option.bind_some]
    rw [if_pos (by unfold few; simp only [Option.getD_some, digs_length]; omega), rnorm_val (l := digs L (X * Y)) (m := lim (X * Y)) (by rw [val_digs_lt hprod, val_lim])]
    rfl⟩
  have hg : (rnormS (w, some (lim (X * Y)))).2.getD [] = lim (X * Y) := by
    unfold rnormS
    dsimp only
    rw [nz_get, Option.getD_some, val_lim]
  rw [hw]
  generalize rnormS (w, some (lim (X * Y))) = M at *
  obtain ⟨M1, M2⟩ := M
  dsimp only at hg
  refine Evs.withL hL (Evs.of fun n m h3 _ => ?_)
  have e0 : ((0 : Nat) : Int) = 0 := rfl
  simp only [e0] at h3
  generalize (List.replicate L (0 : UInt32)).map eu = zz at *
  by_cases h5 : 128 < (lim (X * Y)).length
  · rw [if_pos h5]
    have h5' : (128 : Int) < ((lim (X * Y)).length : Int) := by omega
    simp (disch := omega) [↓test_bool, ↓bindV_eq, ↓bindC_eq, ↓bindH_eq, ↓withV_of, ↓withP_some, ↓withH_some, ↓withVH_some, ↓withB_some, ↓bindX_some, ↓chkD_true, S25, A.ofList, A.fits, A.splice, A.fill, e1, l0, e2, s0, f1, f2, gx, gy, h1', h2', hmk, wrap_i64, h3, g3, g4, hbin, hm, hg, h5']
    exact frz_nb (d := none)
  · rw [if_neg h5]
    have h5' : ¬ (128 : Int) < ((lim (X * Y)).length : Int) := by omega
    simp (disch := omega) [↓test_bool, ↓bindV_eq, ↓bindC_eq, ↓bindH_eq, ↓withV_of, ↓withP_some, ↓withH_some, ↓withVH_some, ↓withB_some, ↓bindX_some, ↓chkD_true, S25, A.ofList, A.fits, A.splice, A.fill, e1, l0, e2, s0, f1, f2, gx, gy, h1', h2', hmk, wrap_i64, h3, g3, g4, hbin, hm, hg, h5']
theorem kRmul {R : Type} {a b : Nm} (ha : few a.2) (hb : few b.2) {H : Heap} {k : AV → Heap → Option R} : polK pRmul [eN a, eN b] H k = k (.tup [eN (rmulS a b).1, .bool (rmulS a b).2]) H := by
  simp [pRmul, polK_imm, ha, hb]
theorem qRmul {R : Type} {a b : Nm} (ha : few a.2) (hb : few b.2) {H : Heap} {k : AV → Heap → Option R} : polQ pRmul [eN a, eN b] H k = k (.tup [eN (rmulS a b).1, .bool (rmulS a b).2]) H := by
  simp [pRmul, polQ_imm, ha, hb]
end Go.Proofs.YtikkpecdkdgmfaaDoor

/- Numbers of any size: the reference's sums of rows, with the row that is handed back. -/
set_option maxRecDepth 100000
set_option maxHeartbeats 2000000
namespace Go.Proofs.YtikkpecdkdgmfaaDoor
open Go Go.Den
theorem rplus_loopJ {ob : HObj} {a b : Option (List UInt32)} (ha : few a) (hb : few b) : ∀ (k i : Nat) (H : Heap) (out : AV), k + i = plusM a b → OutJ 0 ob eu 1 64 H out (digs i (plusT a b i)) →
    ∃ H' out', LDoes (L48_0 (polT TLimb)) ⟨[eD a, eD b, out, .int .u64 ((plusT a b i / 4294967296 ^ i : Nat) : Int), .int .i64 i], []⟩ H 0 ⟨[out', .int .u64 ((plusT a b (plusM a b) / 4294967296 ^ plusM a b : Nat) : Int)], []⟩ H' ∧ OutJ 0 ob eu 1 64 H' out' (digs (plusM a b) (plusT a b (plusM a b))) := by
  have ka := @limbK (AV × Heap)
  have hfa := ha
  have hfb := hb
  unfold few at ha hb
  have hM : plusM a b ≤ 1000000 := by unfold plusM; omega
  intro k
  induction k with
  | zero =>
    intro i H out hi ho
    have : i = plusM a b := by omega
    subst this
    refine ⟨H, out, LDoes.step (Evs.of fun n m => ?_), ho⟩
    have hA : ¬ plusM a b < (a.getD []).length := by unfold plusM; omega
    have hB : ¬ plusM a b < (b.getD []).length := by unfold plusM; omega
    generalize plusT a b (plusM a b) / 4294967296 ^ plusM a b = C at *
    generalize plusM a b = K at *
    simp [↓test_bool, ↓withV_of, ↓withP_some, ↓withB_some, L48_0_step, hA, hB]
  | succ k ih =>
    intro i H out hi ho
    have hg : i < (a.getD []).length ∨ i < (b.getD []).length := by
      have : i < plusM a b := by omega
      unfold plusM at this
      omega
    have hc := plusT_carry a b i
    have hx := at_lt (a.getD []) i
    have hy := at_lt (b.getD []) i
    generalize hC : plusT a b i / 4294967296 ^ i = C at *
    have hdig := plusT_digs a b i
    have hsuc := plusT_succ a b i
    rw [hC] at hdig hsuc
    have hcar : plusT a b (i + 1) / 4294967296 ^ (i + 1) = (C + at_ (a.getD []) i + at_ (b.getD []) i) / 4294967296 := by
      rw [Nat.pow_succ, ← Nat.div_div_eq_div_mul, hsuc]
    obtain ⟨v', H1, hap, hO⟩ := ho.push (x := UInt32.ofNat (C + at_ (a.getD []) i + at_ (b.getD []) i)) (bytes := 4) (by omega) (by rw [digs_length]; omega)
    rw [← hdig] at hO
    have hnum : ((at_ (a.getD []) i : Int) + at_ (b.getD []) i + C) = ((C + at_ (a.getD []) i + at_ (b.getD []) i : Nat) : Int) := by omega
    have hw : IntKind.wrap .u32 ((at_ (a.getD []) i : Int) + at_ (b.getD []) i + C) = ((UInt32.ofNat (C + at_ (a.getD []) i + at_ (b.getD []) i)).toNat : Nat) := by
      rw [hnum, ← wrap_nat32]
    generalize UInt32.ofNat (C + at_ (a.getD []) i + at_ (b.getD []) i) = dig at hap hw
    obtain ⟨H', out', hL, hO'⟩ := ih (i + 1) H1 v' (by omega) hO
    refine ⟨H', out', LDoes.step (Evs.withL hL (Evs.of fun n m _ h2 => ?_)), hO'⟩
    rw [hcar] at h2
    have hs : ∀ H, A.bin base.P .shr 63 (.int .u64 ((at_ (a.getD []) i : Int) + at_ (b.getD []) i + C)) (.int .u64 32) true H = some (.int .u64 (((C + at_ (a.getD []) i + at_ (b.getD []) i) / 4294967296 : Nat) : Int)) := fun H => by
      rw [hnum]
      exact shr_u64 (s := 32) (by omega)
    have hone := fillElems_one (eu dig) (.int .u32 0) rfl rfl
    have hread := tmp_read (H := H) (sz := 1) (ty := 64) (x := eu dig)
    have hi1 : IntKind.wrap .i64 ((i : Int) + 1) = (i : Int) + 1 := wrap_i64 (by omega) (by omega)
    have q1 : ∀ (H : Heap) (k : AV → Heap → Option (Nat × Live × Heap)), polK pLimb [eD a, .int .i64 (i : Int)] H k = k (.int .u64 (at_ (a.getD []) i : Nat)) H := fun H k => limbK hfa
    have q2 : ∀ (H : Heap) (k : AV → Heap → Option (Nat × Live × Heap)), polK pLimb [eD b, .int .i64 (i : Int)] H k = k (.int .u64 (at_ (b.getD []) i : Nat)) H := fun H k => limbK hfb
    generalize (((C + at_ (a.getD []) i + at_ (b.getD []) i) / 4294967296 : Nat) : Int) = cq at *
    generalize plusT a b (plusM a b) / 4294967296 ^ plusM a b = CC at *
    simp only [Int.natCast_add, Int.natCast_one] at h2
    by_cases hA : i < (a.getD []).length
    · simp (disch := omega) [↓test_bool, ↓bindV_eq, ↓bindH_eq, ↓withV_of, ↓withP_some, ↓withL_some, ↓withVH_some, ↓withB_some, L48_0_step, hA, q1, q2, cv_64_32, wrap_u64, hw, hs, hone, newsZ_sl ty_limbs, hread, hap, hi1, h2]
    · have hB : i < (b.getD []).length := by omega
      simp (disch := omega) [↓test_bool, ↓bindV_eq, ↓bindH_eq, ↓withV_of, ↓withP_some, ↓withL_some, ↓withVH_some, ↓withB_some, L48_0_step, hA, hB, q1, q2, cv_64_32, wrap_u64, hw, hs, hone, newsZ_sl ty_limbs, hread, hap, hi1, h2]
noncomputable def pPlusR : Pol := .prim (runF base TLimb 48)
theorem okPlusR : PolOK base 48 pPlusR := ok_run base_ok TLimb ⟨okLimb, trivial⟩
theorem kPlusR {a b : Option (List UInt32)} (ha : few a) (hb : few b) {H : Heap} {ob : HObj} (h0 : H[0]? = some ob) : ∃ id ver H', (∀ {R : Type} {k : AV → Heap → Option R}, polK pPlusR [eD a, eD b] H k = k (.sl id ver 0 (plusM a b + 1) (plusM a b + 1)) H') ∧
    H'[0]? = some ob ∧ H'[id]? = some (.row ver 1 64 ((digs (plusM a b + 1) (plusN a b)).map eu)) ∧ id ≠ 0 := by
  obtain ⟨H', out', hL, hO⟩ := rplus_loopJ (ob := ob) ha hb (plusM a b) 0 H .nils (by omega) (.nil h0)
  have hM : plusM a b ≤ 1000000 := by unfold few at ha hb; unfold plusM; omega
  have hN : plusT a b (plusM a b) = plusN a b := plusT_end (Nat.le_refl _)
  rw [hN] at hL hO
  obtain ⟨v', H1, hap, hO1⟩ := hO.push (x := UInt32.ofNat (plusN a b / 4294967296 ^ plusM a b)) (bytes := 4) (by omega) (by rw [digs_length]; omega)
  rw [← digs_append] at hO1
  have key : runF base TLimb 48 [eD a, eD b] H = some (v', H1) := runF_of (by
    refine Evs.withL hL (Evs.of fun n m h1 _ => ?_)
    have e0 : plusT a b 0 / 4294967296 ^ 0 = 0 := by simp [plusT, val]
    rw [e0] at h1
    simp only [Int.natCast_zero] at h1
    have hw : IntKind.wrap .u32 ((plusN a b / 4294967296 ^ plusM a b : Nat) : Int) = ((UInt32.ofNat (plusN a b / 4294967296 ^ plusM a b)).toNat : Nat) := wrap_nat32 _
    generalize UInt32.ofNat (plusN a b / 4294967296 ^ plusM a b) = dig at *
    generalize ((plusN a b / 4294967296 ^ plusM a b : Nat) : Int) = cc at *
    have hone := fillElems_one (eu dig) (.int .u32 0) rfl rfl
    have hread := tmp_read (H := H') (sz := 1) (ty := 64) (x := eu dig)
    simp [↓bindV_eq, ↓bindH_eq, ↓withV_of, ↓withL_some, ↓withVH_some, ↓bindX_some, S48, h1, cv_64_32, hw, hone, newsZ_sl ty_limbs, hread, hap])
  obtain ⟨g0, g1⟩ := hO1
  rcases g1 with ⟨e, _⟩ | ⟨id, ver, _, e, g2, g3⟩
  · have := congrArg List.length e
    rw [digs_length] at this
    simp at this
  · rw [digs_length] at e
    subst e
    exact ⟨id, ver, H1, fun {R k} => k_run key, g0, g2, g3⟩
end Go.Proofs.YtikkpecdkdgmfaaDoor

/- Numbers of any size: the reference's long division: one bit. -/
set_option maxRecDepth 100000
set_option maxHeartbeats 2000000
namespace Go.Proofs.YtikkpecdkdgmfaaDoor
open Go Go.Den
abbrev eR (r : Nat) : AV := eD (nz (lim r))
theorem few_lim {r n : Nat} (h : r < 4294967296 ^ n) (hn : n ≤ 1000000) : few (nz (lim r)) := by
  unfold few
  rw [nz_get]
  have := lim_le.2 h
  omega
theorem kill_keep {j : Nat} : ∀ {ids : List Nat} {H : Heap}, j ∉ ids → (kill ids H)[j]? = H[j]?
  | [], _, _ => rfl
  | i :: ids, H, h => by
    show (kill ids (H.set i .dead))[j]? = _
    rw [kill_keep (fun hm => h (List.mem_cons_of_mem _ hm)), List.getElem?_set_ne (fun e => h (by rw [e]; exact List.mem_cons_self))]
theorem reach_agg {n : Nat} {H : Heap} {cs : List AV} : reach (n + 1) H (.agg cs) = cs.flatMap (reach n H) := rfl
theorem reach_int {n : Nat} {H : Heap} {x : UInt32} : reach n H (eu x) = [] := by cases n <;> rfl
theorem reach_row {n : Nat} {H : Heap} {id ver a b c w sz ty : Nat} {l : List UInt32} (h : H[id]? = some (.row w sz ty (l.map eu))) : reach (n + 1) H (.sl id ver a b c) = [id] := by
  show id :: (match H[id]? with | some (.row _ _ _ es) => es.flatMap fun e => e.cells.flatMap (reach n H) | _ => []) = _
  rw [h]
  dsimp only
  rw [List.flatMap_eq_nil_iff.2]
  intro e he
  obtain ⟨x, _, rfl⟩ := List.mem_map.1 he
  show [eu x].flatMap (reach n H) = []
  rw [List.flatMap_cons, reach_int]
  rfl
theorem kNormR {l : List UInt32} {H : Heap} {id ver n : Nat} {ob : HObj} (h0 : H[0]? = some ob) (hid : H[id]? = some (.row ver 1 64 (l.map eu))) (hne : id ≠ 0) (hn : n = l.length) (hf : l.length ≤ 1000000) :
    ∃ H', (∀ {R : Type} {k : AV → Heap → Option R}, polK pRnorm [.agg [.bool false, .sl id ver 0 n n]] H k = k (.agg [.bool false, eR (val l)]) H') ∧ H'[0]? = some ob := by
  have hz : freezeAll H [.agg [.bool false, .sl id ver 0 n n]] = some [.agg [.bool false, eD (some l)]] := freezeAll_cons (frz_num hid hn) rfl
  have hr : ([AV.agg [.bool false, .sl id ver 0 n n]].flatMap (reach 64 H)) = [id] := by
    rw [List.flatMap_cons, show (64 : Nat) = 62 + 1 + 1 from rfl, reach_agg, List.flatMap_cons, List.flatMap_cons, reach_row hid]
    rfl
  refine ⟨bif (eN (rnormS (false, some l))).flat then H else kill [id] H, fun {R k} => ?_, ?_⟩
  · unfold pRnorm
    rw [polK_frz hz, hr]
    have hf' : few (some l) := hf
    simp [hf', rnormS]
  · cases (eN (rnormS (false, some l))).flat
    · simp only [cond_false]
      rw [kill_keep (by simp; omega)]
      exact h0
    · exact h0
theorem and_one {P : Program} {t : TypeId} {c : Bool} {H : Heap} {x : Nat} (h : x < 4294967296) : A.bin P .and t (.int .u32 (x : Int)) (.int .u32 1) c H = some (.int .u32 ((x % 2 : Nat) : Int)) := by
  have key : (BitVec.ofInt 32 (x : Int) &&& BitVec.ofInt 32 (1 : Int)).toNat = x % 2 := by
    rw [BitVec.toNat_and]
    simp
  simp only [A.bin, decide_true, cond_true, A.binInt, A.bits, Option.map_some]
  rw [show IntKind.bits .u32 = 32 from rfl, key, wrap_u32 (by omega) (by omega)]
theorem or_hi {P : Program} {t : TypeId} {c : Bool} {H : Heap} {x y s : Nat} (hx : x < 2 ^ s) (h : x + 2 ^ s * y < 4294967296) :
    A.bin P .or t (.int .u32 ((2 ^ s * y : Nat) : Int)) (.int .u32 (x : Int)) c H = some (.int .u32 ((x + 2 ^ s * y : Nat) : Int)) := by
  have e : 2 ^ s * y ||| x = x + 2 ^ s * y := by rw [← Nat.two_pow_add_eq_or_of_lt hx, Nat.add_comm]
  have key : ∀ p q : Nat, p < 4294967296 → q < 4294967296 → (BitVec.ofInt 32 (p : Int) ||| BitVec.ofInt 32 (q : Int)).toNat = p ||| q := fun p q hp hq => by
    rw [BitVec.toNat_or]
    simp
    rw [Nat.mod_eq_of_lt hp, Nat.mod_eq_of_lt hq]
  simp only [A.bin, decide_true, cond_true, A.binInt, A.bits, Option.map_some]
  rw [show IntKind.bits .u32 = 32 from rfl, key _ _ (by omega) (by omega), e, wrap_u32 (by omega) (by omega)]
theorem double_len {r n : Nat} (h : r < 4294967296 ^ n) : (digs ((lim r).length + 1) (2 * r)).length ≤ n + 1 := by
  rw [digs_length]
  have := lim_le.2 h
  omega
theorem double_val (r : Nat) : val (digs ((lim r).length + 1) (2 * r)) = 2 * r := by
  refine val_digs_lt ?_
  have := val_lt (lim r)
  rw [val_lim] at this
  rw [Nat.pow_succ]
  omega
theorem double_one (r : Nat) : ∃ x l, digs ((lim r).length + 1) (2 * r) = x :: l ∧ (∃ y, x.toNat = 2 ^ 1 * y ∧ 1 + 2 ^ 1 * y < 4294967296 ∧ val (UInt32.ofNat (1 + 2 ^ 1 * y) :: l) = 2 * r + 1) := by
  refine ⟨UInt32.ofNat (2 * r), digs (lim r).length (2 * r / 4294967296), rfl, r % 2147483648, ?_, by omega, ?_⟩
  · simp
    omega
  · have h := double_val r
    rw [show digs ((lim r).length + 1) (2 * r) = UInt32.ofNat (2 * r) :: digs (lim r).length (2 * r / 4294967296) from rfl] at h
    have h1 : (UInt32.ofNat (2 * r)).toNat = 2 * (r % 2147483648) := by simp; omega
    have h2 : (UInt32.ofNat (1 + 2 ^ 1 * (r % 2147483648))).toNat = 1 + 2 * (r % 2147483648) := by simp; omega
    unfold val at h ⊢
    rw [h1] at h
    rw [h2]
    omega
end Go.Proofs.YtikkpecdkdgmfaaDoor

/- Numbers of any size: the reference's long division: a limb's bits. -/
set_option maxRecDepth 100000
set_option maxHeartbeats 4000000
namespace Go.Proofs.YtikkpecdkdgmfaaDoor
open Go Go.Den
theorem cv_3_65 (n : Int) (j : IntKind) : Go.Den.convert base 3 65 (.int j n) = some (.int .u64 (IntKind.wrap .u64 n)) := conv_int (x := .int .i64) (by kernel_rfl) (by kernel_rfl)
noncomputable abbrev TLong : List (FuncId × Pol) := [(18, pRnorm), (48, pPlusR), (49, pMags), (50, pRminus)]
theorem okTLong : TabOK base TLong := ⟨okRnorm, okPlusR, okMags, okRminus, trivial⟩
theorem take_off {r B n : Nat} (hB : B ≤ r) (hr : r < 4294967296 ^ n) (hn : n ≤ 1000000) {R : Type} {H : Heap} {k : AV → Heap → Option R} :
    polK pRminus [eR r, eR B] H (fun t H1 => polK pRnorm [.agg [.bool false, t]] H1 k) = k (.agg [.bool false, eR (r - B)]) H := by
  have f1 : few (nz (lim r)) := few_lim hr hn
  have f2 : few (nz (lim B)) := few_lim (Nat.lt_of_le_of_lt hB hr) hn
  have hv : val ((nz (lim B)).getD []) ≤ val ((nz (lim r)).getD []) := by rw [nz_get, nz_get, val_lim, val_lim]; exact hB
  rw [kRminus f1 f2 hv]
  have h3 : few (rminusS (nz (lim r)) (nz (lim B))) := by
    unfold few
    rw [rminus_len]
    exact f1
  have e : rnormS (false, rminusS (nz (lim r)) (nz (lim B))) = (false, nz (lim (r - B))) := by
    unfold rnormS
    rw [rminus_val, nz_get, nz_get, val_lim, val_lim]
    rfl
  have := kRnorm (a := (false, rminusS (nz (lim r)) (nz (lim B)))) h3 (H := H) (k := k)
  rw [e] at this
  exact this
theorem div_bits {na nb : Bool} {a' : Option (List UInt32)} {B n : Nat} (hB : 0 < B) (hBn : B < 4294967296 ^ n) (hn : n ≤ 1000) {i len : Nat} {x : UInt32} (hi : i < (a'.getD []).length) (hx : (a'.getD [])[i] = x) (hlen : i < len) {c2 c3 : List AV} :
    ∀ (k : Nat), k ≤ 32 → ∀ (H : Heap) (q : List UInt32) (r Q : Nat), (hq : q.length = len) → r < B → Q < 2 ^ (32 - k) → q[i] = UInt32.ofNat (2 ^ k * Q) → H[0]? = some (.row 0 1 64 (q.map eu)) →
      ∃ H' r' Q', LDoes (L26_1 (polT TLong)) ⟨[.sl 0 0 0 len len, .int .i64 (i : Nat), .int .i64 ((k : Int) - 1)], [[.bool na, eD a'], [.bool nb, eR B], c2, c3, [.bool false, eR r]]⟩ H 0 ⟨[.sl 0 0 0 len len, .int .i64 (i : Nat)], [[.bool na, eD a'], [.bool nb, eR B], c2, c3, [.bool false, eR r']]⟩ H' ∧
        H'[0]? = some (.row 0 1 64 ((q.set i (UInt32.ofNat Q')).map eu)) ∧ r' < B ∧ Q' < 4294967296 ∧ Q' * B + r' = 2 ^ k * (Q * B + r) + x.toNat % 2 ^ k := by
  intro k
  induction k with
  | zero =>
    intro _ H q r Q hq hr hQ hqi hH
    refine ⟨H, r, Q, LDoes.step (Evs.of fun n m => ?_), ?_, hr, by simpa using hQ, by simp [Nat.mod_one]⟩
    · simp [↓test_bool, ↓withV_of, L26_1_step]
    · have : UInt32.ofNat Q = q[i] := by rw [hqi]; simp
      rw [this, List.set_getElem_self]
      exact hH
  | succ k ih =>
    intro hk H q r Q hq hr hQ hqi hH
    have fr : few (nz (lim r)) := few_lim (Nat.lt_trans hr hBn) (by omega)
    obtain ⟨id, ver, H1, hplus, p0, p1, p2⟩ := kPlusR fr fr hH
    have hM : plusM (nz (lim r)) (nz (lim r)) = (lim r).length := by unfold plusM; rw [nz_get]; omega
    have hN : plusN (nz (lim r)) (nz (lim r)) = 2 * r := by unfold plusN; rw [nz_get, val_lim]; omega
    rw [hM, hN] at p1
    rw [hM] at hplus
    have hdl := double_len (Nat.lt_trans hr hBn)
    obtain ⟨x0, L, hdig, y, hx0, hy, hv1⟩ := double_one r
    have hdv := double_val r
    generalize hd : digs ((lim r).length + 1) (2 * r) = D at *
    have hDl : D.length = (lim r).length + 1 := by rw [← hd, digs_length]
    generalize hnl : (lim r).length + 1 = nl at *
    have hxs := x.toNat_lt
    have hbit : x.toNat / 2 ^ k % 2 = 0 ∨ x.toNat / 2 ^ k % 2 = 1 := by omega
    have hmod : x.toNat % 2 ^ (k + 1) = x.toNat % 2 ^ k + 2 ^ k * (x.toNat / 2 ^ k % 2) := Nat.mod_pow_succ
    have hp31 : 2 ^ k * 2 ^ (31 - k) = 2147483648 := by rw [← Nat.pow_add, show k + (31 - k) = 31 by omega]
    have hp32 : (2 : Nat) ^ (32 - k) = 2 * 2 ^ (31 - k) := by rw [show 32 - k = (31 - k) + 1 by omega, Nat.pow_succ, Nat.mul_comm]
    have hQ' : Q < 2 ^ (31 - k) := by rw [show 31 - k = 32 - (k + 1) by omega]; exact hQ
    have hpk : 2 ^ (k + 1) = 2 * 2 ^ k := by rw [Nat.pow_succ, Nat.mul_comm]
    have fin : ∀ (Hn : Heap) (r2 Q2 bit : Nat), x.toNat / 2 ^ k % 2 = bit → Hn[0]? = some (.row 0 1 64 ((q.set i (UInt32.ofNat (2 ^ k * Q2))).map eu)) → r2 < B → Q2 < 2 ^ (32 - k) → Q2 * B + r2 = 2 * (Q * B + r) + bit →
        ∃ H' r' Q', LDoes (L26_1 (polT TLong)) ⟨[.sl 0 0 0 len len, .int .i64 (i : Nat), .int .i64 ((k : Int) - 1)], [[.bool na, eD a'], [.bool nb, eR B], c2, c3, [.bool false, eR r2]]⟩ Hn 0 ⟨[.sl 0 0 0 len len, .int .i64 (i : Nat)], [[.bool na, eD a'], [.bool nb, eR B], c2, c3, [.bool false, eR r']]⟩ H' ∧
          H'[0]? = some (.row 0 1 64 ((q.set i (UInt32.ofNat Q')).map eu)) ∧ r' < B ∧ Q' < 4294967296 ∧ Q' * B + r' = 2 ^ (k + 1) * (Q * B + r) + x.toNat % 2 ^ (k + 1) := fun Hn r2 Q2 bit hb h1 h2 h3 h4 => by
      obtain ⟨H', r', Q', g1, g2, g3, g4, g5⟩ := ih (by omega) Hn (q.set i (UInt32.ofNat (2 ^ k * Q2))) r2 Q2 (by simpa using hq) h2 h3 (by simp) h1
      refine ⟨H', r', Q', g1, ?_, g3, g4, ?_⟩
      · rw [List.set_set] at g2
        exact g2
      · rw [g5, h4, hmod, hb, hpk, Nat.mul_add, ← Nat.mul_assoc, Nat.mul_comm (2 ^ k) 2]
        omega
    have ek : ((k + 1 : Nat) : Int) - 1 = (k : Int) := by omega
    rw [ek]
    have i1 : ∀ H : Heap, A.idx 1 (eD a') (.int .i64 (i : Int)) H = some (.rop [eu x]) := fun H => by rw [← hx]; exact idx_eD hi
    have i2 : Go.Den.convert base 3 65 (.int .i64 (k : Int)) = some (.int .u64 (k : Int)) := by rw [cv_3_65, wrap_u64 (by omega) (by omega)]
    have i3 : ∀ H : Heap, A.bin base.P .shr 64 (eu x) (.int .u64 (k : Int)) false H = some (.int .u32 ((x.toNat / 2 ^ k : Nat) : Int)) := fun H => shr_u32 (by omega)
    have i4 : ∀ H : Heap, A.bin base.P .and 64 (.int .u32 ((x.toNat / 2 ^ k : Nat) : Int)) (.int .u32 1) true H = some (.int .u32 ((x.toNat / 2 ^ k % 2 : Nat) : Int)) := fun H => and_one (by have := Nat.div_le_self x.toNat (2 ^ k); omega)
    have i5 : ∀ H : Heap, A.bin base.P .shl 64 (.int .u32 1) (.int .u64 (k : Int)) false H = some (.int .u32 ((2 ^ k : Nat) : Int)) := fun H => by
      have hk31 : 2 ^ k ≤ 2147483648 := pow_small (by omega)
      have := shl_u32 (P := base.P) (t := 64) (c := false) (H := H) (a := 1) (s := k) (j := .u64) (by omega) (by omega)
      rw [Nat.mul_one] at this
      exact this
    have i6 : IntKind.wrap .i64 ((k : Int) - 1) = (k : Int) - 1 := wrap_i64 (by omega) (by omega)
    have i7 : ∀ (H : Heap) (k : AV → Heap → Option (Nat × Live × Heap)), polK pPlusR [eR r, eR r] H k = polK pPlusR [eR r, eR r] H k := fun _ _ => rfl
    have hqn : q[i] = UInt32.ofNat (2 ^ (k + 1) * Q) := hqi
    have hqt : (q[i]).toNat = 2 ^ (k + 1) * Q := by
      rw [hqi]
      have : 2 ^ (k + 1) * Q < 4294967296 := by
        rw [hpk]
        have : 2 ^ k * Q < 2 ^ k * 2 ^ (31 - k) := Nat.mul_lt_mul_of_pos_left hQ' (Nat.pow_pos (by omega))
        rw [Nat.mul_assoc]
        omega
      simp
      omega
    have hBn1 : 2 * r + 1 < 4294967296 ^ (n + 1) := by rw [Nat.pow_succ]; omega
    have hmg : ∀ r1 : Nat, r1 < 4294967296 ^ (n + 1) → ∀ (H : Heap) (k : AV → Heap → Option (Nat × Live × Heap)), polK pMags [eR r1, eR B] H k = k (.int .i64 (cmpN r1 B)) H := fun r1 h1 H k => by
      rw [kMags (few_lim h1 (by omega)) (few_lim hBn (by omega)), sizeS_lim (nz_get _) (nz_get _)]
    generalize x.toNat / 2 ^ k = xk at *
    rcases hbit with hbit | hbit
    · obtain ⟨H4, hnorm, h4⟩ := kNormR (n := nl) p0 p1 p2 hDl.symm (by omega)
      rw [hdv] at hnorm
      have hr1n : 2 * r + 0 < 4294967296 ^ (n + 1) := by omega
      have hm := hmg (2 * r + 0) hr1n
      replace i4 : ∀ H : Heap, A.bin base.P .and 64 (.int .u32 (xk : Int)) (.int .u32 1) true H = some (.int .u32 0) := fun H => by rw [i4 H, hbit]; rfl
      replace hnorm : ∀ {R : Type} {k : AV → Heap → Option R}, polK pRnorm [.agg [.bool false, .sl id ver 0 nl nl]] H1 k = k (.agg [.bool false, eR (2 * r + 0)]) H4 := hnorm
      by_cases hle : B ≤ 2 * r + 0
      · have hc : (0 : Int) ≤ cmpN (2 * r + 0) B := by unfold cmpN cmpI; split <;> (try split) <;> omega
        obtain ⟨t1, t2, t4⟩ := lrow (k := .i64) (i := (i : Int)) (n := len) h4 hq.symm (by omega) rfl
        have t3 : ∀ H : Heap, A.bin base.P .or 64 (eu q[i]) (.int .u32 ((2 ^ k : Nat) : Int)) false H = some (eu (UInt32.ofNat (2 ^ k * (2 * Q + 1)))) := fun H => by
          have hlt : 2 ^ k + 2 ^ (k + 1) * Q < 4294967296 := by
            rw [hpk, Nat.mul_assoc]
            have : 2 ^ k * (Q + 1) ≤ 2 ^ k * 2 ^ (31 - k) := Nat.mul_le_mul_left _ hQ'
            rw [Nat.mul_add] at this
            omega
          have := or_hi (P := base.P) (t := 64) (c := false) (H := H) (x := 2 ^ k) (y := Q) (s := k + 1) (by rw [hpk]; have : 0 < 2 ^ k := Nat.pow_pos (by omega); omega) hlt
          rw [← hqt] at this
          rw [this, hqt]
          have e : 2 ^ k + 2 ^ (k + 1) * Q = 2 ^ k * (2 * Q + 1) := by rw [hpk, Nat.mul_add, ← Nat.mul_assoc, Nat.mul_comm (2 ^ k) 2]; omega
          rw [e] at hlt ⊢
          show _ = some (AV.int .u32 ((UInt32.ofNat (2 ^ k * (2 * Q + 1))).toNat : Int))
          rw [show (UInt32.ofNat (2 ^ k * (2 * Q + 1))).toNat = 2 ^ k * (2 * Q + 1) by simp; omega]
        have t4 := t4 (UInt32.ofNat (2 ^ k * (2 * Q + 1)))
        obtain ⟨H', r', Q', hL, g⟩ := fin (H4.set 0 (.row 0 1 64 ((q.set i (UInt32.ofNat (2 ^ k * (2 * Q + 1)))).map eu))) (2 * r + 0 - B) (2 * Q + 1) 0 hbit (by
          rw [List.getElem?_set_self (List.getElem?_eq_some_iff.1 h4).1]) (by omega) (by omega) (by
          rw [Nat.add_mul, Nat.mul_assoc, Nat.mul_add]
          omega)
        have f1 : few (nz (lim (2 * r + 0))) := few_lim hr1n (by omega)
        have f2 : few (nz (lim B)) := few_lim hBn (by omega)
        have hv : val ((nz (lim B)).getD []) ≤ val ((nz (lim (2 * r + 0))).getD []) := by rw [nz_get, nz_get, val_lim, val_lim]; exact hle
        have f3 : few (rminusS (nz (lim (2 * r + 0))) (nz (lim B))) := by
          unfold few
          rw [rminus_len]
          exact f1
        have e : rnormS (false, rminusS (nz (lim (2 * r + 0))) (nz (lim B))) = (false, nz (lim (2 * r + 0 - B))) := by
          unfold rnormS
          rw [rminus_val, nz_get, nz_get, val_lim, val_lim]
          rfl
        have hmin : ∀ (H : Heap) (k : AV → Heap → Option (Nat × Live × Heap)), polK pRminus [eR (2 * r + 0), eR B] H k = k (eD (rminusS (nz (lim (2 * r + 0))) (nz (lim B)))) H := fun H k => kRminus f1 f2 hv
        have hnr : ∀ (H : Heap) (k : AV → Heap → Option (Nat × Live × Heap)), polK pRnorm [.agg [.bool false, eD (rminusS (nz (lim (2 * r + 0))) (nz (lim B)))]] H k = k (.agg [.bool false, eR (2 * r + 0 - B)]) H := fun H k => by
          have := kRnorm (a := (false, rminusS (nz (lim (2 * r + 0))) (nz (lim B)))) f3 (H := H) (k := k)
          rw [e] at this
          exact this
        generalize UInt32.ofNat (2 ^ k * (2 * Q + 1)) = dq at *
        generalize 2 ^ k = pk at i5 t3
        generalize rminusS (nz (lim (2 * r + 0))) (nz (lim B)) = w at *
        generalize 2 * r + 0 = r1 at *
        refine ⟨H', r', Q', LDoes.step (Evs.withL hL (Evs.of fun n m _ h2 => ?_)), g⟩
        simp [-List.map_set, ↓test_bool, ↓bindV_eq, ↓bindC_eq, ↓withV_of, ↓withH_some, ↓bindX_some, ↓chkD_true, L26_1_step, A.fill, A.fits, A.splice, A.ofList, i1, i2, i3, i4, i6, hplus, hnorm, hm, hc, hmin, hnr, t1, t2, i5, t3, t4, h2]
      · have hc : ¬ (0 : Int) ≤ cmpN (2 * r + 0) B := by unfold cmpN cmpI; split <;> (try split) <;> omega
        obtain ⟨H', r', Q', hL, g⟩ := fin H4 (2 * r + 0) (2 * Q) 0 hbit (by
          have : UInt32.ofNat (2 ^ k * (2 * Q)) = q[i] := by rw [hqi, hpk, ← Nat.mul_assoc, Nat.mul_comm (2 ^ k) 2]
          rw [this, List.set_getElem_self]
          exact h4) (by omega) (by omega) (by rw [Nat.mul_add, Nat.mul_assoc]; omega)
        generalize 2 * r + 0 = r1 at *
        refine ⟨H', r', Q', LDoes.step (Evs.withL hL (Evs.of fun n m _ h2 => ?_)), g⟩
        simp [-List.map_set, ↓test_bool, ↓bindV_eq, ↓bindC_eq, ↓withV_of, ↓bindX_some, ↓chkD_true, L26_1_step, A.fill, A.fits, A.splice, A.ofList, i1, i2, i3, i4, i6, hplus, hnorm, hm, hc, h2]
    · have hD : D = x0 :: L := hdig
      obtain ⟨s1, s2, s3⟩ := lrow (k := .i64) (i := 0) (n := nl) p1 hDl.symm (j := 0) (by omega) rfl
      have hD0 : D[0]'(by omega) = x0 := by simp [hD]
      rw [hD0] at s2
      have s4 : ∀ H : Heap, A.bin base.P .or 64 (eu x0) (.int .u32 1) true H = some (eu (UInt32.ofNat (1 + 2 ^ 1 * y))) := fun H => by
        have := or_hi (P := base.P) (t := 64) (c := true) (H := H) (x := 1) (y := y) (s := 1) (by omega) hy
        rw [← hx0] at this
        rw [show ((1 : Nat) : Int) = 1 from rfl] at this
        rw [this, hx0]
        show _ = some (AV.int .u32 ((UInt32.ofNat (1 + 2 ^ 1 * y)).toNat : Int))
        rw [show (UInt32.ofNat (1 + 2 ^ 1 * y)).toNat = 1 + 2 ^ 1 * y by simp; omega]
      have s3 := s3 (UInt32.ofNat (1 + 2 ^ 1 * y))
      have p0' : (H1.set id (.row ver 1 64 ((D.set 0 (UInt32.ofNat (1 + 2 ^ 1 * y))).map eu)))[0]? = some (.row 0 1 64 (q.map eu)) := by
        rw [List.getElem?_set_ne p2]
        exact p0
      have p1' : (H1.set id (.row ver 1 64 ((D.set 0 (UInt32.ofNat (1 + 2 ^ 1 * y))).map eu)))[id]? = some (.row ver 1 64 ((D.set 0 (UInt32.ofNat (1 + 2 ^ 1 * y))).map eu)) := by
        rw [List.getElem?_set_self (List.getElem?_eq_some_iff.1 p1).1]
      obtain ⟨H4, hnorm, h4⟩ := kNormR (n := nl) p0' p1' p2 (by simpa using hDl.symm) (by simp; omega)
      have hv' : val (D.set 0 (UInt32.ofNat (1 + 2 ^ 1 * y))) = 2 * r + 1 := by rw [hD, List.set_cons_zero, hv1]
      rw [hv'] at hnorm
      have hr1n := hBn1
      have hm := hmg (2 * r + 1) hr1n
      replace i4 : ∀ H : Heap, A.bin base.P .and 64 (.int .u32 (xk : Int)) (.int .u32 1) true H = some (.int .u32 1) := fun H => by rw [i4 H, hbit]; rfl
      generalize UInt32.ofNat (1 + 2 ^ 1 * y) = x1 at *
      by_cases hle : B ≤ 2 * r + 1
      · have hc : (0 : Int) ≤ cmpN (2 * r + 1) B := by unfold cmpN cmpI; split <;> (try split) <;> omega
        obtain ⟨t1, t2, t4⟩ := lrow (k := .i64) (i := (i : Int)) (n := len) h4 hq.symm (by omega) rfl
        have t3 : ∀ H : Heap, A.bin base.P .or 64 (eu q[i]) (.int .u32 ((2 ^ k : Nat) : Int)) false H = some (eu (UInt32.ofNat (2 ^ k * (2 * Q + 1)))) := fun H => by
          have hlt : 2 ^ k + 2 ^ (k + 1) * Q < 4294967296 := by
            rw [hpk, Nat.mul_assoc]
            have : 2 ^ k * (Q + 1) ≤ 2 ^ k * 2 ^ (31 - k) := Nat.mul_le_mul_left _ hQ'
            rw [Nat.mul_add] at this
            omega
          have := or_hi (P := base.P) (t := 64) (c := false) (H := H) (x := 2 ^ k) (y := Q) (s := k + 1) (by rw [hpk]; have : 0 < 2 ^ k := Nat.pow_pos (by omega); omega) hlt
          rw [← hqt] at this
          rw [this, hqt]
          have e : 2 ^ k + 2 ^ (k + 1) * Q = 2 ^ k * (2 * Q + 1) := by rw [hpk, Nat.mul_add, ← Nat.mul_assoc, Nat.mul_comm (2 ^ k) 2]; omega
          rw [e] at hlt ⊢
          show _ = some (AV.int .u32 ((UInt32.ofNat (2 ^ k * (2 * Q + 1))).toNat : Int))
          rw [show (UInt32.ofNat (2 ^ k * (2 * Q + 1))).toNat = 2 ^ k * (2 * Q + 1) by simp; omega]
        have t4 := t4 (UInt32.ofNat (2 ^ k * (2 * Q + 1)))
        obtain ⟨H', r', Q', hL, g⟩ := fin (H4.set 0 (.row 0 1 64 ((q.set i (UInt32.ofNat (2 ^ k * (2 * Q + 1)))).map eu))) (2 * r + 1 - B) (2 * Q + 1) 1 hbit (by
          rw [List.getElem?_set_self (List.getElem?_eq_some_iff.1 h4).1]) (by omega) (by omega) (by
          rw [Nat.add_mul, Nat.mul_assoc, Nat.mul_add]
          omega)
        have f1 : few (nz (lim (2 * r + 1))) := few_lim hr1n (by omega)
        have f2 : few (nz (lim B)) := few_lim hBn (by omega)
        have hv : val ((nz (lim B)).getD []) ≤ val ((nz (lim (2 * r + 1))).getD []) := by rw [nz_get, nz_get, val_lim, val_lim]; exact hle
        have f3 : few (rminusS (nz (lim (2 * r + 1))) (nz (lim B))) := by
          unfold few
          rw [rminus_len]
          exact f1
        have e : rnormS (false, rminusS (nz (lim (2 * r + 1))) (nz (lim B))) = (false, nz (lim (2 * r + 1 - B))) := by
          unfold rnormS
          rw [rminus_val, nz_get, nz_get, val_lim, val_lim]
          rfl
        have hmin : ∀ (H : Heap) (k : AV → Heap → Option (Nat × Live × Heap)), polK pRminus [eR (2 * r + 1), eR B] H k = k (eD (rminusS (nz (lim (2 * r + 1))) (nz (lim B)))) H := fun H k => kRminus f1 f2 hv
        have hnr : ∀ (H : Heap) (k : AV → Heap → Option (Nat × Live × Heap)), polK pRnorm [.agg [.bool false, eD (rminusS (nz (lim (2 * r + 1))) (nz (lim B)))]] H k = k (.agg [.bool false, eR (2 * r + 1 - B)]) H := fun H k => by
          have := kRnorm (a := (false, rminusS (nz (lim (2 * r + 1))) (nz (lim B)))) f3 (H := H) (k := k)
          rw [e] at this
          exact this
        generalize UInt32.ofNat (2 ^ k * (2 * Q + 1)) = dq at *
        generalize 2 ^ k = pk at i5 t3
        generalize rminusS (nz (lim (2 * r + 1))) (nz (lim B)) = w at *
        generalize 2 * r + 1 = r1 at *
        refine ⟨H', r', Q', LDoes.step (Evs.withL hL (Evs.of fun n m _ h2 => ?_)), g⟩
        simp [-List.map_set, ↓test_bool, ↓bindV_eq, ↓bindC_eq, ↓withV_of, ↓withH_some, ↓bindX_some, ↓chkD_true, L26_1_step, A.fill, A.fits, A.splice, A.ofList, i1, i2, i3, i4, i6, hplus, s1, s2, s3, s4, hnorm, hm, hc, hmin, hnr, t1, t2, i5, t3, t4, h2]
      · have hc : ¬ (0 : Int) ≤ cmpN (2 * r + 1) B := by unfold cmpN cmpI; split <;> (try split) <;> omega
        obtain ⟨H', r', Q', hL, g⟩ := fin H4 (2 * r + 1) (2 * Q) 1 hbit (by
          have : UInt32.ofNat (2 ^ k * (2 * Q)) = q[i] := by rw [hqi, hpk, ← Nat.mul_assoc, Nat.mul_comm (2 ^ k) 2]
          rw [this, List.set_getElem_self]
          exact h4) (by omega) (by omega) (by rw [Nat.mul_add, Nat.mul_assoc]; omega)
        generalize 2 * r + 1 = r1 at *
        refine ⟨H', r', Q', LDoes.step (Evs.withL hL (Evs.of fun n m _ h2 => ?_)), g⟩
        simp [-List.map_set, ↓test_bool, ↓bindV_eq, ↓bindC_eq, ↓withV_of, ↓withH_some, ↓bindX_some, ↓chkD_true, L26_1_step, A.fill, A.fits, A.splice, A.ofList, i1, i2, i3, i4, i6, hplus, s1, s2, s3, s4, hnorm, hm, hc, h2]
end Go.Proofs.YtikkpecdkdgmfaaDoor

/- Numbers of any size: the reference's long division: all limbs. -/
set_option maxRecDepth 100000
set_option maxHeartbeats 4000000
namespace Go.Proofs.YtikkpecdkdgmfaaDoor
open Go Go.Den
theorem div_limbs {na nb : Bool} {a' : Option (List UInt32)} {B n : Nat} (hB : 0 < B) (hBn : B < 4294967296 ^ n) (hn : n ≤ 1000) {len : Nat} (hl : (a'.getD []).length = len) (hl2 : len ≤ 1000000) {c2 c3 : List AV} :
    ∀ (i : Nat), i ≤ len → ∀ (H : Heap) (q : List UInt32) (r : Nat), q.length = len → r < B → (∀ j (hj : j < q.length), j < i → q[j] = 0) → H[0]? = some (.row 0 1 64 (q.map eu)) →
      ∃ H' r' q', LDoes (L26_0 (polT TLong)) ⟨[.sl 0 0 0 len len, .int .i64 ((i : Int) - 1)], [[.bool na, eD a'], [.bool nb, eR B], c2, c3, [.bool false, eR r]]⟩ H 0 ⟨[.sl 0 0 0 len len], [[.bool na, eD a'], [.bool nb, eR B], c2, c3, [.bool false, eR r']]⟩ H' ∧
        H'[0]? = some (.row 0 1 64 (q'.map eu)) ∧ q'.length = len ∧ r' < B ∧ val q' * B + r' = val q * B + 4294967296 ^ i * r + val ((a'.getD []).take i) := by
  intro i
  induction i with
  | zero =>
    intro _ H q r hq hr hz hH
    refine ⟨H, r, q, LDoes.step (Evs.of fun n m => ?_), hH, hq, hr, by simp [val]⟩
    simp [↓test_bool, ↓withV_of, L26_0_step]
  | succ i ih =>
    intro hi H q r hq hr hz hH
    have hia : i < (a'.getD []).length := by omega
    obtain ⟨H1, r1, Q1, hL1, g1, g2, g3, g4⟩ := div_bits (na := na) (nb := nb) (a' := a') hB hBn hn (i := i) (len := len) (x := (a'.getD [])[i]) hia rfl (by omega) (c2 := c2) (c3 := c3) 32 (Nat.le_refl _) H q r 0 hq hr (by omega) (by rw [hz i (by omega) (by omega)]; rfl) hH
    obtain ⟨H', r', q', hL2, k1, k2, k3, k4⟩ := ih (by omega) H1 (q.set i (UInt32.ofNat Q1)) r1 (by simpa using hq) g2 (fun j hj hji => by
      rw [List.getElem_set_ne (by omega)]
      exact hz j (by simpa using hj) (by omega)) g1
    refine ⟨H', r', q', LDoes.step (Evs.withL hL1 (Evs.withL hL2 (Evs.of fun n m _ h2 h1 _ => ?_))), k1, k2, k3, ?_⟩
    · have e31 : ((32 : Nat) : Int) - 1 = 31 := rfl
      have ei : ((i + 1 : Nat) : Int) - 1 = (i : Int) := by omega
      rw [e31] at h1
      rw [ei]
      have i6 : IntKind.wrap .i64 ((i : Int) - 1) = (i : Int) - 1 := wrap_i64 (by omega) (by omega)
      simp [↓test_bool, ↓bindV_eq, ↓bindC_eq, ↓withV_of, ↓bindX_some, L26_0_step, h1, i6, h2]
    · rw [k4, val_take_succ hia]
      have hs := val_set (l := q) (i := i) (by omega) (UInt32.ofNat Q1)
      rw [hz i (by omega) (by omega)] at hs
      have hQ1 : (UInt32.ofNat Q1).toNat = Q1 := by simp; omega
      rw [hQ1] at hs
      simp only [UInt32.toNat_zero, Nat.mul_zero, Nat.add_zero] at hs
      have hx := (a'.getD [])[i].toNat_lt
      have g4' : Q1 * B + r1 = 4294967296 * r + ((a'.getD [])[i]).toNat := by
        rw [g4, Nat.zero_mul, Nat.zero_add, Nat.mod_eq_of_lt (by omega)]
      rw [hs, Nat.add_mul, Nat.pow_succ]
      generalize val q * B = u at *
      generalize val ((a'.getD []).take i) = v at *
      generalize 4294967296 ^ i = W at *
      generalize ((a'.getD [])[i]).toNat = x at *
      have : W * Q1 * B + W * r1 = W * 4294967296 * r + W * x := by
        rw [Nat.mul_assoc W Q1 B, ← Nat.mul_add, g4', Nat.mul_add, Nat.mul_assoc]
      omega
theorem kNormZ {l : List UInt32} {H : Heap} {id ver n : Nat} {s : Bool} (hid : H[id]? = some (.row ver 1 64 (l.map eu))) (hn : n = l.length) (hf : l.length ≤ 1000000) :
    ∃ H' : Heap, ∀ {R : Type} {k : AV → Heap → Option R}, polK pRnorm [.agg [.bool s, .sl id ver 0 n n]] H k = k (eN (rnormS (s, some l))) H' := by
  have hz : freezeAll H [.agg [.bool s, .sl id ver 0 n n]] = some [.agg [.bool s, eD (some l)]] := freezeAll_cons (frz_num hid hn) rfl
  have hr : ([AV.agg [.bool s, .sl id ver 0 n n]].flatMap (reach 64 H)) = [id] := by
    rw [List.flatMap_cons, show (64 : Nat) = 62 + 1 + 1 from rfl, reach_agg, List.flatMap_cons, List.flatMap_cons, reach_row hid]
    rfl
  refine ⟨bif (eN (rnormS (s, some l))).flat then H else kill [id] H, fun {R k} => ?_⟩
  unfold pRnorm
  rw [polK_frz hz, hr]
  have hf' : few (some l) := hf
  simp [hf', rnormS]
def rdivS (a b : Nm) : Nm × Nm × Bool :=
  if mag b = 0 then ((false, none), (false, none), false) else
  (rnormS ((rnormS a).1 != (rnormS b).1, nz (lim (mag a / mag b))), rnormS ((rnormS a).1, nz (lim (mag a % mag b))), true)
theorem rnorm_of_val {p : Bool} {d e : Option (List UInt32)} (h : val (d.getD []) = val (e.getD [])) : rnormS (p, d) = rnormS (p, e) := by
  unfold rnormS
  simp only [h]
noncomputable def pRdiv : Pol := .still (p2 cN cN eDiv (fun a b => (a.2.getD []).length ≤ 1000 ∧ (b.2.getD []).length ≤ 1000) rdivS)
theorem okRdiv : PolOK base 26 pRdiv := still2 base_ok TLong okTLong fun a b ⟨la, lb⟩ => by
  have fa : few a.2 := by unfold few; omega
  have fb : few b.2 := by unfold few; omega
  have hA : (rnormS a).2 = nz (lim (mag a)) := rfl
  have hBe : (rnormS b).2 = nz (lim (mag b)) := rfl
  have hLa : (lim (mag a)).length ≤ 1000 := Nat.le_trans (lim_len_le _) la
  have hLb : (lim (mag b)).length ≤ 1000 := Nat.le_trans (lim_len_le _) lb
  have qa : ∀ (H : Heap) (k : AV → Heap → Option AV), polQ pRnorm [eN a] H k = k (eN (rnormS a)) H := fun H k => qRnorm fa
  have qb : ∀ (H : Heap) (k : AV → Heap → Option AV), polQ pRnorm [eN b] H k = k (eN (rnormS b)) H := fun H k => qRnorm fb
  obtain ⟨p, hp⟩ : ∃ p, ((rnormS a).1 != (rnormS b).1) = p := ⟨_, rfl⟩
  have hbin : ∀ H, A.bin base.P .neq 4 (.bool (rnormS a).1) (.bool (rnormS b).1) false H = some (.bool p) := fun H => by rw [A.bin_bne ty_bool, ← hp]; rfl
  by_cases hB : mag b = 0
  · have : rdivS a b = ((false, none), (false, none), false) := by unfold rdivS; rw [if_pos hB]
    rw [this]
    refine Evs.of fun n m => ?_
    have hb0 : (rnormS b).2 = none := by rw [hBe, hB, lim_zero]; rfl
    generalize rnormS a = a1 at *
    generalize rnormS b = b1 at *
    obtain ⟨b1, d1⟩ := b1
    obtain ⟨a1, e1⟩ := a1
    dsimp only at hb0
    subst hb0
    simp [↓test_bool, ↓bindV_eq, ↓bindC_eq, ↓withV_of, ↓chkD_true, S26, qa, qb, A.ofList, A.fill, A.fits, A.splice]
    exact frz_nnb (d := none) (e := none)
  · have hpos : 0 < mag b := by omega
    have hBn : mag b < 4294967296 ^ 1000 := by
      have := lim_le.1 hLb
      exact this
    obtain ⟨H', r', q', hL, k1, k2, k3, k4⟩ := div_limbs (na := (rnormS a).1) (nb := (rnormS b).1) (a' := nz (lim (mag a))) hpos hBn (Nat.le_refl _) (len := (lim (mag a)).length) (by rw [nz_get]) (by omega) (c2 := [.bool false, .nils]) (c3 := [.bool false, .nils]) (lim (mag a)).length (Nat.le_refl _) [.row 0 1 64 ((List.replicate (lim (mag a)).length (0 : UInt32)).map eu)] (List.replicate (lim (mag a)).length 0) 0 (by simp) hpos (fun j hj _ => by simp) rfl
    have hz : val (List.replicate (lim (mag a)).length (0 : UInt32)) = 0 := by
      generalize (lim (mag a)).length = t
      induction t with
      | zero => rfl
      | succ t ih => rw [List.replicate_succ, val, ih]; rfl
    rw [hz, nz_get, List.take_of_length_le (Nat.le_refl _), val_lim] at k4
    have hdiv : val q' = mag a / mag b ∧ r' = mag a % mag b := by
      have h1 : mag a = r' + mag b * val q' := by rw [Nat.mul_comm (mag b)]; omega
      rw [h1]
      exact ⟨by rw [Nat.add_mul_div_left _ _ hpos, Nat.div_eq_of_lt k3, Nat.zero_add], by rw [Nat.add_mul_mod_self_left, Nat.mod_eq_of_lt k3]⟩
    obtain ⟨H2, hnq⟩ := kNormZ (n := (lim (mag a)).length) (s := p) k1 k2.symm (by omega)
    have fr : few (nz (lim r')) := few_lim (Nat.lt_trans k3 hBn) (by omega)
    have qr : ∀ (H : Heap) (k : AV → Heap → Option AV), polQ pRnorm [eN ((rnormS a).1, nz (lim r'))] H k = k (eN (rnormS ((rnormS a).1, nz (lim r')))) H := fun H k => qRnorm fr
    have hres : rdivS a b = (rnormS (p, some q'), rnormS ((rnormS a).1, nz (lim r')), true) := by
      unfold rdivS
      rw [if_neg hB, hp, hdiv.2, rnorm_of_val (d := some q') (e := nz (lim (mag a / mag b))) (by rw [nz_get, val_lim]; exact hdiv.1)]
    rw [hres]
    refine Evs.withL hL (Evs.of fun n m h1 _ => ?_)
    have hmk : A.makeSlice 1 4 64 (.int .u32 0) (.int .i64 ((lim (mag a)).length : Int)) (.int .i64 ((lim (mag a)).length : Int)) [] = some (.sl 0 0 0 (lim (mag a)).length (lim (mag a)).length, [.row 0 1 64 (List.replicate (lim (mag a)).length (.int .u32 0))]) := row_make (H := []) (by omega) (by omega) (by omega)
    have hmap : (List.replicate (lim (mag a)).length (0 : UInt32)).map eu = List.replicate (lim (mag a)).length (.int .u32 0) := by simp
    rw [hmap] at h1
    have hbl : ¬ ((lim (mag b)).length : Int) = 0 := by
      have : lim (mag b) ≠ [] := fun e => hB (lim_nil.1 e)
      have := List.length_pos_iff.2 this
      omega
    have hbn : lim (mag b) ≠ [] := fun e => hB (lim_nil.1 e)
    have hw : IntKind.wrap .i64 (((lim (mag a)).length : Int) - 1) = ((lim (mag a)).length : Int) - 1 := wrap_i64 (by omega) (by omega)
    have e0 : eR 0 = AV.nils := by show eD (nz (lim 0)) = _; rw [lim_zero]; rfl
    rw [e0] at h1
    unfold eR at h1
    have hga : (nz (lim (mag a))).getD [] = lim (mag a) := nz_get _
    have hgb : (nz (lim (mag b))).getD [] = lim (mag b) := nz_get _
    generalize rnormS (p, some q') = M at *
    generalize rnormS ((rnormS a).1, nz (lim r')) = N at *
    have ea : rnormS a = ((rnormS a).1, nz (lim (mag a))) := rfl
    have eb : rnormS b = ((rnormS b).1, nz (lim (mag b))) := rfl
    rw [ea] at qa
    rw [eb] at qb
    generalize (rnormS a).1 = sa at *
    generalize (rnormS b).1 = sb at *
    generalize nz (lim (mag a)) = A' at *
    generalize nz (lim (mag b)) = B' at *
    generalize lim (mag a) = LA at *
    generalize lim (mag b) = LB at *
    generalize nz (lim r') = R' at *
    obtain ⟨M1, M2⟩ := M
    obtain ⟨N1, N2⟩ := N
    simp [↓test_bool, ↓bindV_eq, ↓bindC_eq, ↓withV_of, ↓withVH_some, ↓bindX_some, ↓chkD_true, S26, qa, qb, A.ofList, A.fill, A.fits, A.splice, hga, hgb, hbn, hmk, hw, h1, hbin, hnq, qr]
end Go.Proofs.YtikkpecdkdgmfaaDoor

/- The seat's first question: by computation. -/
set_option maxRecDepth 100000
namespace Go.Proofs.YtikkpecdkdgmfaaDoor.awake
open Go Go.Den
def reached : List FuncId := [9, 13, 16, 19, 20, 34, 36, 37, 38, 39, 40, 41, 53, 54, 55, 56, 57, 58, 59, 60, 61, 71, 72, 73, 74, 75, 76, 77, 78, 79, 82, 83, 84, 85, 88, 89, 90, 92]
noncomputable def env0 : Env := { P := Tryd.prog, pol := fun f => bif Nat.beq f 86 then .prim sameF else bif Nat.beq f 87 then .prim (noZeroF 5) else bif Nat.beq f 93 then .prim indexByteF else .plain, ann := fun _ => {}, glob := fun g => bif Nat.beq g 0 then flatD (H := Unit) Rows.laid_unicode_utf8_first else bif Nat.beq g 1 then flatD (H := Unit) Rows.laid_unicode_utf8_acceptRanges else none }
def siteTable : List (Nat × List (Nat × Nat × Nat)) := []
def sitesIn : List (Nat × List (Nat × Nat × Nat)) → Nat → List (Nat × Nat × Nat)
  | [], _ => []
  | (g, l) :: r, f => bif Nat.beq g f then l else sitesIn r f
noncomputable def tab (f : FuncId) : FAnn :=
  match Tryd.prog.funcs[f]? with
  | some fn => { depth := Nat.log2 fn.ntmps + 1, sites := sitesIn siteTable f, draws := mkDraws env0 (sitesIn siteTable f) fn }
  | none => {}
noncomputable def env : Env := { env0 with ann := fun f => if f ∈ reached then tab f else {} }
theorem env_ok : EnvOK env := envOK reached (by kernel_rfl) (fun f hf => by show (if f ∈ reached then tab f else {}).draws = []; rw [if_neg hf]) (by kernel_rfl)
theorem prims_ok : ∀ f, env.pol f = .plain ∨ ∃ F, env.pol f = .prim F ∧ PrimOK env f F := fun f => by
  cases h86 : Nat.beq f 86
  case true =>
    obtain rfl := Nat.eq_of_beq_eq_true h86
    exact .inr ⟨sameF, rfl, same_prim (fn := Tryd.f86) Tryd.func86 (by kernel_rfl) (by kernel_rfl) (by kernel_rfl) (by kernel_rfl)⟩
  case false =>
    cases h87 : Nat.beq f 87
    case true =>
      obtain rfl := Nat.eq_of_beq_eq_true h87
      exact .inr ⟨(noZeroF 5), rfl, noZero_prim (t := 83) (ps := #[3]) (ht := by kernel_rfl) (fn := Tryd.f87) Tryd.func87 (by kernel_rfl) (by kernel_rfl) (by kernel_rfl) (by kernel_rfl)⟩
    case false =>
      cases h93 : Nat.beq f 93
      case true =>
        obtain rfl := Nat.eq_of_beq_eq_true h93
        exact .inr ⟨indexByteF, rfl, indexByte_prim (fn := Tryd.f93) Tryd.func93 (by kernel_rfl) (by kernel_rfl) (by kernel_rfl) (by kernel_rfl)⟩
      case false =>
        refine .inl ?_
        show (bif Nat.beq f 86 then Pol.prim sameF else bif Nat.beq f 87 then Pol.prim (noZeroF 5) else bif Nat.beq f 93 then Pol.prim indexByteF else Pol.plain) = _
        simp only [h86, h87, h93, cond_false]
theorem calls_ok (n : Nat) : CallOK env (callF env n) := callF_prims env_ok (by kernel_rfl) prims_ok n
def saysTrue : Option AV → Bool
  | some (.bool true) => true
  | _ => false
theorem says_true {x : Option AV} (h : saysTrue x = true) : x = some (.bool true) := by
  unfold saysTrue at h
  split at h
  · rfl
  · cases h
theorem known : callF env 300 AV 9 [] [] (fun v G => A.freezeB true 64 G v) = some (.bool true) := says_true (by kernel_rfl)
end Go.Proofs.YtikkpecdkdgmfaaDoor.awake
namespace Go.Proofs.YtikkpecdkdgmfaaDoor
open Go Go.Den
noncomputable def pAwake : Pol := .still (Cd.f0 (.bool true))
theorem okAwake : PolOK base 9 pAwake := pure_prim (E := base) (E' := awake.env) rfl rfl awake.calls_ok fun xs v h => by
  unfold Cd.f0 at h
  split at h
  · cases h
    exact ⟨300, awake.known⟩
  · cases h
theorem kAwake {R : Type} {H : Heap} {k : AV → Heap → Option R} : polK pAwake [] H k = k (.bool true) H := by
  unfold pAwake
  rw [polK_imm (by simp)]
  rfl
end Go.Proofs.YtikkpecdkdgmfaaDoor

/- Numbers as the laws hand them over; what is handed in. -/
set_option maxRecDepth 100000
set_option maxHeartbeats 4000000
namespace Go.Proofs.YtikkpecdkdgmfaaDoor
open Go Go.Den
noncomputable def pNum : Pol := .still (p1 cN eN (fun _ => True) id)
theorem okNum : PolOK base 14 pNum := still1 base_ok [] trivial fun a _ => by
  obtain ⟨a1, a2⟩ := a
  refine Evs.of fun n m => ?_
  simp [↓bindC_eq, ↓withV_of, ↓chkD_true, S14, A.ofList, A.fill, A.fits, A.splice]
theorem kNum {R : Type} {a : Nm} {H : Heap} {k : AV → Heap → Option R} : polK pNum [eN a] H k = k (eN a) H := by
  simp [pNum, polK_imm]
theorem qNum {R : Type} {a : Nm} {H : Heap} {k : AV → Heap → Option R} : polQ pNum [eN a] H k = k (eN a) H := by
  simp [pNum, polQ_imm]
/-! ### how great the numbers are -/
theorem rep_len {a : Nm} {z : Int} {k : Nat} (h : Rep a z) (hz : z.natAbs < 4294967296 ^ k) : (a.2.getD []).length ≤ k := by rw [h.2]; exact lim_le.2 hz
theorem rep_mag' {a : Nm} {z : Int} (h : Rep a z) : mag a = z.natAbs := by unfold mag; rw [h.2, val_lim]
theorem mag_toI (a : Nm) : (toI a).natAbs = mag a := by
  unfold toI sgn
  split <;> omega
theorem mag_lt {a : Nm} {k : Nat} (h : (a.2.getD []).length ≤ k) : (toI a).natAbs < 4294967296 ^ k := by
  rw [mag_toI]
  exact Nat.lt_of_lt_of_le (val_lt _) (Nat.pow_le_pow_right (by omega) h)
theorem tup3 (x : Nm × Nm × Bool) : eDiv x = .tup [eN x.1, eN x.2.1, .bool x.2.2] := rfl
/-! ### what it is handed -/
theorem ty_num {n : Nat} {v : AV} (h : Ty Tryd.prog n 24 v) : ∃ a : Nm, v = eN a := by
  obtain ⟨m, vs, rfl, h1, h2, h3⟩ := h.struct (fs := #[{ name := "Neg", type := 4, offset := 0, embedded := false, tag := "", pkgPath := "", byteOffset := 0 }, { name := "D", type := 22, offset := 1, embedded := false, tag := "", pkgPath := "", byteOffset := 8 }]) (by kernel_rfl)
  match vs, h2 with
  | [x, y], _ =>
    have hx := (h3 0 _ x rfl rfl).1
    have hy := (h3 1 _ y rfl rfl).1
    obtain ⟨p, rfl⟩ := hx.bool (by kernel_rfl)
    obtain ⟨l, hl, hb, -⟩ := hy.ints (k := .u32) (e := 64) (by kernel_rfl) (by kernel_rfl) (by kernel_rfl)
    have hll : l.map (AV.int .u32) = (l.map fun i => UInt32.ofNat i.toNat).map eu := by
      rw [List.map_map]
      refine List.map_congr_left fun i hi => ?_
      have := hb i hi
      have h5 : (0 : Int) ≤ i ∧ i ≤ 4294967295 := this
      show AV.int .u32 i = AV.int .u32 ((UInt32.ofNat i.toNat).toNat : Int)
      rw [limb_of, Nat.mod_eq_of_lt (by omega)]
      congr 1
      omega
    rw [hll] at hl
    generalize hm : (l.map fun i => UInt32.ofNat i.toNat).map eu = es at hl
    cases hl with
    | nil => exact ⟨(p, none), by rw [h1]; rfl⟩
    | sh _ =>
      subst hm
      exact ⟨(p, some (l.map fun i => UInt32.ofNat i.toNat)), by rw [h1]; rfl⟩
end Go.Proofs.YtikkpecdkdgmfaaDoor
