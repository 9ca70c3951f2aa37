/- Texts put together: Q3, FmtR, Q4, Q5, Q6, Q7, Q8, Rcn, AwakeR, LwR, LwJ, LwB. -/
import Derived.Test.YtdkjednjlpcboaaDoorMg
import Derived.Test.YtdkjednjlpcboaaDoorRows

/- Texts: a sign is put behind bytes. -/
set_option maxRecDepth 100000
set_option maxHeartbeats 8000000
namespace Go.Proofs.YtdkjednjlpcboaaDoor
open Go Go.Den Go.Lib
theorem qhp {n : Nat} : IntKind.wrap .u8 (n : Int) = ((n % 256 : Nat) : Int) := by
  simp [IntKind.wrap, IntKind.bits, IntKind.signed]
theorem qa4 (n : Nat) : Go.Den.convert base 21 5 (.int .i32 (n : Int)) = some (.int .u8 ((n % 256 : Nat) : Int)) := by
  rw [← qhp]
  exact q3p (x := .int .i32) (by kernel_rfl) (by kernel_rfl)
theorem qch {n : Nat} (h : n < 4294967296) : Go.Den.convert base 21 82 (.int .i32 (n : Int)) = some (.int .u32 (n : Int)) := by
  have e : IntKind.wrap .u32 (n : Int) = (n : Int) := by
    simp [IntKind.wrap, IntKind.bits, IntKind.signed]
    omega
  rw [← e]
  have := q3p (E := base) (s := 21) (d := 82) (x := .int .i32) (n := (n : Int)) (j := .i32) (k := .u32) (by kernel_rfl) (by kernel_rfl)
  rw [e] at this ⊢
  exact this
theorem shr_r {P : Program} {t : TypeId} {j : IntKind} {a : Nat} {c : Bool} {H : Heap} : A.bin P .shr t (.int .i32 (a : Int)) (.int j 6) c H = some (.int .i32 ((a / 64 : Nat) : Int)) ∧ A.bin P .shr t (.int .i32 (a : Int)) (.int j 12) c H = some (.int .i32 ((a / 4096 : Nat) : Int)) ∧ A.bin P .shr t (.int .i32 (a : Int)) (.int j 18) c H = some (.int .i32 ((a / 262144 : Nat) : Int)) := by
  have h1 : (a : Int).fdiv 64 = ((a / 64 : Nat) : Int) := by rw [Int.fdiv_eq_ediv_of_nonneg _ (by omega)]; rfl
  have h2 : (a : Int).fdiv 4096 = ((a / 4096 : Nat) : Int) := by rw [Int.fdiv_eq_ediv_of_nonneg _ (by omega)]; rfl
  have h3 : (a : Int).fdiv 262144 = ((a / 262144 : Nat) : Int) := by rw [Int.fdiv_eq_ediv_of_nonneg _ (by omega)]; rfl
  exact ⟨by simp [A.bin, A.binInt, IntKind.bits, h1], by simp [A.bin, A.binInt, IntKind.bits, h2], by simp [A.bin, A.binInt, IntKind.bits, h3]⟩
theorem or_u8 {a b s : Nat} (ha : a % 2 ^ s = 0) (hb : b < 2 ^ s) (h : a + b < 256) : orI .u8 (a : Int) (b : Int) = ((a + b : Nat) : Int) := by
  unfold orI
  rw [show IntKind.bits .u8 = 8 from rfl, BitVec.toNat_or]
  simp
  have e : a ||| b = a + b := by
    have := Nat.two_pow_add_eq_or_of_lt hb (a / 2 ^ s)
    have e2 : 2 ^ s * (a / 2 ^ s) = a := by have := Nat.div_add_mod a (2 ^ s); omega
    rw [e2] at this
    exact this.symm
  rw [Nat.mod_eq_of_lt (by omega), Nat.mod_eq_of_lt (by omega), e]
  have := qdj h
  simpa using this
theorem q89 {P : Program} {t : TypeId} {a b s : Nat} {c : Bool} {H : Heap} (ha : a % 2 ^ s = 0) (hb : b < 2 ^ s) (h : a + b < 256) : A.bin P .or t (.int .u8 (a : Int)) (.int .u8 (b : Int)) c H = some (.int .u8 ((a + b : Nat) : Int)) := by
  rw [q2v, or_u8 ha hb h]
theorem qb4 {P : Program} {t : TypeId} {a : Nat} {c : Bool} {H : Heap} (ha : a < 256) : A.bin P .and t (.int .u8 (a : Int)) (.int .u8 63) c H = some (.int .u8 ((a % 64 : Nat) : Int)) := by
  have := q2u (k := 6) ha (by omega)
  rw [q0g]
  exact congrArg (fun x => some (AV.int .u8 x)) this
theorem q3w {n : Nat} (h : n < 256) : ebq (UInt8.ofNat n) = .int .u8 (n : Int) := by
  show AV.int .u8 (((UInt8.ofNat n).toNat : Nat) : Int) = _
  have : (UInt8.ofNat n).toNat = n := by simp; omega
  rw [this]
theorem q4k {out : List UInt8} {H : Heap} {v : AV} (h : Out ebq 1 5 H v out) (hl : out.length ≤ 10000000) (news : List UInt8) (hn : news.length ≤ 8) :
    ∃ (v' : AV) (H' : Heap), A.append 1 1 5 v (news.map ebq) (H ++ [.row 0 1 5 (news.map ebq)]) = some (v', H') ∧ A.read 1 (.sl H.length 0 0 news.length news.length) (H ++ [.row 0 1 5 (news.map ebq)]) = some (news.map ebq) ∧ Out ebq 1 5 H' v' (out ++ news) ∧ ∀ (k : Nat) (o : HObj), q32 o → H[k]? = some o → H'[k]? = some o := by
  obtain ⟨v', H', h1, h2, h3⟩ := q5j (news := news) h [.row 0 1 5 (news.map ebq)] (by omega)
  exact ⟨v', H', h1, q68 q24 (by simp), h2, h3⟩
noncomputable def pArn : Pol := .prim (runF base [] 60)
theorem okArn : PolOK base 60 pArn := q3g base_ok [] trivial
theorem kArn {H : Heap} {v : AV} {out : List UInt8} (h : Out ebq 1 5 H v out) (hl : out.length ≤ 10000000) {r : Nat} (hs : scal r) (h1 : ¬ r < 128) : ∃ (v' : AV) (H' : Heap), Out ebq 1 5 H' v' (out ++ enc r) ∧ (∀ (k : Nat) (o : HObj), q32 o → H[k]? = some o → H'[k]? = some o) ∧ ∀ (R : Type) (k : AV → Heap → Option R), polK pArn [v, .int .i32 (r : Int)] H k = k v' H' := by
  have hsc : r < 55296 ∨ 57344 ≤ r ∧ r < 1114112 := by unfold scal at hs; omega
  have c0 := qch (n := r) (by omega)
  have c1 := qa4 r
  have c2 := qa4 (r / 64)
  have c3 := qa4 (r / 4096)
  have c4 := qa4 (r / 262144)
  have s6 := fun (H : Heap) => (shr_r (P := base.P) (t := 21) (j := .u64) (a := r) (c := true) (H := H)).1
  have s12 := fun (H : Heap) => (shr_r (P := base.P) (t := 21) (j := .u64) (a := r) (c := true) (H := H)).2.1
  have s18 := fun (H : Heap) => (shr_r (P := base.P) (t := 21) (j := .u64) (a := r) (c := true) (H := H)).2.2
  have a1 := fun (H : Heap) => qb4 (P := base.P) (t := 5) (a := r % 256) (c := true) (H := H) (by omega)
  have a2 := fun (H : Heap) => qb4 (P := base.P) (t := 5) (a := r / 64 % 256) (c := true) (H := H) (by omega)
  have a3 := fun (H : Heap) => qb4 (P := base.P) (t := 5) (a := r / 4096 % 256) (c := true) (H := H) (by omega)
  have m1 : r % 256 % 64 = r % 64 := by omega
  have m2 : r / 64 % 256 % 64 = r / 64 % 64 := by omega
  have m3 : r / 4096 % 256 % 64 = r / 4096 % 64 := by omega
  have o1 := fun (H : Heap) => q89 (P := base.P) (t := 5) (a := 128) (b := r % 256 % 64) (s := 7) (c := false) (H := H) (by omega) (by omega) (by omega)
  have o2 := fun (H : Heap) => q89 (P := base.P) (t := 5) (a := 128) (b := r / 64 % 256 % 64) (s := 7) (c := false) (H := H) (by omega) (by omega) (by omega)
  have o3 := fun (H : Heap) => q89 (P := base.P) (t := 5) (a := 128) (b := r / 4096 % 256 % 64) (s := 7) (c := false) (H := H) (by omega) (by omega) (by omega)
  by_cases h2 : r < 2048
  · have he : (enc r).map ebq = [.int .u8 ((192 + r / 64 % 256 : Nat) : Int), .int .u8 ((128 + r % 256 % 64 : Nat) : Int)] := by
      rw [q8x h1 h2, List.map_cons, List.map_cons, List.map_nil, q3w (by omega), q3w (by omega), m1, Nat.mod_eq_of_lt (show r / 64 < 256 by omega)]
    obtain ⟨v', H', p1, p2, p3, p4⟩ := q4k h hl (enc r) (by rw [q8x h1 h2]; simp)
    have hln : (enc r).length = 2 := by rw [q8x h1 h2]; rfl
    have o4 := fun (H : Heap) => q89 (P := base.P) (t := 5) (a := 192) (b := r / 64 % 256) (s := 6) (c := false) (H := H) (by omega) (by omega) (by omega)
    rw [he] at p1 p2
    rw [hln] at p2
    have q1 : (r : Int) ≤ 2047 := by omega
    have hr : runF base [] 60 [v, .int .i32 (r : Int)] H = some (v', H') := q0r (Evs.of fun n m => by
      have e192 : ((192 : Nat) : Int) = 192 := rfl
      have e128 : ((128 : Nat) : Int) = 128 := rfl
      rw [e192] at o4
      rw [e128] at o1
      generalize ((192 + r / 64 % 256 : Nat) : Int) = B0 at *
      generalize ((128 + r % 256 % 64 : Nat) : Int) = B1 at *
      generalize ((r % 256 % 64 : Nat) : Int) = X1 at *
      generalize ((r / 64 % 256 : Nat) : Int) = X2 at *
      generalize ((r % 256 : Nat) : Int) = X3 at *
      generalize ((r / 64 : Nat) : Int) = X4 at *
      generalize (r : Int) = Z at *
      simp [↓q00, ↓q05, ↓q09, ↓q01, ↓q1s, ↓q19, S60, c0, q1, s6, c2, o4, c1, a1, o1, A.fillElems, q31 q3t, p2, p1])
    exact ⟨v', H', p3, p4, fun R k => q2o hr⟩
  by_cases h3 : r < 65536
  · have he : (enc r).map ebq = [.int .u8 ((224 + r / 4096 % 256 : Nat) : Int), .int .u8 ((128 + r / 64 % 256 % 64 : Nat) : Int), .int .u8 ((128 + r % 256 % 64 : Nat) : Int)] := by
      rw [q8y h2 h3 hs, List.map_cons, List.map_cons, List.map_cons, List.map_nil, q3w (by omega), q3w (by omega), q3w (by omega), m1, m2, Nat.mod_eq_of_lt (show r / 4096 < 256 by omega)]
    obtain ⟨v', H', p1, p2, p3, p4⟩ := q4k h hl (enc r) (by rw [q8y h2 h3 hs]; simp)
    have hln : (enc r).length = 3 := by rw [q8y h2 h3 hs]; rfl
    have o4 := fun (H : Heap) => q89 (P := base.P) (t := 5) (a := 224) (b := r / 4096 % 256) (s := 4) (c := false) (H := H) (by omega) (by omega) (by omega)
    rw [he] at p1 p2
    rw [hln] at p2
    have q1 : ¬ (r : Int) ≤ 2047 := by omega
    have q2 : (r : Int) ≤ 65535 := by omega
    have hr : runF base [] 60 [v, .int .i32 (r : Int)] H = some (v', H') := q0r (Evs.of fun n m => by
      have e224 : ((224 : Nat) : Int) = 224 := rfl
      have e128 : ((128 : Nat) : Int) = 128 := rfl
      rw [e224] at o4
      rw [e128] at o1 o2
      by_cases q3 : (r : Int) < 55296
      · generalize ((224 + r / 4096 % 256 : Nat) : Int) = B0 at *
        generalize ((128 + r / 64 % 256 % 64 : Nat) : Int) = B2 at *
        generalize ((128 + r % 256 % 64 : Nat) : Int) = B1 at *
        generalize ((r % 256 % 64 : Nat) : Int) = X1 at *
        generalize ((r / 64 % 256 % 64 : Nat) : Int) = X5 at *
        generalize ((r / 64 % 256 : Nat) : Int) = X2 at *
        generalize ((r / 4096 % 256 : Nat) : Int) = X6 at *
        generalize ((r % 256 : Nat) : Int) = X3 at *
        generalize ((r / 64 : Nat) : Int) = X4 at *
        generalize ((r / 4096 : Nat) : Int) = X7 at *
        generalize (r : Int) = Z at *
        simp [↓q00, ↓q05, ↓q09, ↓q01, ↓q1s, ↓q19, ↓q04, S60, c0, q1, q3, s6, s12, c1, c2, c3, o4, a1, a2, o1, o2, A.fillElems, q31 q3t, p2, p1]
      · have q4 : (57343 : Int) < (r : Int) := by omega
        generalize ((224 + r / 4096 % 256 : Nat) : Int) = B0 at *
        generalize ((128 + r / 64 % 256 % 64 : Nat) : Int) = B2 at *
        generalize ((128 + r % 256 % 64 : Nat) : Int) = B1 at *
        generalize ((r % 256 % 64 : Nat) : Int) = X1 at *
        generalize ((r / 64 % 256 % 64 : Nat) : Int) = X5 at *
        generalize ((r / 64 % 256 : Nat) : Int) = X2 at *
        generalize ((r / 4096 % 256 : Nat) : Int) = X6 at *
        generalize ((r % 256 : Nat) : Int) = X3 at *
        generalize ((r / 64 : Nat) : Int) = X4 at *
        generalize ((r / 4096 : Nat) : Int) = X7 at *
        generalize (r : Int) = Z at *
        simp [↓q00, ↓q05, ↓q09, ↓q01, ↓q03, ↓q1s, ↓q19, ↓q02, ↓q04, S60, c0, q1, q2, q3, q4, A.asG, guardB, A.pick, s6, s12, c1, c2, c3, o4, a1, a2, o1, o2, A.fillElems, q31 q3t, p2, p1])
    exact ⟨v', H', p3, p4, fun R k => q2o hr⟩
  · have he : (enc r).map ebq = [.int .u8 ((240 + r / 262144 % 256 : Nat) : Int), .int .u8 ((128 + r / 4096 % 256 % 64 : Nat) : Int), .int .u8 ((128 + r / 64 % 256 % 64 : Nat) : Int), .int .u8 ((128 + r % 256 % 64 : Nat) : Int)] := by
      rw [qbf h3 hs, List.map_cons, List.map_cons, List.map_cons, List.map_cons, List.map_nil, q3w (by omega), q3w (by omega), q3w (by omega), q3w (by omega), m1, m2, m3, Nat.mod_eq_of_lt (show r / 262144 < 256 by omega)]
    obtain ⟨v', H', p1, p2, p3, p4⟩ := q4k h hl (enc r) (by rw [qbf h3 hs]; simp)
    have hln : (enc r).length = 4 := by rw [qbf h3 hs]; rfl
    have o4 := fun (H : Heap) => q89 (P := base.P) (t := 5) (a := 240) (b := r / 262144 % 256) (s := 4) (c := false) (H := H) (by omega) (by omega) (by omega)
    rw [he] at p1 p2
    rw [hln] at p2
    have q1 : ¬ (r : Int) ≤ 2047 := by omega
    have q2 : ¬ (r : Int) ≤ 65535 := by omega
    have q3 : ¬ (r : Int) < 55296 := by omega
    have q4 : (57343 : Int) < (r : Int) := by omega
    have q5 : (65535 : Int) < (r : Int) := by omega
    have q6 : (r : Int) ≤ 1114111 := by omega
    have hr : runF base [] 60 [v, .int .i32 (r : Int)] H = some (v', H') := q0r (Evs.of fun n m => by
      have e240 : ((240 : Nat) : Int) = 240 := rfl
      have e128 : ((128 : Nat) : Int) = 128 := rfl
      rw [e240] at o4
      rw [e128] at o1 o2 o3
      generalize ((240 + r / 262144 % 256 : Nat) : Int) = B0 at *
      generalize ((128 + r / 4096 % 256 % 64 : Nat) : Int) = B3 at *
      generalize ((128 + r / 64 % 256 % 64 : Nat) : Int) = B2 at *
      generalize ((128 + r % 256 % 64 : Nat) : Int) = B1 at *
      generalize ((r % 256 % 64 : Nat) : Int) = X1 at *
      generalize ((r / 64 % 256 % 64 : Nat) : Int) = X5 at *
      generalize ((r / 4096 % 256 % 64 : Nat) : Int) = X8 at *
      generalize ((r / 64 % 256 : Nat) : Int) = X2 at *
      generalize ((r / 4096 % 256 : Nat) : Int) = X6 at *
      generalize ((r / 262144 % 256 : Nat) : Int) = X9 at *
      generalize ((r % 256 : Nat) : Int) = X3 at *
      generalize ((r / 64 : Nat) : Int) = X4 at *
      generalize ((r / 4096 : Nat) : Int) = X7 at *
      generalize ((r / 262144 : Nat) : Int) = X0 at *
      generalize (r : Int) = Z at *
      simp [↓q00, ↓q05, ↓q09, ↓q01, ↓q03, ↓q1s, ↓q19, ↓q02, ↓q04, S60, c0, q1, q2, q3, q4, q5, q6, A.asG, guardB, A.pick, s6, s12, s18, c1, c2, c3, c4, o4, a1, a2, a3, o1, o2, o3, A.fillElems, q31 q3t, p2, p1])
    exact ⟨v', H', p3, p4, fun R k => q2o hr⟩
noncomputable abbrev TAr : List (FuncId × Pol) := [(60, pArn)]
noncomputable def pAr : Pol := .prim (runF base TAr 46)
theorem okAr : PolOK base 46 pAr := q3g base_ok TAr ⟨okArn, trivial⟩
theorem kAr {H : Heap} {v : AV} {out : List UInt8} (h : Out ebq 1 5 H v out) (hl : out.length ≤ 10000000) {r : Nat} (hs : scal r) : ∃ (v' : AV) (H' : Heap), Out ebq 1 5 H' v' (out ++ enc r) ∧ (∀ (k : Nat) (o : HObj), q32 o → H[k]? = some o → H'[k]? = some o) ∧ ∀ (R : Type) (k : AV → Heap → Option R), polK pAr [v, .int .i32 (r : Int)] H k = k v' H' := by
  have hsc : r < 1114112 := by unfold scal at hs; omega
  have c0 := qch (n := r) (by omega)
  by_cases h1 : r < 128
  · have c1 := qa4 r
    have hm : r % 256 = r := by omega
    rw [hm] at c1
    have he : (enc r).map ebq = [.int .u8 (r : Int)] := by rw [q58 h1, List.map_cons, List.map_nil, q3w (by omega)]
    obtain ⟨v', H', p1, p2, p3, p4⟩ := q4k h hl (enc r) (by rw [q58 h1]; simp)
    have hln : (enc r).length = 1 := by rw [q58 h1]; rfl
    rw [he] at p1 p2
    rw [hln] at p2
    have q1 : (r : Int) ≤ 127 := by omega
    have hr : runF base TAr 46 [v, .int .i32 (r : Int)] H = some (v', H') := q0r (Evs.of fun n m => by
      generalize (r : Int) = Z at *
      simp [↓q00, ↓q05, ↓q09, ↓q01, ↓q1s, ↓q19, S46, c0, q1, c1, A.fillElems, q31 q3t, p2, p1])
    exact ⟨v', H', p3, p4, fun R k => q2o hr⟩
  · obtain ⟨v', H', p3, p4, kk⟩ := kArn h hl hs h1
    have q1 : ¬ (r : Int) ≤ 127 := by omega
    have hr : runF base TAr 46 [v, .int .i32 (r : Int)] H = some (v', H') := q0r (Evs.of fun n m => by
      generalize (r : Int) = Z at *
      simp [↓q00, ↓q01, S46, c0, q1, kk])
    exact ⟨v', H', p3, p4, fun R k => q2o hr⟩
noncomputable abbrev TWr : List (FuncId × Pol) := [(45, pCc), (46, pAr)]
noncomputable def pWr : Pol := .prim (runF base TWr 26)
theorem okWr : PolOK base 26 pWr := q3g base_ok TWr ⟨okCc, okAr, trivial⟩
theorem qfs {H : Heap} {v : AV} {l : List UInt8} (h : Out ebq 1 5 H v l) : A.len v H = some (.int .i64 (l.length : Int)) := by
  rcases h with ⟨rfl, rfl⟩ | ⟨id, ver, h0, rfl, h2⟩
  · rfl
  · simp [A.len, A.alive, h2]
theorem kWr {H : Heap} {b : Nat} {out : List UInt8} (h : Bd H b out) (hl : out.length ≤ 10000000) {r : Nat} (hs : scal r) : ∃ (H' : Heap) (w : AV), Bd H' b (out ++ enc r) ∧ Keep b H H' ∧ ∀ (R : Type) (k : AV → Heap → Option R), polK pWr [.ptr b 0 0 0, .int .i32 (r : Int)] H k = k w H' := by
  obtain ⟨H1, v, hb, ho, hk1, k1⟩ := kCc h
  obtain ⟨v', H3, ho3, hk3, k3⟩ := kAr ho hl hs
  have hb3 := hk3 b _ (q9d (b := b)) hb
  obtain ⟨H4, hst, hB, hk4, hb4⟩ := q8n hb3 ho3
  have n1 : A.nilCheck (.ptr b 0 0 0) H1 = some (.ptr b 0 0 0) := q0k hb
  have n2 : A.fa 1 (.ptr b 0 0 0) H1 = some (.ptr b 0 0 1) := q1e hb
  have n3 : A.load false 1 (.ptr b 0 0 1) H1 = some v := q0v hb rfl rfl
  have n4 := qfs ho
  have n6 : A.nilCheck (.ptr b 0 0 0) H3 = some (.ptr b 0 0 0) := q0k hb3
  have n7 : A.fa 1 (.ptr b 0 0 0) H3 = some (.ptr b 0 0 1) := q1e hb3
  have n8 : A.nilCheck (.ptr b 0 0 0) H4 = some (.ptr b 0 0 0) := q0k hb4
  have n9 : A.fa 1 (.ptr b 0 0 0) H4 = some (.ptr b 0 0 1) := q1e hb4
  have n10 : A.load false 1 (.ptr b 0 0 1) H4 = some v' := q0v hb4 rfl rfl
  have n11 : A.len v' H4 = some (.int .i64 ((out ++ enc r).length : Int)) := by
    obtain ⟨a2, v2, hb2, -, ho4⟩ := hB
    rw [hb4] at hb2
    injection hb2 with hb2
    injection hb2 with _ _ _ hb2
    injection hb2 with hb2 _
    injection hb2 with hb2
    injection hb2 with _ hb2
    injection hb2 with hb2 _
    rw [hb2]
    exact qfs ho4
  have hr : runF base TWr 26 [.ptr b 0 0 0, .int .i32 (r : Int)] H = some (.tup [.int .i64 (IntKind.wrap .i64 (((out ++ enc r).length : Int) - (out.length : Int))), .nili], H4) := q0r (Evs.of fun n m => by
    generalize ((out ++ enc r).length : Int) = L1 at *
    generalize (out.length : Int) = L at *
    generalize (r : Int) = Z at *
    simp [↓q01, ↓q0a, S26, k1, n1, n2, n3, n4, k3, n6, n7, n8, n9, n10, n11, hst])
  exact ⟨H4, _, hB, (hk1.trans fun k o hk hn h => hk3 k o hn h).trans hk4, fun R k => q2o hr⟩
end Go.Proofs.YtdkjednjlpcboaaDoor

/- A sign's number by sixteens: by computation, one by one. -/
set_option maxRecDepth 100000
namespace Go.Proofs.YtdkjednjlpcboaaDoor.fmtr
open Go Go.Den
def q47 : List FuncId := [29, 47, 61, 62, 63, 64, 66, 67, 68, 69, 70, 72, 73]
noncomputable def env0 : Env := { P := Tryd.prog, pol := fun _ => .plain, ann := fun _ => {}, glob := fun g => bif Nat.beq g 0 then flatD (H := Unit) Rows.laid_unicode_utf8_first else bif Nat.beq g 1 then flatD (H := Unit) Rows.laid_unicode_utf8_acceptRanges else bif Nat.beq g 2 then flatD (H := Unit) Rows.laid_internal_strconv_uint64pow10 else bif Nat.beq g 3 then flatD (H := Unit) Rows.laid_math_bits_deBruijn32tab else bif Nat.beq g 4 then flatD (H := Unit) Rows.laid_math_bits_deBruijn64tab else none }
def q3k : List (Nat × List (Nat × Nat × Nat)) := []
def q4f : List (Nat × List (Nat × Nat × Nat)) → Nat → List (Nat × Nat × Nat)
  | [], _ => []
  | (g, l) :: r, f => bif Nat.beq g f then l else q4f r f
def annsIn (f : Nat) : Ann :=  .nil
noncomputable def tab (f : FuncId) : FAnn :=
  match Tryd.prog.funcs[f]? with
  | some fn => { ann := annsIn f, depth := Nat.log2 fn.ntmps + 1, sites := q4f q3k f, draws := qfi env0 (q4f q3k f) fn }
  | none => {}
noncomputable def env : Env := { env0 with ann := fun f => if f ∈ q47 then tab f else {} }
theorem qey : EnvOK env := envOK q47 (by kernel_rfl) (fun f hf => by show (if f ∈ q47 then tab f else {}).draws = []; rw [if_neg hf]) (by kernel_rfl)
theorem q9k : ∀ f, env.pol f = .plain ∨ ∃ F, env.pol f = .prim F ∧ PrimOK env f F := fun f => by
  refine .inl ?_
  show ( Pol.plain) = _
  rfl
theorem calls_ok (n : Nat) : CallOK env (callF env n) := q6f qey (by kernel_rfl) q9k n
def hexD (d : Nat) : UInt8 := if d < 10 then UInt8.ofNat (48 + d) else UInt8.ofNat (87 + d)
def hexS (c : Nat) : List UInt8 := if c < 16 then [hexD c] else [hexD (c / 16), hexD (c % 16)]
def qc3 : Option AV → List UInt8 → Bool
  | some (.str l), m => l == m
  | _, _ => false
theorem qhe {x : Option AV} {m : List UInt8} (h : qc3 x m = true) : x = some (.str m) := by
  unfold qc3 at h
  split at h
  · rename_i l
    have : l = m := by simpa using h
    rw [this]
  · cases h
theorem qf8 : (127 :: List.range 32).all (fun c : Nat => qc3 (callF env 60 AV 29 [.int .i64 (c : Int), .int .i64 16] [] (fun v G => A.freezeB true 64 G v)) (hexS c)) = true := by kernel_rfl
theorem known {c : Nat} (h : c < 32 ∨ c = 127) : callF env 60 AV 29 [.int .i64 (c : Int), .int .i64 16] [] (fun v G => A.freezeB true 64 G v) = some (.str (hexS c)) :=
  qhe (List.all_eq_true.1 qf8 c (by
    rcases h with h | h
    · exact List.mem_cons_of_mem _ (List.mem_range.2 h)
    · rw [h]; exact List.mem_cons_self))
end Go.Proofs.YtdkjednjlpcboaaDoor.fmtr
namespace Go.Proofs.YtdkjednjlpcboaaDoor
open Go Go.Den
def fFmt : List AV → Option AV
  | [.int .i64 c, .int .i64 b] => if b = 16 ∧ 0 ≤ c ∧ (c < 32 ∨ c = 127) then some (AV.str (fmtr.hexS c.toNat)) else none
  | _ => none
noncomputable def pFmt : Pol := .still fFmt
theorem okFmt : PolOK base 29 pFmt := q77 (E := base) (E' := fmtr.env) rfl rfl fmtr.calls_ok fun xs v h => by
  unfold fFmt at h
  split at h
  · rename_i c b
    split at h
    · rename_i hc
      obtain ⟨rfl, h0, h1⟩ := hc
      cases h
      have e : ((c.toNat : Nat) : Int) = c := by omega
      have := fmtr.known (c := c.toNat) (by omega)
      rw [e] at this
      exact ⟨60, this⟩
    · cases h
  · cases h
theorem kFmt {R : Type} {c : Nat} (h : c < 32 ∨ c = 127) {H : Heap} {k : AV → Heap → Option R} : polK pFmt [.int .i64 (c : Int), .int .i64 16] H k = k (.str (fmtr.hexS c)) H := by
  unfold pFmt
  rw [q0p (by simp)]
  have : fFmt [.int .i64 (c : Int), .int .i64 16] = some (.str (fmtr.hexS c)) := by
    show (if (16 : Int) = 16 ∧ 0 ≤ (c : Int) ∧ ((c : Int) < 32 ∨ (c : Int) = 127) then some (AV.str (fmtr.hexS (c : Int).toNat)) else none) = _
    rw [if_pos ⟨rfl, by omega, by omega⟩]
    rfl
  rw [this]
  rfl
end Go.Proofs.YtdkjednjlpcboaaDoor

/- Texts: a name as it is written. -/
set_option maxRecDepth 100000
set_option maxHeartbeats 8000000
namespace Go.Proofs.YtdkjednjlpcboaaDoor
open Go Go.Den Go.Lib
/-! ### a builder's text -/
theorem q7t : ∀ l : List UInt8, A.bytes8 (l.map ebq) = some l
  | [] => rfl
  | x :: l => by
    have hx := x.toNat_lt
    have e : (x.toNat : Int).toNat.toUInt8 = x := by simp
    rw [List.map_cons]
    show (bif decide ((0 : Int) ≤ (x.toNat : Int)) && decide ((x.toNat : Int) < 256) then (match A.bytes8 (l.map ebq) with | some l => some ((x.toNat : Int).toNat.toUInt8 :: l) | none => none) else none) = _
    rw [q7t l, e]
    have h1 : decide ((0 : Int) ≤ (x.toNat : Int)) = true := by simp
    have h2 : decide ((x.toNat : Int) < 256) = true := by simp; omega
    rw [h1, h2]
    rfl
noncomputable def pStr : Pol := .prim (runF base [] 30)
theorem okStr : PolOK base 30 pStr := q3g base_ok [] trivial
theorem kStr {H : Heap} {b : Nat} {out : List UInt8} (h : Bd H b out) (hne : out ≠ []) (hl : out.length ≤ 100000000) : ∃ H' : Heap, ∀ (R : Type) (k : AV → Heap → Option R), polK pStr [.ptr b 0 0 0] H k = k (.str out) H' := by
  obtain ⟨a, v, hb, ha, ho⟩ := h
  rcases ho with ⟨rfl, -⟩ | ⟨id, ver, -, rfl, h2⟩
  · exact absurd rfl hne
  have hpos : 0 < out.length := List.length_pos_iff.2 hne
  have n1 : A.nilCheck (.ptr b 0 0 0) H = some (.ptr b 0 0 0) := q0k hb
  have n2 : A.fa 1 (.ptr b 0 0 0) H = some (.ptr b 0 0 1) := q1e hb
  have n3 : A.load false 1 (.ptr b 0 0 1) H = some (.sl id ver 0 out.length out.length) := q0v hb rfl rfl
  have b1 : ∀ (R : Type) (k : AV → Heap → Option R), q14 base .unsafeSliceData [35] [.sl id ver 0 out.length out.length] H k = k (.ptr id ver 0 0) H := fun R k => by
    show withV (A.sliceData (.sl id ver 0 out.length out.length) H) (fun v => k v H) = _
    have : A.sliceData (.sl id ver 0 out.length out.length) H = some (.ptr id ver 0 0) := by simp [A.sliceData, A.alive, h2, hpos]
    rw [this]
    rfl
  have n4 : A.len (.sl id ver 0 out.length out.length) H = some (.int .i64 (out.length : Int)) := by simp [A.len, A.alive, h2]
  have b2 : ∀ (R : Type) (k : AV → Heap → Option R), q14 base .unsafeString [73, 3] [.ptr id ver 0 0, .int .i64 (out.length : Int)] H k = k (.str out) (H.set id .dead) := fun R k => by
    have u1 : base.P.underlying 73 = some (.pointer 5) := by kernel_rfl
    have u2 : Nat.beq (base.P.cellsOf 5) 1 = true := by kernel_rfl
    have hu : A.unsafeStr 5 (.ptr id ver 0 0) (.int .i64 (out.length : Int)) H = some (.str out, H.set id .dead) := by
      have e0 : ¬ ((out.length : Int) = 0) := by omega
      have e1 : (0 : Int) < (out.length : Int) := by omega
      have e2 : (out.length : Int) ≤ 9223372036854775807 := by omega
      have e3 : ((out.map ebq).drop 0).take ((out.length : Int).toNat) = out.map ebq := by
        rw [List.drop_zero]
        exact List.take_of_length_le (by simp)
      simp only [A.unsafeStr, h2, e0, decide_false, cond_false, e1, e2, decide_true, e3, q7t]
      simp
    show (match base.P.underlying 73 with
      | some (.pointer e) => bif Nat.beq (base.P.cellsOf e) 1 then match A.unsafeStr e (.ptr id ver 0 0) (.int .i64 (out.length : Int)) H with
        | some (v, H') => k v H'
        | none => none
        else none
      | _ => none) = _
    rw [u1]
    dsimp only
    rw [u2, hu]
    rfl
  have hr : runF base [] 30 [.ptr b 0 0 0] H = some (.str out, H.set id .dead) := q0r (Evs.of fun n m => by
    generalize (out.length : Int) = L at *
    generalize out.length = l at *
    simp [↓q01, ↓q1f, S30, n1, n2, n3, b1, n4, b2])
  exact ⟨_, fun R k => q2o hr⟩
/-! ### sign by sign -/
def escR (c : Nat) : List UInt8 :=
  if c = 39 ∨ c = 92 then 92 :: enc c else if c = 10 then [92, 110] else if c < 32 ∨ c = 127 then [92, 120] ++ fmtr.hexS c ++ [59] else enc c
theorem enc_len {r : Nat} (hs : scal r) : (enc r).length ≤ 4 := by
  by_cases h1 : r < 128
  · rw [q58 h1]; simp
  by_cases h2 : r < 2048
  · rw [q8x h1 h2]; simp
  by_cases h3 : r < 65536
  · rw [q8y h2 h3 hs]; simp
  · rw [qbf h3 hs]; simp
theorem qf4 (c : Nat) : (fmtr.hexS c).length ≤ 2 := by
  unfold fmtr.hexS
  split <;> simp
theorem qbi {r : Nat} (hs : scal r) : (escR r).length ≤ 5 := by
  have h1 := enc_len hs
  have h2 := qf4 r
  unfold escR
  split
  · simp only [List.length_cons]; omega
  split
  · simp
  split
  · simp only [List.length_append, List.length_cons, List.length_nil]; omega
  · omega
noncomputable abbrev TQuo : List (FuncId × Pol) := [(12, q3i), (13, pPlain), (25, pWb), (26, pWr), (27, pWs), (28, pLow), (29, pFmt), (30, pStr)]
theorem cv_r_64 {n : Nat} (h : n < 2147483648) : Go.Den.convert base 21 2 (.int .i32 (n : Int)) = some (.int .i64 (n : Int)) := by
  have e : IntKind.wrap .i64 (n : Int) = (n : Int) := q2h (by omega) (by omega)
  have := q3p (E := base) (s := 21) (d := 2) (x := .int .i32) (n := (n : Int)) (j := .i32) (k := .i64) (by kernel_rfl) (by kernel_rfl)
  rw [e] at this
  exact this
theorem qe8 {s : List UInt8} {b id : Nat} (hib : id ≠ b) (hsl : s.length ≤ 1000000) : ∀ (N pos : Nat) (H : Heap) (out : List UInt8), s.length - pos ≤ N → pos ≤ s.length → validD (s.drop pos) = true → H[id]? = some (.iter s pos) → Bd H b out → out.length + 5 * (s.length - pos) ≤ 6000000 →
    ∃ H' : Heap, LDoes (qei (polT TQuo)) ⟨[.ptr b 0 0 0, .it id], []⟩ H 0 ⟨[.ptr b 0 0 0], []⟩ H' ∧ Bd H' b (out ++ (rs (s.drop pos)).flatMap escR) := by
  intro N
  induction N with
  | zero =>
    intro pos H out hN hpl hv hH hB hlen
    have hp : ¬ pos < s.length := by omega
    have hd : s.drop pos = [] := List.drop_of_length_le (by omega)
    rw [hd, qat, List.flatMap_nil, List.append_nil]
    refine ⟨H, LDoes.step (Evs.of fun n m => ?_), hB⟩
    simp [↓q00, ↓q05, ↓q01, q1k, nextK, hH, hp]
  | succ N ih =>
    intro pos H out hN hpl hv hH hB hlen
    by_cases hp : pos < s.length
    · have hne := q8w hp
      have hdd := q8v s pos
      have hid : id < H.length := (List.getElem?_eq_some_iff.1 hH).1
      have hv2 := hv
      rw [validD_step _ hne] at hv2
      by_cases hg : (decodeL (s.drop pos)).1 = 65533 ∧ (decodeL (s.drop pos)).2 = 1
      · rw [if_pos hg] at hv2; cases hv2
      rw [if_neg hg, List.drop_drop] at hv2
      obtain ⟨e1, hs, e3, e4⟩ := q65 hne hg
      rw [List.length_drop] at e3
      have hrs := q49 hne
      rw [List.drop_drop] at hrs
      rw [hrs, List.flatMap_cons, ← List.append_assoc]
      have hle := qbi hs
      clear hg e1 hrs hv
      generalize decodeL (s.drop pos) = d at *
      -- the place goes on
      have hH1 : (H.set id (.iter s (pos + d.2)))[id]? = some (.iter s (pos + d.2)) := List.getElem?_set_self hid
      have hB1 : Bd (H.set id (.iter s (pos + d.2))) b out := by
        obtain ⟨a, v, h1, h2, h3⟩ := hB
        refine ⟨a, v, by rw [List.getElem?_set_ne hib]; exact h1, h2, ?_⟩
        rcases h3 with h3 | ⟨i2, ver, g0, g1, g2⟩
        · exact .inl h3
        · refine .inr ⟨i2, ver, g0, g1, ?_⟩
          rw [List.getElem?_set_ne (fun e => by
            subst e
            rw [hH] at g2
            cases g2)]
          exact g2
      generalize hH2 : H.set id (.iter s (pos + d.2)) = H1 at *
      have nit : q32 (.iter s (pos + d.2)) := fun w t es h => by cases h
      -- what goes on
      have go : ∀ (H2 : Heap), Bd H2 b (out ++ escR d.1) → Keep b H1 H2 → ∃ H' : Heap, LDoes (qei (polT TQuo)) ⟨[.ptr b 0 0 0, .it id], []⟩ H2 0 ⟨[.ptr b 0 0 0], []⟩ H' ∧ Bd H' b (out ++ escR d.1 ++ (rs (s.drop (pos + d.2))).flatMap escR) := fun H2 h2 hk =>
        ih (pos + d.2) H2 (out ++ escR d.1) (by omega) (by omega) hv2 (hk id _ hib nit hH1) h2 (by rw [List.length_append]; omega)
      have hol : out.length ≤ 6000000 := by omega
      have hnb : ∀ k : Nat, (k : Int) = ((k : Nat) : Int) := fun _ => rfl
      by_cases c1 : d.1 = 39 ∨ d.1 = 92
      · have he : escR d.1 = [92] ++ enc d.1 := by unfold escR; rw [if_pos c1]; rfl
        obtain ⟨H2, hB2, hk2, k2⟩ := kWb hB1 (by omega) 92
        obtain ⟨H3, w, hB3, hk3, k3⟩ := kWr hB2 (by simp; omega) hs
        rw [List.append_assoc, ← he] at hB3
        obtain ⟨H', hL, hB'⟩ := go H3 hB3 (hk2.trans hk3)
        refine ⟨H', LDoes.step (Evs.withL hL (Evs.of fun n m _ h2 => ?_)), hB'⟩
        have k2' : ∀ (R : Type) (k : AV → Heap → Option R), polK pWb [.ptr b 0 0 0, .int .u8 92] H1 k = k .nili H2 := k2
        rcases c1 with c1 | c1
        · have z1 : (d.1 : Int) = 39 := by omega
          rw [z1] at k3
          simp [↓q00, ↓q05, ↓q01, ↓q03, ↓q02, ↓q04, q1k, nextK, hH, hp, hdd, z1, hH2, A.asG, guardB, A.pick, k2', k3, h2]
        · have z1 : (d.1 : Int) = 92 := by omega
          rw [z1] at k3
          simp [↓q00, ↓q05, ↓q01, ↓q03, ↓q02, ↓q04, q1k, nextK, hH, hp, hdd, z1, hH2, A.asG, guardB, A.pick, k2', k3, h2]
      have n39 : ¬ (d.1 : Int) = 39 := by omega
      have n92 : ¬ (d.1 : Int) = 92 := by omega
      by_cases c2 : d.1 = 10
      · have he : escR d.1 = [92, 110] := by unfold escR; rw [if_neg c1, if_pos c2]
        obtain ⟨H2, hB2, hk2, k2⟩ := kWs hB1 [92, 110] (by simp; omega)
        rw [← he] at hB2
        obtain ⟨H', hL, hB'⟩ := go H2 hB2 hk2
        refine ⟨H', LDoes.step (Evs.withL hL (Evs.of fun n m _ h2 => ?_)), hB'⟩
        have n10 : (d.1 : Int) = 10 := by omega
        simp [↓q00, ↓q05, ↓q01, ↓q03, ↓q02, ↓q04, q1k, nextK, hH, hp, hdd, n10, hH2, A.asG, guardB, A.pick, k2, h2]
      have n10 : ¬ (d.1 : Int) = 10 := by omega
      by_cases c3 : d.1 < 32 ∨ d.1 = 127
      · have he : escR d.1 = [92, 120] ++ fmtr.hexS d.1 ++ [59] := by unfold escR; rw [if_neg c1, if_neg c2, if_pos c3]
        have hhx := qf4 d.1
        obtain ⟨H2, hB2, hk2, k2⟩ := kWs hB1 ([92, 120] ++ fmtr.hexS d.1 ++ [59]) (by simp only [List.length_append, List.length_cons, List.length_nil]; omega)
        rw [← he] at hB2
        obtain ⟨H', hL, hB'⟩ := go H2 hB2 hk2
        refine ⟨H', LDoes.step (Evs.withL hL (Evs.of fun n m _ h2 => ?_)), hB'⟩
        have hlow : lowZ (d.1 : Int) = true := by
          unfold lowZ
          simp only [Bool.or_eq_true, decide_eq_true_eq]
          omega
        have hc64 := cv_r_64 (n := d.1) (by omega)
        have kf : ∀ (R : Type) (H : Heap) (k : AV → Heap → Option R), polK pFmt [.int .i64 (d.1 : Int), .int .i64 16] H k = k (.str (fmtr.hexS d.1)) H := fun R H k => kFmt c3
        have s1 : ∀ H, A.bin base.P .add 9 (.str [92, 120]) (.str (fmtr.hexS d.1)) false H = some (.str ([92, 120] ++ fmtr.hexS d.1)) := fun H => by
          simp only [A.bin, A.binStr]
          rw [if_pos (by simp only [List.length_cons, List.length_nil]; omega)]
        have s2 : ∀ H, A.bin base.P .add 9 (.str ([92, 120] ++ fmtr.hexS d.1)) (.str [59]) true H = some (.str ([92, 120] ++ fmtr.hexS d.1 ++ [59])) := fun H => by
          simp only [A.bin, A.binStr]
          rw [if_pos (by simp only [List.length_append, List.length_cons, List.length_nil]; omega)]
        clear he hB2 hL go hB' hlen
        generalize ([92, 120] ++ fmtr.hexS d.1 ++ [59] : List UInt8) = T3 at *
        generalize ([92, 120] ++ fmtr.hexS d.1 : List UInt8) = T2 at *
        generalize fmtr.hexS d.1 = T1 at *
        simp [↓q00, ↓q05, ↓q01, ↓q03, ↓q02, ↓q04, q1k, nextK, hH, hp, hdd, n39, n92, n10, hH2, A.asG, guardB, A.pick, kLow, hlow, hc64, kf, s1, s2, k2, h2]
      · have he : escR d.1 = enc d.1 := by unfold escR; rw [if_neg c1, if_neg c2, if_neg c3]
        obtain ⟨H2, w, hB2, hk2, k2⟩ := kWr hB1 (by omega) hs
        rw [← he] at hB2
        obtain ⟨H', hL, hB'⟩ := go H2 hB2 hk2
        refine ⟨H', LDoes.step (Evs.withL hL (Evs.of fun n m _ h2 => ?_)), hB'⟩
        have hlow : lowZ (d.1 : Int) = false := by
          unfold lowZ
          simp only [Bool.or_eq_false_iff, decide_eq_false_iff_not]
          omega
        simp [↓q00, ↓q05, ↓q01, ↓q03, ↓q02, ↓q04, q1k, nextK, hH, hp, hdd, n39, n92, n10, hH2, A.asG, guardB, A.pick, kLow, hlow, k2, h2]
    · have hd : s.drop pos = [] := List.drop_of_length_le (by omega)
      rw [hd, qat, List.flatMap_nil, List.append_nil]
      refine ⟨H, LDoes.step (Evs.of fun n m => ?_), hB⟩
      simp [↓q00, ↓q05, ↓q01, q1k, nextK, hH, hp]
def quoS (s : List UInt8) : List UInt8 := if validD s = true then (if isPl s = true then s else [39] ++ (rs s).flatMap escR ++ [39]) else []
noncomputable def pQuo : Pol := .still (p1 cS .str q10 quoS)
theorem okQuo : PolOK base 11 pQuo := still1 base_ok TQuo ⟨qd5, okPlain, okWb, okWr, okWs, okLow, okFmt, okStr, trivial⟩ fun s hs => by
  have hs' : s.length ≤ 1000000 := hs
  have kp : ∀ (R : Type) (H : Heap) (k : AV → Heap → Option R), polK pPlain [.str s] H k = k (.bool (isPl s)) H := fun R H k => kPlain hs
  unfold quoS
  cases hv : validD s
  · rw [if_neg (by simp)]
    exact Evs.of fun n m => by simp [↓q00, ↓q05, ↓q09, ↓q01, S11, q2z, hv]
  rw [if_pos rfl]
  cases hp : isPl s
  · rw [if_neg (by simp)]
    rw [hp] at kp
    have hB0 : Bd [.row 0 2 37 [.agg [.nilp, .nils]]] 0 [] := ⟨_, _, rfl, .inl rfl, .nil⟩
    obtain ⟨H1, hB1, hk1, k1⟩ := kWb hB0 (by simp) 39
    have hit : (H1 ++ [.iter s 0])[H1.length]? = some (.iter s 0) := by simp
    have hbl : 0 < H1.length := by
      obtain ⟨a, v, h1, -⟩ := hB1
      exact (List.getElem?_eq_some_iff.1 h1).1
    have hB2 : Bd (H1 ++ [.iter s 0]) 0 ([] ++ [39]) := by
      obtain ⟨a, v, h1, h2, h3⟩ := hB1
      exact ⟨a, v, by rw [List.getElem?_append_left hbl]; exact h1, h2, h3.app _⟩
    obtain ⟨H3, hL, hB3⟩ := qe8 (s := s) (b := 0) (id := H1.length) (by omega) hs' s.length 0 (H1 ++ [.iter s 0]) ([] ++ [39]) (by omega) (Nat.zero_le _) hv hit hB2 (by simp; omega)
    rw [List.drop_zero] at hB3
    have hlen : ((rs s).flatMap escR).length ≤ 5000000 := by
      have h1 := (q0y _ s (Nat.le_refl _) hv).2
      have h2 : ∀ L : List Nat, (∀ r ∈ L, scal r) → (L.flatMap escR).length ≤ 5 * L.length := fun L => by
        induction L with
        | nil => intro _; simp
        | cons r L ih =>
          intro h
          have := ih fun x hx => h x (List.mem_cons_of_mem _ hx)
          have h3 := qbi (h r List.mem_cons_self)
          rw [List.flatMap_cons, List.length_append, List.length_cons]
          omega
      have h3 := h2 _ h1
      have h4 := qg2 _ s (Nat.le_refl _)
      omega
    obtain ⟨H4, hB4, hk4, k4⟩ := kWb hB3 (by simp only [List.length_append, List.length_cons, List.length_nil]; omega) 39
    obtain ⟨H5, k5⟩ := kStr hB4 (by simp) (by simp only [List.length_append, List.length_cons, List.length_nil]; omega)
    have e : [] ++ [39] ++ (rs s).flatMap escR ++ [39] = [39] ++ (rs s).flatMap escR ++ [39] := rfl
    rw [e] at k5
    have k1' : ∀ (R : Type) (k : AV → Heap → Option R), polK pWb [.ptr 0 0 0 0, .int .u8 39] [.row 0 2 37 [.agg [.nilp, .nils]]] k = k .nili H1 := k1
    have k4' : ∀ (R : Type) (k : AV → Heap → Option R), polK pWb [.ptr 0 0 0 0, .int .u8 39] H3 k = k .nili H4 := k4
    refine Evs.withL hL (Evs.of fun n m h1 _ => ?_)
    generalize ([39] ++ (rs s).flatMap escR ++ [39] : List UInt8) = T at *
    simp [↓q00, ↓q05, ↓q09, ↓q01, ↓q04, S11, q2z, hv, kp, k1', rangeK, h1, k4', k5]
  · rw [if_pos rfl]
    rw [hp] at kp
    exact Evs.of fun n m => by
      simp [↓q00, ↓q05, ↓q09, ↓q01, S11, q2z, hv, kp]
theorem kQuo {R : Type} {s : List UInt8} (h : q10 s) {H : Heap} {k : AV → Heap → Option R} : polK pQuo [.str s] H k = k (.str (quoS s)) H := by
  simp [pQuo, q0p, h]
end Go.Proofs.YtdkjednjlpcboaaDoor

/- Names as they are written: what is said of them. -/
set_option maxRecDepth 100000
set_option maxHeartbeats 8000000
namespace Go.Proofs.YtdkjednjlpcboaaDoor
open Go Go.Den Go.Lib
def lowC (c : Nat) : Prop := c < 32 ∨ c = 127
def qr (c : Nat) : List Nat :=
  if c = 39 ∨ c = 92 then [92, c] else if c = 10 then [92, 110] else if c < 32 ∨ c = 127 then 92 :: 120 :: ((fmtr.hexS c).map UInt8.toNat ++ [59]) else [c]
theorem q29 {c : Nat} (h : c < 128) : enc c = [UInt8.ofNat c] := q58 h
theorem hex_all : (127 :: List.range 32).all (fun c : Nat => (fmtr.hexS c).all fun b => decide (48 ≤ b.toNat) && decide (b.toNat < 127) && decide (b.toNat ≠ 59)) = true := by decide
theorem low_mem {c : Nat} (h : c < 32 ∨ c = 127) : c ∈ (127 :: List.range 32) := by
  rcases h with h | h
  · exact List.mem_cons_of_mem _ (List.mem_range.2 h)
  · rw [h]; exact List.mem_cons_self
theorem qhy {c : Nat} (h : c < 32 ∨ c = 127) : ∀ b ∈ fmtr.hexS c, 48 ≤ b.toNat ∧ b.toNat < 127 ∧ b.toNat ≠ 59 := fun b hb => by
  have := List.all_eq_true.1 (List.all_eq_true.1 hex_all c (low_mem h)) b hb
  simp only [Bool.and_eq_true, decide_eq_true_eq] at this
  exact ⟨this.1.1, this.1.2, this.2⟩
theorem q4m : ∀ l : List UInt8, (∀ b ∈ l, b.toNat < 128) → (l.map UInt8.toNat).flatMap enc = l
  | [], _ => rfl
  | b :: l, h => by
    rw [List.map_cons, List.flatMap_cons, q29 (h b List.mem_cons_self), q4m l fun x hx => h x (List.mem_cons_of_mem _ hx)]
    simp
theorem qj7 {c : Nat} : escR c = (qr c).flatMap enc := by
  unfold escR qr
  split
  · simp only [List.flatMap_cons, List.flatMap_nil, List.append_nil]
    rw [q29 (show 92 < 128 by omega)]
    rfl
  split
  · decide
  split
  · rename_i h
    have hx := qhy h
    rw [List.flatMap_cons, List.flatMap_cons, List.flatMap_append, q4m _ (fun b hb => by have := hx b hb; omega)]
    simp only [List.flatMap_cons, List.flatMap_nil, List.append_nil]
    rw [q29 (show 92 < 128 by omega), q29 (show 120 < 128 by omega), q29 (show 59 < 128 by omega)]
    simp
  · simp
theorem qr_ok {c : Nat} (hs : scal c) : ∀ x ∈ qr c, scal x ∧ 32 ≤ x ∧ x ≠ 127 := fun x hx => by
  have sm : ∀ y, y < 128 → scal y := fun y hy => .inl (by omega)
  unfold qr at hx
  split at hx
  · rename_i h
    simp only [List.mem_cons, List.not_mem_nil, or_false] at hx
    rcases hx with rfl | rfl
    · exact ⟨sm _ (by omega), by omega, by omega⟩
    · exact ⟨hs, by omega, by omega⟩
  split at hx
  · simp only [List.mem_cons, List.not_mem_nil, or_false] at hx
    rcases hx with rfl | rfl <;> exact ⟨sm _ (by omega), by omega, by omega⟩
  split at hx
  · rename_i h
    simp only [List.mem_cons, List.mem_append, List.not_mem_nil, or_false, List.mem_map] at hx
    rcases hx with rfl | rfl | ⟨b, hb, rfl⟩ | rfl
    · exact ⟨sm _ (by omega), by omega, by omega⟩
    · exact ⟨sm _ (by omega), by omega, by omega⟩
    · have := qhy h b hb
      exact ⟨sm _ (by omega), by omega, by omega⟩
    · exact ⟨sm _ (by omega), by omega, by omega⟩
  · rename_i h1 h2 h3
    simp only [List.mem_cons, List.not_mem_nil, or_false] at hx
    subst hx
    exact ⟨hs, by omega, by omega⟩
theorem qbz : ∀ (f : Bool) (l : List UInt8), plB f l = l.length → (∀ b ∈ l, goesZ (b.toNat : Int) = true) ∧ (f = true → ∀ b r, l = b :: r → firstZ (b.toNat : Int) = true)
  | _, [], _ => ⟨fun b hb => (by cases hb), fun _ b r h => (by cases h)⟩
  | f, b :: l, h => by
    unfold plB at h
    split at h
    · rename_i hb
      have h2 : plB false l = l.length := by
        simp only [List.length_cons] at h
        omega
      have hg : goesZ (b.toNat : Int) = true := by
        cases f
        · exact hb
        · exact q7z hb
      refine ⟨fun x hx => ?_, fun hf x r hx => ?_⟩
      · rcases List.mem_cons.1 hx with rfl | hx
        · exact hg
        · exact (qbz false l h2).1 x hx
      · injection hx with hx _
        subst hx hf
        exact hb
    · simp at h
theorem qbm {z : Int} (h : goesZ z = true) : 32 ≤ z ∧ z < 127 := by
  unfold goesZ firstZ at h
  simp only [Bool.or_eq_true, Bool.and_eq_true, decide_eq_true_eq] at h
  omega
theorem qd9 {a : List UInt8} (h : isPl a = true) : (∀ x ∈ rs a, 32 ≤ x ∧ x ≠ 127) ∧ ∀ r, a ≠ 39 :: r := by
  unfold isPl plN at h
  simp only [Bool.and_eq_true, decide_eq_true_eq] at h
  obtain ⟨h1, h2⟩ := qbz true a h.1
  have hsm : ∀ b ∈ a, b.toNat < 128 := fun b hb => by have := qbm (h1 b hb); omega
  have hr : rs a = a.map UInt8.toNat := by
    have := (q1m (a.map UInt8.toNat) fun r hr => by
      obtain ⟨b, hb, rfl⟩ := List.mem_map.1 hr
      have := hsm b hb
      exact .inl (by omega)).1
    rw [q4m a hsm] at this
    exact this
  refine ⟨fun x hx => ?_, fun r hr2 => ?_⟩
  · rw [hr] at hx
    obtain ⟨b, hb, rfl⟩ := List.mem_map.1 hx
    have := qbm (h1 b hb)
    omega
  · have := h2 rfl 39 r hr2
    cases this
/-! ### a written name -/
theorem quo_rs {a : List UInt8} (hv : validD a = true) : validD (quoS a) = true ∧ ∀ x ∈ rs (quoS a), 32 ≤ x ∧ x ≠ 127 := by
  unfold quoS
  rw [if_pos hv]
  cases hp : isPl a
  · rw [if_neg (by simp)]
    obtain ⟨-, hs⟩ := q0y _ a (Nat.le_refl _) hv
    have e : [39] ++ (rs a).flatMap escR ++ [39] = (39 :: ((rs a).flatMap qr ++ [39])).flatMap enc := by
      have : (rs a).flatMap escR = ((rs a).flatMap qr).flatMap enc := by
        rw [List.flatMap_assoc]
        congr 1
        exact funext fun c => qj7
      rw [List.flatMap_cons, List.flatMap_append, ← this]
      simp only [List.flatMap_cons, List.flatMap_nil, List.append_nil]
      rw [q29 (show 39 < 128 by omega)]
      simp
    have hall : ∀ x ∈ (39 :: ((rs a).flatMap qr ++ [39])), scal x ∧ 32 ≤ x ∧ x ≠ 127 := fun x hx => by
      simp only [List.mem_cons, List.mem_append, List.mem_flatMap, List.not_mem_nil, or_false] at hx
      rcases hx with rfl | ⟨c, hc, hx⟩ | rfl
      · exact ⟨.inl (by omega), by omega, by omega⟩
      · exact qr_ok (hs c hc) x hx
      · exact ⟨.inl (by omega), by omega, by omega⟩
    obtain ⟨h1, h2⟩ := q1m _ fun r hr => (hall r hr).1
    rw [e]
    exact ⟨h2, fun x hx => by rw [h1] at hx; exact (hall x hx).2⟩
  · rw [if_pos rfl]
    exact ⟨hv, (qd9 hp).1⟩
theorem esc_ge {c : Nat} : (enc c).length ≤ (escR c).length := by
  unfold escR
  split
  · simp
  split
  · rename_i h
    rw [h, q29 (by omega)]
    simp
  split
  · rename_i h
    rw [q29 (by omega)]
    simp
  · exact Nat.le_refl _
theorem qf1 : ∀ L : List Nat, (L.flatMap enc).length ≤ (L.flatMap escR).length
  | [] => by
    rw [List.flatMap_nil, List.flatMap_nil]
    exact Nat.zero_le _
  | c :: L => by
    rw [List.flatMap_cons, List.flatMap_cons, List.length_append, List.length_append]
    have := qf1 L
    have := esc_ge (c := c)
    omega
theorem quo_len {a : List UInt8} (hv : validD a = true) : (isPl a = true → quoS a = a) ∧ (isPl a = false → a.length + 2 ≤ (quoS a).length) := by
  unfold quoS
  rw [if_pos hv]
  refine ⟨fun h => by rw [if_pos h], fun h => ?_⟩
  rw [h, if_neg (by simp)]
  have h1 := (q0y _ a (Nat.le_refl _) hv).1
  have h2 := qf1 (rs a)
  rw [← h1] at h2
  simp only [List.length_append, List.length_cons, List.length_nil]
  omega
end Go.Proofs.YtdkjednjlpcboaaDoor

/- Texts: a reader of signs. -/
set_option maxRecDepth 100000
set_option maxHeartbeats 8000000
namespace Go.Proofs.YtdkjednjlpcboaaDoor
open Go Go.Den Go.Lib
structure Rdr (H : Heap) (b : Nat) (s : List UInt8) (p : Nat) (L : List Nat) : Prop where
  row : H[b]? = some (.row 0 2 58 [.agg [.str s, .int .i64 (p : Int)]])
  le : p ≤ s.length
  val : validD (s.drop p) = true
  sig : rs (s.drop p) = L
  len : s.length ≤ 1000000
theorem Rdr.end {H : Heap} {b : Nat} {s : List UInt8} {p : Nat} {L : List Nat} (h : Rdr H b s p L) : p = s.length - (L.flatMap enc).length := by
  have h1 := (q0y _ _ (Nat.le_refl _) h.val).1
  rw [h.sig] at h1
  have := congrArg List.length h1
  rw [List.length_drop] at this
  have := h.le
  omega
noncomputable abbrev TNx : List (FuncId × Pol) := [(33, pDec)]
noncomputable def pNx : Pol := .prim (runF base TNx 55)
theorem okNx : PolOK base 55 pNx := q3g base_ok TNx ⟨okDec, trivial⟩
def Keep2 (b : Nat) (H H' : Heap) : Prop := ∀ k, k ≠ b → H'[k]? = H[k]?
theorem qbr {H : Heap} {b : Nat} {s : List UInt8} {p : Nat} (h : Rdr H b s p []) : ∀ (R : Type) (k : AV → Heap → Option R), polK pNx [.ptr b 0 0 0] H k = k (.tup [.int .i32 0, .bool false]) H := by
  obtain ⟨hb, hle, hv, hs, hl⟩ := h
  have hd : s.drop p = [] := by
    rcases Nat.lt_or_ge p s.length with hp | hp
    · rw [q49 (q8w hp)] at hs
      cases hs
    · exact List.drop_of_length_le hp
  have hp : p = s.length := by
    have := congrArg List.length hd
    simp at this
    omega
  have n1 : A.nilCheck (.ptr b 0 0 0) H = some (.ptr b 0 0 0) := q0k hb
  have n2 : A.fa 1 (.ptr b 0 0 0) H = some (.ptr b 0 0 1) := q1e hb
  have n3 : A.load false 1 (.ptr b 0 0 1) H = some (.int .i64 (p : Int)) := q0v hb rfl rfl
  have n4 : A.fa 0 (.ptr b 0 0 0) H = some (.ptr b 0 0 0) := q1e hb
  have n5 : A.load false 1 (.ptr b 0 0 0) H = some (.str s) := q0v hb rfl rfl
  have n6 : A.lenStr (.str s) = some (.int .i64 (s.length : Int)) := rfl
  have c1 : (s.length : Int) ≤ (p : Int) := by omega
  have hr : runF base TNx 55 [.ptr b 0 0 0] H = some (.tup [.int .i32 0, .bool false], H) := q0r (Evs.of fun n m => by
    generalize (s.length : Int) = N at *
    generalize (p : Int) = P at *
    simp [↓q00, ↓q01, S55, n1, n2, n3, n4, n5, n6, c1])
  exact fun R k => q2o hr
theorem kNx {H : Heap} {b : Nat} {s : List UInt8} {p c : Nat} {L : List Nat} (h : Rdr H b s p (c :: L)) : ∃ (H' : Heap) (p' : Nat), Rdr H' b s p' L ∧ Keep2 b H H' ∧ scal c ∧ ∀ (R : Type) (k : AV → Heap → Option R), polK pNx [.ptr b 0 0 0] H k = k (.tup [.int .i32 (c : Int), .bool true]) H' := by
  obtain ⟨hb, hle, hv, hs, hl⟩ := h
  have hp : p < s.length := by
    rcases Nat.lt_or_ge p s.length with hp | hp
    · exact hp
    · rw [List.drop_of_length_le hp, qat] at hs
      cases hs
  have hne := q8w hp
  have hbl : b < H.length := (List.getElem?_eq_some_iff.1 hb).1
  have hv2 := hv
  rw [validD_step _ hne] at hv2
  by_cases hg : (decodeL (s.drop p)).1 = 65533 ∧ (decodeL (s.drop p)).2 = 1
  · rw [if_pos hg] at hv2; cases hv2
  rw [if_neg hg, List.drop_drop] at hv2
  obtain ⟨-, hsc, e3, e4⟩ := q65 hne hg
  rw [List.length_drop] at e3
  rw [q49 hne, List.drop_drop] at hs
  injection hs with hc hs
  have hd : decR (s.drop p) = decodeL (s.drop p) := by unfold decR; rw [if_neg hne]
  have kd : ∀ (R : Type) (k : AV → Heap → Option R), polQ pDec [.str (s.drop p)] H k = k (.tup [.int .i32 ((decR (s.drop p)).1 : Int), .int .i64 ((decR (s.drop p)).2 : Int)]) H := fun R k => by
    simp [pDec, qh9, hv]
  rw [hd] at kd
  generalize decodeL (s.drop p) = d at *
  subst hc
  have n1 : A.nilCheck (.ptr b 0 0 0) H = some (.ptr b 0 0 0) := q0k hb
  have n2 : A.fa 1 (.ptr b 0 0 0) H = some (.ptr b 0 0 1) := q1e hb
  have n3 : A.load false 1 (.ptr b 0 0 1) H = some (.int .i64 (p : Int)) := q0v hb rfl rfl
  have n4 : A.fa 0 (.ptr b 0 0 0) H = some (.ptr b 0 0 0) := q1e hb
  have n5 : A.load false 1 (.ptr b 0 0 0) H = some (.str s) := q0v hb rfl rfl
  have n6 : A.lenStr (.str s) = some (.int .i64 (s.length : Int)) := rfl
  have n7 : A.sliceStr (.str s) (some (.int .i64 (p : Int))) none = some (.str (s.drop p)) := q0w hle
  have n8 : A.store 1 (.ptr b 0 0 1) (.int .i64 ((p + d.2 : Nat) : Int)) H = some (H.set b (.row 0 2 58 [.agg [.str s, .int .i64 ((p + d.2 : Nat) : Int)]])) := q57 (j := 0) (off := 1) (cs := [.str s, .int .i64 (p : Int)]) (v := .int .i64 ((p + d.2 : Nat) : Int)) (w := .int .i64 (p : Int)) hb rfl rfl rfl
  have n9 : IntKind.wrap .i64 ((p : Int) + (d.2 : Int)) = ((p + d.2 : Nat) : Int) := by rw [q2h (by omega) (by omega)]; omega
  have c1 : ¬ (s.length : Int) ≤ (p : Int) := by omega
  have hr : runF base TNx 55 [.ptr b 0 0 0] H = some (.tup [.int .i32 (d.1 : Int), .bool true], H.set b (.row 0 2 58 [.agg [.str s, .int .i64 ((p + d.2 : Nat) : Int)]])) := q0r (Evs.of fun n m => by
    generalize ((p + d.2 : Nat) : Int) = Q at *
    generalize (s.length : Int) = N at *
    generalize (p : Int) = P at *
    simp [↓q00, ↓q01, ↓q0a, S55, n1, n2, n3, n4, n5, n6, c1, n7, kd, n9, n8])
  exact ⟨_, p + d.2, ⟨List.getElem?_set_self hbl, by omega, hv2, hs, hl⟩, fun k hk => List.getElem?_set_ne (fun e => hk e.symm), hsc, fun R k => q2o hr⟩
/-! ### a number by sixteens -/
def digN (c : Nat) : Int := if 48 ≤ c ∧ c ≤ 57 then (c : Int) - 48 else if 97 ≤ c ∧ c ≤ 102 then (c : Int) - 97 + 10 else if 65 ≤ c ∧ c ≤ 70 then (c : Int) - 65 + 10 else -1
theorem digN_lt (c : Nat) : -1 ≤ digN c ∧ digN c < 16 := by unfold digN; split <;> (try split) <;> (try split) <;> omega
noncomputable def pDig : Pol := .still (p1 (cI .i32) (.int .i32) (fun z => 0 ≤ z ∧ z < 1114112) fun z => digN z.toNat)
theorem okDig : PolOK base 71 pDig := still1 base_ok [] trivial fun z ⟨z0, z1⟩ => by
  have hw : ∀ x : Int, -100 ≤ x → x ≤ 100 → IntKind.wrap .i32 x = x := fun x h1 h2 => by
    simp [IntKind.wrap, IntKind.bits, IntKind.signed]
    omega
  by_cases h1 : 48 ≤ z ∧ z ≤ 57
  · have e : digN z.toNat = z - 48 := by unfold digN; rw [if_pos (by omega)]; omega
    rw [e]
    have w := hw (z - 48) (by omega) (by omega)
    exact Evs.of fun n m => by simp [↓q00, ↓q01, ↓q03, ↓q02, S71, A.asG, guardB, A.pick, h1.1, h1.2, w]
  by_cases h2 : 97 ≤ z ∧ z ≤ 102
  · have e : digN z.toNat = z - 97 + 10 := by unfold digN; rw [if_neg (by omega), if_pos (by omega)]; omega
    rw [e]
    have w1 := hw (z - 97) (by omega) (by omega)
    have w2 := hw (z - 97 + 10) (by omega) (by omega)
    have n1 : (48 : Int) ≤ z := by omega
    have n2 : ¬ z ≤ 57 := by omega
    exact Evs.of fun n m => by simp [↓q00, ↓q01, ↓q03, ↓q02, S71, A.asG, guardB, A.pick, n1, n2, h2.1, h2.2, w1, w2]
  by_cases h3 : 65 ≤ z ∧ z ≤ 70
  · have e : digN z.toNat = z - 65 + 10 := by unfold digN; rw [if_neg (by omega), if_neg (by omega), if_pos (by omega)]; omega
    rw [e]
    have w1 := hw (z - 65) (by omega) (by omega)
    have w2 := hw (z - 65 + 10) (by omega) (by omega)
    have n1 : (48 : Int) ≤ z := by omega
    have n2 : ¬ z ≤ 57 := by omega
    have n3 : ¬ 97 ≤ z := by omega
    exact Evs.of fun n m => by simp [↓q00, ↓q01, ↓q03, ↓q02, S71, A.asG, guardB, A.pick, n1, n2, n3, h3.1, h3.2, w1, w2]
  · have e : digN z.toNat = -1 := by unfold digN; rw [if_neg (by omega), if_neg (by omega), if_neg (by omega)]
    rw [e]
    rcases (show z < 48 ∨ (57 < z ∧ z < 65) ∨ (70 < z ∧ z < 97) ∨ 102 < z by omega) with c | c | c | c
    · have n1 : ¬ (48 : Int) ≤ z := by omega
      have n2 : ¬ (97 : Int) ≤ z := by omega
      have n3 : ¬ (65 : Int) ≤ z := by omega
      exact Evs.of fun n m => by simp [↓q00, ↓q01, ↓q03, ↓q02, S71, A.asG, guardB, A.pick, n1, n2, n3]
    · have n1 : (48 : Int) ≤ z := by omega
      have n4 : ¬ z ≤ 57 := by omega
      have n2 : ¬ (97 : Int) ≤ z := by omega
      have n3 : ¬ (65 : Int) ≤ z := by omega
      exact Evs.of fun n m => by simp [↓q00, ↓q01, ↓q03, ↓q02, S71, A.asG, guardB, A.pick, n1, n2, n3, n4]
    · have n1 : (48 : Int) ≤ z := by omega
      have n4 : ¬ z ≤ 57 := by omega
      have n2 : ¬ (97 : Int) ≤ z := by omega
      have n3 : (65 : Int) ≤ z := by omega
      have n5 : ¬ z ≤ 70 := by omega
      exact Evs.of fun n m => by simp [↓q00, ↓q01, ↓q03, ↓q02, S71, A.asG, guardB, A.pick, n1, n2, n3, n4, n5]
    · have n1 : (48 : Int) ≤ z := by omega
      have n4 : ¬ z ≤ 57 := by omega
      have n2 : (97 : Int) ≤ z := by omega
      have n6 : ¬ z ≤ 102 := by omega
      have n3 : (65 : Int) ≤ z := by omega
      have n5 : ¬ z ≤ 70 := by omega
      exact Evs.of fun n m => by simp [↓q00, ↓q01, ↓q03, ↓q02, S71, A.asG, guardB, A.pick, n1, n2, n3, n4, n5, n6]
theorem kDig {R : Type} {c : Nat} (h : c < 1114112) {H : Heap} {k : AV → Heap → Option R} : polK pDig [.int .i32 (c : Int)] H k = k (.int .i32 (digN c)) H := by
  have h1 : 0 ≤ (c : Int) ∧ (c : Int) < 1114112 := by omega
  simp [pDig, q0p, h1]
def scalB (n : Nat) : Bool := decide (n < 55296) || (decide (57344 ≤ n) && decide (n ≤ 1114111))
theorem q3j (n : Nat) : scalB n = true ↔ scal n := by unfold scalB scal; simp
noncomputable def pVr : Pol := .still (p1 (cI .i32) .bool (fun z => 0 ≤ z) fun z => scalB z.toNat)
theorem okVr : PolOK base 58 pVr := still1 base_ok [] trivial fun z z0 => by
  have z0 : (0 : Int) ≤ z := z0
  by_cases h1 : z < 55296
  · have e : scalB z.toNat = true := (q3j _).2 (by unfold scal; omega)
    rw [e]
    exact Evs.of fun n m => by simp [↓q00, ↓q01, ↓q03, ↓q02, S58, A.asG, guardB, A.pick, z0, h1]
  by_cases h2 : (57343 : Int) < z
  · by_cases h3 : z ≤ 1114111
    · have e : scalB z.toNat = true := (q3j _).2 (by unfold scal; omega)
      rw [e]
      exact Evs.of fun n m => by simp [↓q00, ↓q01, ↓q03, ↓q02, S58, A.asG, guardB, A.pick, z0, h1, h2, h3]
    · have e : scalB z.toNat = false := by
        cases hx : scalB z.toNat
        · rfl
        · have := (q3j _).1 hx
          unfold scal at this
          omega
      rw [e]
      exact Evs.of fun n m => by simp [↓q00, ↓q01, ↓q03, ↓q02, S58, A.asG, guardB, A.pick, z0, h1, h2, h3]
  · have e : scalB z.toNat = false := by
      cases hx : scalB z.toNat
      · rfl
      · have := (q3j _).1 hx
        unfold scal at this
        omega
    rw [e]
    exact Evs.of fun n m => by simp [↓q00, ↓q01, ↓q03, ↓q02, S58, A.asG, guardB, A.pick, z0, h1, h2]
theorem kVr {R : Type} {c : Nat} {H : Heap} {k : AV → Heap → Option R} : polK pVr [.int .i32 (c : Int)] H k = k (.bool (scalB c)) H := by
  have h1 : 0 ≤ (c : Int) := by omega
  simp [pVr, q0p, h1]
end Go.Proofs.YtdkjednjlpcboaaDoor

/- Texts: a written name is read. -/
set_option maxRecDepth 100000
set_option maxHeartbeats 8000000
namespace Go.Proofs.YtdkjednjlpcboaaDoor
open Go Go.Den Go.Lib
def numR : List Nat → Nat → Nat → Nat × Nat × List Nat
  | [], _, _ => (0, 2, [])
  | c :: L, i, n => if c = 59 ∧ 0 < i ∧ scalB n = true then (n, 0, L) else if digN c < 0 ∨ 6 ≤ i then (0, 4, L) else numR L (i + 1) (16 * n + (digN c).toNat)
def escU : List Nat → Nat × Nat × List Nat
  | [] => (0, 2, [])
  | c :: L => if c = 39 ∨ c = 92 then (c, 0, L) else if c = 110 then (10, 0, L) else if c = 120 then numR L 0 0 else (0, 4, L)
def sgnU (c : Nat) (L : List Nat) : Nat × Nat × List Nat := if c = 92 then escU L else if lowZ (c : Int) = true then (c, 4, L) else (c, 0, L)
def quoF : Nat → List Nat → List Nat → List Nat × Nat × List Nat
  | 0, _, _ => ([], 2, [])
  | _ + 1, _, [] => ([], 2, [])
  | n + 1, out, c :: L => if c = 39 then (out, 0, L) else if (sgnU c L).2.1 ≠ 0 then ([], (sgnU c L).2.1, (sgnU c L).2.2) else if 255 ≤ out.length then ([], 3, (sgnU c L).2.2) else quoF n (out ++ [(sgnU c L).1]) (sgnU c L).2.2
theorem qd2 : ∀ (L : List Nat) (i n : Nat), (numR L i n).2.2.length ≤ L.length
  | [], _, _ => Nat.le_refl _
  | c :: L, i, n => by
    unfold numR
    split
    · simp
    split
    · simp
    · have := qd2 L (i + 1) (16 * n + (digN c).toNat)
      simp only [List.length_cons]
      omega
theorem qgq (L : List Nat) : (escU L).2.2.length ≤ L.length := by
  cases L with
  | nil => exact Nat.le_refl _
  | cons c L =>
    rw [escU]
    split
    · simp
    split
    · simp
    split
    · have := qd2 L 0 0
      simp only [List.length_cons]
      omega
    · simp
theorem qdf (c : Nat) (L : List Nat) : (sgnU c L).2.2.length ≤ L.length := by
  unfold sgnU
  split
  · exact qgq L
  split <;> exact Nat.le_refl _
noncomputable abbrev TNu : List (FuncId × Pol) := [(55, pNx), (71, pDig), (58, pVr)]
theorem qd3 {b : Nat} {s : List UInt8} : ∀ (L : List Nat) (i n p : Nat) (H : Heap), Rdr H b s p L → i ≤ 6 → n < 16 ^ i →
    ∃ (H' : Heap) (p' : Nat), LDoes (qej (polT TNu)) ⟨[.ptr b 0 0 0, .int .i32 (n : Int), .int .i64 (i : Int)], []⟩ H 0 ⟨[.int .i32 ((numR L i n).1 : Int), .int .i64 ((numR L i n).2.1 : Int)], []⟩ H' ∧ Rdr H' b s p' (numR L i n).2.2 ∧ Keep2 b H H'
  | [], i, n, p, H, hR, hi, hn => by
    have k1 := qbr hR
    refine ⟨H, p, LDoes.step (Evs.of fun m m2 => ?_), hR, fun k _ => rfl⟩
    unfold numR
    simp [↓q00, ↓q01, q1l, k1]
  | c :: L, i, n, p, H, hR, hi, hn => by
    obtain ⟨H1, p1, hR1, hK1, hs, k1⟩ := kNx hR
    have hc : c < 1114112 := by unfold scal at hs; omega
    have kd : ∀ (R : Type) (H : Heap) (k : AV → Heap → Option R), polK pDig [.int .i32 (c : Int)] H k = k (.int .i32 (digN c)) H := fun R H k => kDig hc
    have hd := digN_lt c
    unfold numR
    by_cases h1 : c = 59 ∧ 0 < i ∧ scalB n = true
    · rw [if_pos h1]
      refine ⟨H1, p1, LDoes.step (Evs.of fun m m2 => ?_), hR1, hK1⟩
      have z1 : (c : Int) = 59 := by omega
      have z2 : (0 : Int) < (i : Int) := by omega
      generalize (i : Int) = I at *
      simp [↓q00, ↓q01, ↓q03, ↓q02, q1l, k1, z1, z2, kVr, h1.2.2, A.asG, guardB, A.pick]
    rw [if_neg h1]
    have fin : ∀ (hx : ∀ (m k : Nat), True), True := fun _ => trivial
    by_cases h2 : digN c < 0 ∨ 6 ≤ i
    · rw [if_pos h2]
      refine ⟨H1, p1, LDoes.step (Evs.of fun m m2 => ?_), hR1, hK1⟩
      by_cases a1 : c = 59
      · have z1 : (c : Int) = 59 := by omega
        have hdz : digN c = -1 := by rw [a1]; rfl
        rw [hdz, z1] at kd
        rw [z1] at k1
        by_cases a2 : 0 < i
        · have z2 : (0 : Int) < (i : Int) := by omega
          have z3 : scalB n = false := by
            cases hx : scalB n
            · rfl
            · exact absurd ⟨a1, a2, hx⟩ h1
          generalize (i : Int) = I at *
          simp [↓q00, ↓q01, ↓q03, ↓q02, q1l, k1, z2, kVr, z3, kd, A.asG, guardB, A.pick]
        · have z2 : ¬ (0 : Int) < (i : Int) := by omega
          generalize (i : Int) = I at *
          simp [↓q00, ↓q01, ↓q03, ↓q02, q1l, k1, z2, kd, A.asG, guardB, A.pick]
      · have z1 : ¬ (c : Int) = 59 := by omega
        by_cases a2 : digN c < 0
        · simp [↓q00, ↓q01, ↓q03, ↓q02, q1l, k1, z1, kd, a2, A.asG, guardB, A.pick]
        · have z2 : (6 : Int) ≤ (i : Int) := by omega
          generalize (i : Int) = I at *
          simp [↓q00, ↓q01, ↓q03, ↓q02, q1l, k1, z1, kd, a2, z2, A.asG, guardB, A.pick]
    · rw [if_neg h2]
      have a1 : ¬ c = 59 := fun e => h2 (.inl (by rw [e]; decide))
      have z1 : ¬ (c : Int) = 59 := by omega
      have z2 : ¬ digN c < 0 := fun h => h2 (.inl h)
      have z3 : ¬ (6 : Int) ≤ (i : Int) := by omega
      have hi5 : i ≤ 5 := by omega
      have hpow : 16 ^ i ≤ 16 ^ 5 := Nat.pow_le_pow_right (by omega) hi5
      have h165 : (16 : Nat) ^ 5 = 1048576 := by decide
      have hdn : ((digN c).toNat : Int) = digN c := by omega
      have hn2 : 16 * n + (digN c).toNat < 16 ^ (i + 1) := by
        rw [Nat.pow_succ]
        omega
      obtain ⟨H', p', hL, hR', hK'⟩ := qd3 L (i + 1) (16 * n + (digN c).toNat) p1 H1 hR1 (by omega) hn2
      refine ⟨H', p', LDoes.step (Evs.withL hL (Evs.of fun m k _ h3 => ?_)), hR', fun k hk => (hK' k hk).trans (hK1 k hk)⟩
      have s1 : ∀ H, A.bin base.P .shl 21 (.int .i32 (n : Int)) (.int .u64 4) true H = some (.int .i32 ((16 * n : Nat) : Int)) := fun H => by
        have := q4b (P := base.P) (t := 21) (j := .u64) (a := n) (s := 4) (c := true) (H := H) (by omega) (by omega)
        have e : n * 2 ^ 4 = 16 * n := by omega
        rw [e] at this
        exact this
      have s2 : ∀ H, A.bin base.P .or 21 (.int .i32 ((16 * n : Nat) : Int)) (.int .i32 (digN c)) false H = some (.int .i32 ((16 * n + (digN c).toNat : Nat) : Int)) := fun H => by
        rw [← hdn, q2v, q73 (s := 4) (by omega) (by omega) (by omega)]
        rw [show ((digN c).toNat : Int).toNat = (digN c).toNat by omega]
      have s3 : IntKind.wrap .i64 ((i : Int) + 1) = ((i + 1 : Nat) : Int) := by rw [q2h (by omega) (by omega)]; omega
      generalize ((16 * n + (digN c).toNat : Nat) : Int) = N2 at *
      generalize ((16 * n : Nat) : Int) = N1 at *
      generalize ((i + 1 : Nat) : Int) = I1 at *
      generalize (n : Int) = N at *
      generalize (i : Int) = I at *
      simp [↓q00, ↓q01, ↓q03, ↓q02, q1l, k1, z1, kd, z2, z3, s1, s2, s3, A.asG, guardB, A.pick, h3]
noncomputable def pNum : Pol := .prim (runF base TNu 65)
theorem okNum : PolOK base 65 pNum := q3g base_ok TNu ⟨okNx, okDig, okVr, trivial⟩
theorem kNum {H : Heap} {b : Nat} {s : List UInt8} {p : Nat} {L : List Nat} (h : Rdr H b s p L) : ∃ (H' : Heap) (p' : Nat), Rdr H' b s p' (numR L 0 0).2.2 ∧ Keep2 b H H' ∧ ∀ (R : Type) (k : AV → Heap → Option R), polK pNum [.ptr b 0 0 0] H k = k (.tup [.int .i32 ((numR L 0 0).1 : Int), .int .i64 ((numR L 0 0).2.1 : Int)]) H' := by
  obtain ⟨H', p', hL, hR, hK⟩ := qd3 L 0 0 p H h (by omega) (by simp)
  have hr : runF base TNu 65 [.ptr b 0 0 0] H = some (.tup [.int .i32 ((numR L 0 0).1 : Int), .int .i64 ((numR L 0 0).2.1 : Int)], H') := q0r (Evs.withL hL (Evs.of fun n m h1 _ => by
    have h1' : qej (polT TNu) n n ⟨[.ptr b 0 0 0, .int .i32 0, .int .i64 0], []⟩ H = some (0, ⟨[.int .i32 ((numR L 0 0).1 : Int), .int .i64 ((numR L 0 0).2.1 : Int)], []⟩, H') := h1
    generalize ((numR L 0 0).1 : Int) = X at *
    generalize ((numR L 0 0).2.1 : Int) = Y at *
    simp [↓q05, ↓q04, S65, h1']))
  exact ⟨H', p', hR, hK, fun R k => q2o hr⟩
noncomputable abbrev TEs : List (FuncId × Pol) := [(55, pNx), (65, pNum)]
noncomputable def pEsc : Pol := .prim (runF base TEs 56)
theorem okEsc : PolOK base 56 pEsc := q3g base_ok TEs ⟨okNx, okNum, trivial⟩
theorem kEsc {H : Heap} {b : Nat} {s : List UInt8} {p : Nat} {L : List Nat} (h : Rdr H b s p L) : ∃ (H' : Heap) (p' : Nat), Rdr H' b s p' (escU L).2.2 ∧ Keep2 b H H' ∧ ∀ (R : Type) (k : AV → Heap → Option R), polK pEsc [.ptr b 0 0 0] H k = k (.tup [.int .i32 ((escU L).1 : Int), .int .i64 ((escU L).2.1 : Int)]) H' := by
  cases L with
  | nil =>
    have k1 := qbr h
    have hr : runF base TEs 56 [.ptr b 0 0 0] H = some (.tup [.int .i32 ((escU []).1 : Int), .int .i64 ((escU []).2.1 : Int)], H) := q0r (Evs.of fun n m => by
      simp [↓q00, ↓q01, S56, k1, escU])
    exact ⟨H, p, h, fun k _ => rfl, fun R k => q2o hr⟩
  | cons c L =>
    obtain ⟨H1, p1, hR1, hK1, hs, k1⟩ := kNx h
    by_cases h1 : c = 39 ∨ c = 92
    · have he : escU (c :: L) = (c, 0, L) := by rw [escU, if_pos h1]
      rw [he]
      have hr : runF base TEs 56 [.ptr b 0 0 0] H = some (.tup [.int .i32 (c : Int), .int .i64 0], H1) := q0r (Evs.of fun n m => by
        rcases h1 with h1 | h1
        · have z : (c : Int) = 39 := by omega
          rw [z] at k1 ⊢
          simp [↓q00, ↓q01, ↓q03, ↓q02, S56, k1, A.asG, guardB, A.pick]
        · have z : (c : Int) = 92 := by omega
          rw [z] at k1 ⊢
          simp [↓q00, ↓q01, ↓q03, ↓q02, S56, k1, A.asG, guardB, A.pick])
      exact ⟨H1, p1, hR1, hK1, fun R k => q2o hr⟩
    have n39 : ¬ (c : Int) = 39 := by omega
    have n92 : ¬ (c : Int) = 92 := by omega
    by_cases h2 : c = 110
    · have he : escU (c :: L) = (10, 0, L) := by rw [escU, if_neg h1, if_pos h2]
      rw [he]
      have hr : runF base TEs 56 [.ptr b 0 0 0] H = some (.tup [.int .i32 10, .int .i64 0], H1) := q0r (Evs.of fun n m => by
        have z : (c : Int) = 110 := by omega
        rw [z] at k1
        simp [↓q00, ↓q01, ↓q03, ↓q02, S56, k1, A.asG, guardB, A.pick])
      exact ⟨H1, p1, hR1, hK1, fun R k => q2o hr⟩
    have n110 : ¬ (c : Int) = 110 := by omega
    by_cases h3 : c = 120
    · have he : escU (c :: L) = numR L 0 0 := by rw [escU, if_neg h1, if_neg h2, if_pos h3]
      rw [he]
      obtain ⟨H2, p2, hR2, hK2, k2⟩ := kNum hR1
      have hr : runF base TEs 56 [.ptr b 0 0 0] H = some (.tup [.int .i32 ((numR L 0 0).1 : Int), .int .i64 ((numR L 0 0).2.1 : Int)], H2) := q0r (Evs.of fun n m => by
        have z : (c : Int) = 120 := by omega
        rw [z] at k1
        generalize ((numR L 0 0).1 : Int) = X at *
        generalize ((numR L 0 0).2.1 : Int) = Y at *
        simp [↓q00, ↓q01, ↓q03, ↓q02, S56, k1, k2, A.asG, guardB, A.pick])
      exact ⟨H2, p2, hR2, fun k hk => (hK2 k hk).trans (hK1 k hk), fun R k => q2o hr⟩
    · have n120 : ¬ (c : Int) = 120 := by omega
      have he : escU (c :: L) = (0, 4, L) := by rw [escU, if_neg h1, if_neg h2, if_neg h3]
      rw [he]
      have hr : runF base TEs 56 [.ptr b 0 0 0] H = some (.tup [.int .i32 0, .int .i64 4], H1) := q0r (Evs.of fun n m => by
        simp [↓q00, ↓q01, ↓q03, ↓q02, S56, k1, n39, n92, n110, n120, A.asG, guardB, A.pick])
      exact ⟨H1, p1, hR1, hK1, fun R k => q2o hr⟩
end Go.Proofs.YtdkjednjlpcboaaDoor

/- Texts: a written name, sign by sign. -/
set_option maxRecDepth 100000
set_option maxHeartbeats 8000000
namespace Go.Proofs.YtdkjednjlpcboaaDoor
open Go Go.Den Go.Lib
theorem qfu {l : List Nat} {H : Heap} {v : AV} (h : Out er 1 21 H v l) (x : Nat) (hm : l.length ≤ 100000000) :
    ∃ (v' : AV) (H' : Heap), A.append 1 4 21 v [er x] (H ++ [.row 0 1 21 [er x]]) = some (v', H') ∧ Out er 1 21 H' v' (l ++ [x]) ∧ ∀ (k : Nat) (o : HObj), q32 o → H[k]? = some o → H'[k]? = some o := by
  have fr : ∀ k o, H[k]? = some o → (H ++ [HObj.row 0 1 21 [er x]])[k]? = some o := fun k o h => by
    rw [List.getElem?_append_left (List.getElem?_eq_some_iff.1 h).1]
    exact h
  rcases h with ⟨rfl, rfl⟩ | ⟨id, ver, h0, rfl, h2⟩
  · refine ⟨_, _, nil_append (news := [er x]) (by simp) (by omega) (by simp), .inr ⟨_, 0, by simp, by simp, q24⟩, fun k o _ h => ?_⟩
    rw [List.getElem?_append_left (List.getElem?_eq_some_iff.1 (fr k o h)).1]
    exact fr k o h
  · have h3 := q5m h2 [HObj.row 0 1 21 [er x]]
    refine ⟨_, _, q3r (news := [er x]) h3 (by simp) (by simp) (by omega) (by simp; omega), .inr ⟨id, ver + 1, by simp, by simp, ?_⟩, fun k o hno h => ?_⟩
    · rw [q7a h3]
      simp
    · rw [List.getElem?_set_ne (fun e => by
        subst e
        rw [h2] at h
        injection h with h
        exact hno _ _ _ h.symm)]
      exact fr k o h
theorem qan {l : List Nat} {H H' : Heap} {v : AV} {b w : Nat} {t : TypeId} {es : List AV} (h : Out er 1 21 H v l) (hb : H[b]? = some (.row w 2 t es)) (hk : Keep2 b H H') : Out er 1 21 H' v l := by
  rcases h with h | ⟨id, ver, h0, h1, h2⟩
  · exact .inl h
  · refine .inr ⟨id, ver, h0, h1, ?_⟩
    rw [hk id (fun e => by
      subst e
      rw [hb] at h2
      injection h2 with h2
      injection h2 with _ h2
      cases h2)]
    exact h2
theorem qh8 {H : Heap} {v : AV} {l : List Nat} (h : Out er 1 21 H v l) : A.len v H = some (.int .i64 (l.length : Int)) := by
  rcases h with ⟨rfl, rfl⟩ | ⟨id, ver, h0, rfl, h2⟩
  · rfl
  · simp [A.len, A.alive, h2]
theorem qfv {R : Type} {H : Heap} {v : AV} {L : List Nat} (h : Out er 1 21 H v L) {k : AV → Heap → Option R} : q0m base 54 9 v H k = k (.str (L.flatMap enc)) H := by
  have h1 : Go.Den.convert base 54 9 v = none := by
    unfold Go.Den.convert
    rw [qgb, q9t]
    rcases h with ⟨rfl, rfl⟩ | ⟨id, ver, h0, rfl, h2⟩ <;> rfl
  have hr : A.read 1 v H = some (L.map er) := by
    rcases h with ⟨rfl, rfl⟩ | ⟨id, ver, h0, rfl, h2⟩
    · rfl
    · exact q68 h2 (by simp)
  have h2 : convH base 54 9 v H = some (.str (L.flatMap enc)) := by
    unfold convH
    rw [qgb, q9t]
    dsimp only
    rw [ty_i32]
    dsimp only
    rw [hr]
    dsimp only
    rw [q8e]
    rw [Option.map_some, qcp]
  unfold q0m
  rw [h1, h2]
noncomputable abbrev TQd : List (FuncId × Pol) := [(55, pNx), (56, pEsc), (28, pLow)]
theorem qfo {es : List AV} {w : Nat} {t : TypeId} : q32 (.row w 2 t es) := fun w t es h => by cases h
theorem qd_loop {b : Nat} {s : List UInt8} : ∀ (N : Nat) (L out : List Nat) (p : Nat) (H : Heap) (v : AV), L.length < N → Rdr H b s p L → Out er 1 21 H v out → out.length ≤ 255 →
    ∃ (H' : Heap) (p' : Nat), LDoes (qdm (polT TQd)) ⟨[.ptr b 0 0 0, v], []⟩ H 0 ⟨[.str ((quoF N out L).1.flatMap enc), .int .i64 ((quoF N out L).2.1 : Int)], []⟩ H' ∧ Rdr H' b s p' (quoF N out L).2.2 := by
  intro N
  induction N with
  | zero => intro L out p H v hN; omega
  | succ N ih =>
    intro L out p H v hN hR hO hout
    cases L with
    | nil =>
      have k1 := qbr hR
      refine ⟨H, p, LDoes.step (Evs.of fun n m => ?_), hR⟩
      simp [↓q00, ↓q05, ↓q09, ↓q01, q2l, k1, quoF]
    | cons c L =>
      obtain ⟨H1, p1, hR1, hK1, hs, k1⟩ := kNx hR
      have hO1 := qan hO hR.row hK1
      by_cases h1 : c = 39
      · have he : quoF (N + 1) out (c :: L) = (out, 0, L) := by rw [quoF, if_pos h1]
        rw [he]
        have hc : ∀ (R : Type) (k : AV → Heap → Option R), q0m base 54 9 v H1 k = k (.str (out.flatMap enc)) H1 := fun R k => qfv hO1
        refine ⟨H1, p1, LDoes.step (Evs.of fun n m => ?_), hR1⟩
        have z : (c : Int) = 39 := by omega
        rw [z] at k1
        simp [↓q00, ↓q05, ↓q09, ↓q01, q2l, k1, hc]
      have n39 : ¬ (c : Int) = 39 := by omega
      -- the sign, whichever way it is written
      obtain ⟨H2, p2, hR2, hO2, hrun⟩ : ∃ (H2 : Heap) (p2 : Nat), Rdr H2 b s p2 (sgnU c L).2.2 ∧ Out er 1 21 H2 v out ∧ ∀ (n m : Nat) (r : Option (Nat × Live × Heap)),
          (A.test (.bool (!decide (((sgnU c L).2.1 : Int) = 0))) (some (0, ⟨[.str [], .int .i64 ((sgnU c L).2.1 : Int)], []⟩, H2)) (withV (A.len v H2) fun t36 => withV (A.bin base.P .geq 3 t36 (.int .i64 255) true H2) fun t37 => A.test t37 (some (0, ⟨[.str [], .int .i64 3], []⟩, H2))
            (withL (A.fillElems 1 (List.replicate 1 (.int .i32 0)) [(0, 1, .int .i32 ((sgnU c L).1 : Int))]) fun es => bindV (.sl H2.length 0 0 es.length es.length) fun t40 => bindH (H2 ++ [.row 0 1 21 es]) fun H8 => withL (newsZ base 1 4 (.int .i32 0) 54 t40 H8) fun es => withVH (A.append 1 4 21 v es H8) fun t41 H9 => qdm (polT TQd) n m ⟨[.ptr b 0 0 0, t41], []⟩ H9))) = r →
          qdm (polT TQd) n (m + 1) ⟨[.ptr b 0 0 0, v], []⟩ H = r := by
        by_cases h2 : c = 92
        · have hsg : sgnU c L = escU L := by unfold sgnU; rw [if_pos h2]
          rw [hsg]
          obtain ⟨H2, p2, hR2, hK2, k2⟩ := kEsc hR1
          refine ⟨H2, p2, hR2, qan hO1 hR1.row hK2, fun n m r hr => ?_⟩
          rw [← hr]
          have z : (c : Int) = 92 := by omega
          rw [z] at k1
          generalize ((escU L).1 : Int) = X at *
          generalize ((escU L).2.1 : Int) = Y at *
          simp [↓q00, ↓q05, ↓q09, ↓q01, ↓q04, q2l, k1, k2]
        · have n92 : ¬ (c : Int) = 92 := by omega
          cases h3 : lowZ (c : Int)
          · have hsg : sgnU c L = (c, 0, L) := by unfold sgnU; rw [if_neg h2, h3]; rfl
            rw [hsg]
            refine ⟨H1, p1, hR1, hO1, fun n m r hr => ?_⟩
            rw [← hr]
            simp [↓q00, ↓q05, ↓q09, ↓q01, ↓q04, q2l, k1, n39, n92, kLow, h3]
          · have hsg : sgnU c L = (c, 4, L) := by unfold sgnU; rw [if_neg h2, if_pos h3]
            rw [hsg]
            refine ⟨H1, p1, hR1, hO1, fun n m r hr => ?_⟩
            rw [← hr]
            simp [↓q00, ↓q05, ↓q09, ↓q01, ↓q04, q2l, k1, n39, n92, kLow, h3]
      have hln := qh8 hO2
      by_cases h2 : (sgnU c L).2.1 ≠ 0
      · have he : quoF (N + 1) out (c :: L) = ([], (sgnU c L).2.1, (sgnU c L).2.2) := by rw [quoF, if_neg h1, if_pos h2]
        rw [he]
        refine ⟨H2, p2, LDoes.step (Evs.of fun n m => hrun n m _ ?_), hR2⟩
        have z : ¬ ((sgnU c L).2.1 : Int) = 0 := by omega
        have hd : decide (((sgnU c L).2.1 : Int) = 0) = false := by simp only [decide_eq_false_iff_not]; exact z
        rw [hd]
        rfl
      have z : ((sgnU c L).2.1 : Int) = 0 := by omega
      have hd : decide (((sgnU c L).2.1 : Int) = 0) = true := by simp only [decide_eq_true_eq]; exact z
      by_cases h3 : 255 ≤ out.length
      · have he : quoF (N + 1) out (c :: L) = ([], 3, (sgnU c L).2.2) := by rw [quoF, if_neg h1, if_neg h2, if_pos h3]
        rw [he]
        refine ⟨H2, p2, LDoes.step (Evs.of fun n m => hrun n m _ ?_), hR2⟩
        have z3 : (255 : Int) ≤ (out.length : Int) := by omega
        rw [hd]
        generalize (out.length : Int) = OL at *
        simp [↓q00, hln, z3]
      · have he : quoF (N + 1) out (c :: L) = quoF N (out ++ [(sgnU c L).1]) (sgnU c L).2.2 := by rw [quoF, if_neg h1, if_neg h2, if_neg h3]
        rw [he]
        obtain ⟨v', H', ha, hO', hk'⟩ := qfu hO2 (sgnU c L).1 (by omega)
        have hR' : Rdr H' b s p2 (sgnU c L).2.2 := ⟨hk' b _ qfo hR2.row, hR2.le, hR2.val, hR2.sig, hR2.len⟩
        have hsl := qdf c L
        obtain ⟨H9, p9, hL, hR9⟩ := ih _ (out ++ [(sgnU c L).1]) p2 H' v' (by simp only [List.length_cons] at hN; omega) hR' hO' (by simp; omega)
        refine ⟨H9, p9, LDoes.step (Evs.withL hL (Evs.of fun n m _ h9 => hrun n m _ ?_)), hR9⟩
        have z3 : ¬ (255 : Int) ≤ (out.length : Int) := by omega
        have hfe : A.fillElems 1 [.int .i32 0] [(0, 1, .int .i32 ((sgnU c L).1 : Int))] = some [er (sgnU c L).1] := by simp [A.fillElems]
        have hrd : A.read 1 (.sl H2.length 0 0 1 1) (H2 ++ [HObj.row 0 1 21 [er (sgnU c L).1]]) = some [er (sgnU c L).1] := q68 q24 rfl
        rw [hd]
        generalize (out.length : Int) = OL at *
        generalize quoF N (out ++ [(sgnU c L).1]) (sgnU c L).2.2 = Q at *
        simp only [er] at ha hfe hrd
        generalize ((sgnU c L).1 : Int) = X at *
        simp [↓q00, hln, z3, hfe, q31 q9t, hrd, ha, h9]
noncomputable def pQd : Pol := .prim (runF base TQd 40)
theorem okQd : PolOK base 40 pQd := q3g base_ok TQd ⟨okNx, okEsc, okLow, trivial⟩
def quoU (L : List Nat) : List Nat × Nat × List Nat := quoF (L.length + 1) [] L
theorem kQd {H : Heap} {b : Nat} {s : List UInt8} {p : Nat} {L : List Nat} (h : Rdr H b s p L) : ∃ (H' : Heap) (p' : Nat), Rdr H' b s p' (quoU L).2.2 ∧ ∀ (R : Type) (k : AV → Heap → Option R), polK pQd [.ptr b 0 0 0] H k = k (.tup [.str ((quoU L).1.flatMap enc), .int .i64 ((quoU L).2.1 : Int)]) H' := by
  obtain ⟨H', p', hL, hR⟩ := qd_loop (L.length + 1) L [] p H .nils (by omega) h .nil (by simp)
  have hr : runF base TQd 40 [.ptr b 0 0 0] H = some (.tup [.str ((quoU L).1.flatMap enc), .int .i64 ((quoU L).2.1 : Int)], H') := q0r (Evs.withL hL (Evs.of fun n m h1 _ => by
    unfold quoU
    generalize (quoF (L.length + 1) [] L).1.flatMap enc = X at *
    generalize ((quoF (L.length + 1) [] L).2.1 : Int) = Y at *
    simp [↓q05, ↓q04, S40, h1]))
  exact ⟨H', p', hR, fun R k => q2o hr⟩
/-! ### a name at a text's beginning -/
noncomputable def pHp0 : Pol := .still (p2 cS cS .bool (fun _ _ => True) fun s t => decide (s.take t.length = t))
theorem okHp0 : PolOK base 54 pHp0 := still2 base_ok [] trivial fun s t _ => by
  have l1 : A.lenStr (.str s) = some (.int .i64 (s.length : Int)) := rfl
  have l2 : A.lenStr (.str t) = some (.int .i64 (t.length : Int)) := rfl
  have e1 : cS.enc s = .str s := rfl
  have e2 : cS.enc t = .str t := rfl
  rw [e1, e2]
  by_cases h : t.length ≤ s.length
  · have z : (t.length : Int) ≤ (s.length : Int) := by omega
    have hsl : A.sliceStr (.str s) none (some (.int .i64 (t.length : Int))) = some (.str (s.take t.length)) := by
      simp [A.sliceStr, A.bound, h]
    have heq : ∀ H, A.bin base.P .eql 9 (.str (s.take t.length)) (.str t) false H = some (.bool (decide (s.take t.length = t))) := fun H => by
      simp only [A.bin, A.binStr]
      congr 2
      by_cases h : s.take t.length = t <;> simp [h]
    generalize decide (s.take t.length = t) = D at *
    generalize s.take t.length = s2 at *
    generalize (t.length : Int) = M at *
    generalize (s.length : Int) = N at *
    exact Evs.of fun n m => by simp [↓q01, ↓q03, ↓q02, S54, l1, l2, z, hsl, heq, A.asG, guardB, A.pick]
  · have z : ¬ (t.length : Int) ≤ (s.length : Int) := by omega
    have hd : decide (s.take t.length = t) = false := by
      simp only [decide_eq_false_iff_not]
      intro e
      have := congrArg List.length e
      rw [List.length_take] at this
      omega
    rw [hd]
    generalize (t.length : Int) = M at *
    generalize (s.length : Int) = N at *
    exact Evs.of fun n m => by simp [↓q01, ↓q03, ↓q02, S54, l1, l2, z, A.asG, guardB, A.pick]
theorem kHp0 {R : Type} {s t : List UInt8} {H : Heap} {k : AV → Heap → Option R} : polK pHp0 [.str s, .str t] H k = k (.bool (decide (s.take t.length = t))) H := by
  simp [pHp0, q0p]
noncomputable def pHp : Pol := .still (p2 cS cS .bool (fun _ _ => True) fun s t => decide (s.take t.length = t))
theorem okHp : PolOK base 39 pHp := still2 base_ok [(54, pHp0)] ⟨okHp0, trivial⟩ fun s t _ => by
  have k1 : ∀ (R : Type) (H : Heap) (k : AV → Heap → Option R), polK pHp0 [.str s, .str t] H k = k (.bool (decide (s.take t.length = t))) H := fun R H k => kHp0
  have e1 : cS.enc s = .str s := rfl
  have e2 : cS.enc t = .str t := rfl
  rw [e1, e2]
  generalize decide (s.take t.length = t) = D at *
  exact Evs.of fun n m => by simp [S39, k1]
theorem kHp {R : Type} {s t : List UInt8} {H : Heap} {k : AV → Heap → Option R} : polK pHp [.str s, .str t] H k = k (.bool (decide (s.take t.length = t))) H := by
  simp [pHp, q0p]
def unqS (s : List UInt8) : List UInt8 × Nat × Nat :=
  if validD s = true then
    if s.take 1 = [39] then (if (quoU (rs (s.drop 1))).2.1 = 0 then ((quoU (rs (s.drop 1))).1.flatMap enc, s.length - ((quoU (rs (s.drop 1))).2.2.flatMap enc).length, 0) else ([], 0, (quoU (rs (s.drop 1))).2.1))
    else if plN s = 0 then ([], 0, 4) else if 255 < plN s then ([], 0, 3) else (s.take (plN s), plN s, 0)
  else ([], 0, 4)
noncomputable abbrev TUn : List (FuncId × Pol) := [(12, q3i), (39, pHp), (40, pQd), (31, pPln)]
noncomputable def pUnq : Pol := .still (p1 cS (fun r : List UInt8 × Nat × Nat => .tup [.str r.1, .int .i64 (r.2.1 : Int), .int .i64 (r.2.2 : Int)]) q10 unqS)
theorem okUnq : PolOK base 19 pUnq := still1 base_ok TUn ⟨qd5, okHp, okQd, okPln, trivial⟩ fun s hs => by
  have hs' : s.length ≤ 1000000 := hs
  have frz : ∀ (x : List UInt8) (a b : Int) (H : Heap), A.freezeB true 64 H (.tup [.str x, .int .i64 a, .int .i64 b]) = some (.tup [.str x, .int .i64 a, .int .i64 b]) := fun _ _ _ _ => rfl
  unfold unqS
  cases hv : validD s
  · rw [if_neg (by simp)]
    exact Evs.of fun n m => by
      simp [↓q00, ↓q05, ↓q09, ↓q01, S19, q2z, hv, frz]
  rw [if_pos rfl]
  have kh : ∀ (R : Type) (H : Heap) (k : AV → Heap → Option R), polK pHp [.str s, .str [39]] H k = k (.bool (decide (s.take 1 = [39]))) H := fun R H k => kHp
  by_cases h1 : s.take 1 = [39]
  · rw [if_pos h1]
    have hd : decide (s.take 1 = [39]) = true := by simp [h1]
    rw [hd] at kh
    have hl1 : 1 ≤ s.length := by
      have := congrArg List.length h1
      rw [List.length_take] at this
      simp at this
      omega
    have hv1 : validD (s.drop 1) = true := by
      have e : s = 39 :: s.drop 1 := by
        have := List.take_append_drop 1 s
        rw [h1] at this
        exact this.symm
      have hv2 := hv
      rw [e, validD_step _ (by simp), q6l (show (39 : UInt8).toNat < 128 by decide), if_neg (by decide)] at hv2
      exact hv2
    have hR0 : Rdr [.row 0 2 58 [.agg [.str s, .int .i64 ((1 : Nat) : Int)]]] 0 s 1 (rs (s.drop 1)) := ⟨rfl, hl1, hv1, rfl, hs'⟩
    obtain ⟨H', p', hR, kq⟩ := kQd hR0
    have hp' := hR.end
    have hfl : (A.fill [(AV.str []), (AV.int .i64 0)] [(0, 1, AV.str s), (1, 1, (AV.int .i64 1))]).map AV.agg = some (AV.agg [.str s, .int .i64 1]) := rfl
    have kq' : ∀ (R : Type) (k : AV → Heap → Option R), polK pQd [.ptr 0 0 0 0] [.row 0 2 58 [.agg [.str s, .int .i64 1]]] k = k (.tup [.str ((quoU (rs (s.drop 1))).1.flatMap enc), .int .i64 ((quoU (rs (s.drop 1))).2.1 : Int)]) H' := kq
    have n1 : A.nilCheck (.ptr 0 0 0 0) H' = some (.ptr 0 0 0 0) := q0k hR.row
    have n2 : A.fa 1 (.ptr 0 0 0 0) H' = some (.ptr 0 0 0 1) := q1e hR.row
    have n3 : A.load false 1 (.ptr 0 0 0 1) H' = some (.int .i64 (p' : Int)) := q0v hR.row rfl rfl
    by_cases h2 : (quoU (rs (s.drop 1))).2.1 = 0
    · rw [if_pos h2, ← hp']
      have z : ((quoU (rs (s.drop 1))).2.1 : Int) = 0 := by omega
      rw [z] at kq'
      generalize (quoU (rs (s.drop 1))).1.flatMap enc = X at *
      generalize (p' : Int) = P at *
      exact Evs.of fun n m => by
        simp [↓q00, ↓q05, ↓q09, ↓q01, ↓q1f, S19, q2z, hv, kh, hfl, kq', n1, n2, n3, frz]
    · rw [if_neg h2]
      have z : ¬ ((quoU (rs (s.drop 1))).2.1 : Int) = 0 := by omega
      generalize (quoU (rs (s.drop 1))).1.flatMap enc = X at *
      generalize ((quoU (rs (s.drop 1))).2.1 : Int) = Y at *
      exact Evs.of fun n m => by
        simp [↓q00, ↓q05, ↓q09, ↓q01, ↓q1f, S19, q2z, hv, kh, hfl, kq', z, frz]
  · rw [if_neg h1]
    have hd : decide (s.take 1 = [39]) = false := by simp only [decide_eq_false_iff_not]; exact h1
    rw [hd] at kh
    have kp : ∀ (R : Type) (H : Heap) (k : AV → Heap → Option R), polK pPln [.str s] H k = k (.tup [.int .i64 (plN s : Int), .int .i64 (plN s : Int)]) H := fun R H k => kPln hs
    by_cases h2 : plN s = 0
    · rw [if_pos h2]
      have z : (plN s : Int) = 0 := by omega
      rw [z] at kp
      exact Evs.of fun n m => by
        simp [↓q00, ↓q05, ↓q09, ↓q01, S19, q2z, hv, kh, kp, frz]
    rw [if_neg h2]
    have z : ¬ (plN s : Int) = 0 := by omega
    by_cases h3 : 255 < plN s
    · rw [if_pos h3]
      have z2 : (255 : Int) < (plN s : Int) := by omega
      generalize (plN s : Int) = P at *
      exact Evs.of fun n m => by
        simp [↓q00, ↓q05, ↓q09, ↓q01, S19, q2z, hv, kh, kp, z, z2, frz]
    · rw [if_neg h3]
      have z2 : ¬ (255 : Int) < (plN s : Int) := by omega
      have hle : plN s ≤ s.length := qj6 true s
      have hsl : A.sliceStr (.str s) none (some (.int .i64 (plN s : Int))) = some (.str (s.take (plN s))) := by
        simp [A.sliceStr, A.bound, hle]
      generalize s.take (plN s) = T at *
      generalize (plN s : Int) = P at *
      exact Evs.of fun n m => by
        simp [↓q00, ↓q05, ↓q09, ↓q01, S19, q2z, hv, kh, kp, z, z2, hsl, frz]
theorem kUnq {R : Type} {s : List UInt8} (h : q10 s) {H : Heap} {k : AV → Heap → Option R} : polK pUnq [.str s] H k = k (.tup [.str (unqS s).1, .int .i64 ((unqS s).2.1 : Int), .int .i64 ((unqS s).2.2 : Int)]) H := by
  simp [pUnq, q0p, h]
end Go.Proofs.YtdkjednjlpcboaaDoor

/- How many signs a text has, by the reference. -/
set_option maxRecDepth 100000
set_option maxHeartbeats 8000000
namespace Go.Proofs.YtdkjednjlpcboaaDoor
open Go Go.Den Go.Lib
theorem qds {pol : FuncId → Pol} {l : List UInt8} {id : Nat} : ∀ (N pos : Nat) (c : Int) (H : Heap), l.length - pos ≤ N → H[id]? = some (.iter l pos) → 0 ≤ c → c + N ≤ 9223372036854775807 →
    ∃ H', LDoes (qgf pol) ⟨[.int .i64 c, .it id], []⟩ H 0 ⟨[.int .i64 (c + (rs (l.drop pos)).length)], []⟩ H' := by
  intro N
  induction N with
  | zero =>
    intro pos c H hN hH h0 h1
    have hp : ¬ pos < l.length := by omega
    have hd : l.drop pos = [] := List.drop_of_length_le (by omega)
    rw [hd]
    refine ⟨H, LDoes.step (Evs.of fun n m => ?_)⟩
    simp [↓q00, ↓q01, q52, nextK, hH, hp, qat]
  | succ N ih =>
    intro pos c H hN hH h0 h1
    by_cases hp : pos < l.length
    · have hne := q8w hp
      have hw := decodeL_width (l.drop pos)
      have hid : id < H.length := (List.getElem?_eq_some_iff.1 hH).1
      obtain ⟨H', hL⟩ := ih (pos + (decodeL (l.drop pos)).2) (c + 1) (H.set id (.iter l (pos + (decodeL (l.drop pos)).2))) (by omega) (List.getElem?_set_self hid) (by omega) (by omega)
      have hc : IntKind.wrap .i64 (c + 1) = c + 1 := q2h (by omega) (by omega)
      have e : c + ((rs (l.drop pos)).length : Int) = c + 1 + ((rs (l.drop (pos + (decodeL (l.drop pos)).2))).length : Int) := by
        rw [q49 hne, List.drop_drop, List.length_cons]
        omega
      rw [e]
      have hdd := q8v l pos
      generalize decodeL (l.drop pos) = d at *
      refine ⟨H', LDoes.step (Evs.withL hL (Evs.of fun n m _ h2 => ?_))⟩
      simp [↓q00, ↓q01, q52, nextK, hH, hp, hdd, hc, h2]
    · have hd : l.drop pos = [] := List.drop_of_length_le (by omega)
      rw [hd]
      refine ⟨H, LDoes.step (Evs.of fun n m => ?_)⟩
      simp [↓q00, ↓q01, q52, nextK, hH, hp, qat]
def notbig (s : List UInt8) : Prop := s.length ≤ 9223372036854775807
noncomputable def q75 : Pol := .still (p1 cS (.int .i64) notbig countR)
theorem qh4 : PolOK base 18 q75 := still1 base_ok [(10, q3h)] ⟨qd4, trivial⟩ fun s hs => by
  unfold notbig at hs
  obtain ⟨H', hL⟩ := qds (pol := polT [(10, q3h)]) (l := s) (id := 0) s.length 0 0 [.iter s 0] (by omega) rfl (by omega) (by omega)
  refine Evs.withL hL (Evs.of fun n m h1 _ => ?_)
  simp only [Int.zero_add, List.drop_zero] at h1
  unfold countR
  generalize ((rs s).length : Int) = N at *
  cases h : validD s <;> simp [↓q00, ↓q05, ↓q01, ↓q04, S18, q44, h, rangeK, h1]
theorem kRcount {R : Type} {s : List UInt8} (h : notbig s) {H : Heap} {k : AV → Heap → Option R} : polK q75 [.str s] H k = k (.int .i64 (countR s)) H := by
  simp [q75, q0p, h]
end Go.Proofs.YtdkjednjlpcboaaDoor

/- The seat's first question: by computation. -/
set_option maxRecDepth 100000
namespace Go.Proofs.YtdkjednjlpcboaaDoor.awaker
open Go Go.Den
def q47 : List FuncId := [9, 11, 12, 13, 17, 24, 25, 26, 27, 28, 29, 30, 31, 38, 44, 45, 46, 47, 48, 49, 60, 61, 62, 63, 64, 66, 67, 68, 69, 70, 72, 73]
noncomputable def env0 : Env := { P := Tryd.prog, pol := fun f => bif Nat.beq f 59 then .prim sameF else .plain, ann := fun _ => {}, glob := fun g => bif Nat.beq g 0 then flatD (H := Unit) Rows.laid_unicode_utf8_first else bif Nat.beq g 1 then flatD (H := Unit) Rows.laid_unicode_utf8_acceptRanges else bif Nat.beq g 2 then flatD (H := Unit) Rows.laid_internal_strconv_uint64pow10 else bif Nat.beq g 3 then flatD (H := Unit) Rows.laid_math_bits_deBruijn32tab else bif Nat.beq g 4 then flatD (H := Unit) Rows.laid_math_bits_deBruijn64tab else none }
def q3k : List (Nat × List (Nat × Nat × Nat)) := []
def q4f : List (Nat × List (Nat × Nat × Nat)) → Nat → List (Nat × Nat × Nat)
  | [], _ => []
  | (g, l) :: r, f => bif Nat.beq g f then l else q4f r f
def annsIn (f : Nat) : Ann :=  .nil
noncomputable def tab (f : FuncId) : FAnn :=
  match Tryd.prog.funcs[f]? with
  | some fn => { ann := annsIn f, depth := Nat.log2 fn.ntmps + 1, sites := q4f q3k f, draws := qfi env0 (q4f q3k f) fn }
  | none => {}
noncomputable def env : Env := { env0 with ann := fun f => if f ∈ q47 then tab f else {} }
theorem qey : EnvOK env := envOK q47 (by kernel_rfl) (fun f hf => by show (if f ∈ q47 then tab f else {}).draws = []; rw [if_neg hf]) (by kernel_rfl)
theorem q9k : ∀ f, env.pol f = .plain ∨ ∃ F, env.pol f = .prim F ∧ PrimOK env f F := fun f => by
  cases h59 : Nat.beq f 59
  case true =>
    obtain rfl := Nat.eq_of_beq_eq_true h59
    exact .inr ⟨sameF, rfl, qaw (fn := Tryd.f59) Tryd.func59 (by kernel_rfl) (by kernel_rfl) (by kernel_rfl) (by kernel_rfl)⟩
  case false =>
    refine .inl ?_
    show (bif Nat.beq f 59 then Pol.prim sameF else Pol.plain) = _
    simp only [h59, cond_false]
theorem calls_ok (n : Nat) : CallOK env (callF env n) := q6f qey (by kernel_rfl) q9k n
def q9l : Option AV → Bool
  | some (.bool true) => true
  | _ => false
theorem qg3 {x : Option AV} (h : q9l x = true) : x = some (.bool true) := by
  unfold q9l at h
  split at h
  · rfl
  · cases h
theorem known : callF env 300 AV 9 [] [] (fun v G => A.freezeB true 64 G v) = some (.bool true) := qg3 (by kernel_rfl)
end Go.Proofs.YtdkjednjlpcboaaDoor.awaker
namespace Go.Proofs.YtdkjednjlpcboaaDoor
open Go Go.Den
noncomputable def q5k : Pol := .still (Cd.f0 (.bool true))
theorem qh3 : PolOK base 9 q5k := q77 (E := base) (E' := awaker.env) rfl rfl awaker.calls_ok fun xs v h => by
  unfold Cd.f0 at h
  split at h
  · cases h
    exact ⟨300, awaker.known⟩
  · cases h
theorem q5c {R : Type} {H : Heap} {k : AV → Heap → Option R} : polK q5k [] H k = k (.bool true) H := by
  unfold q5k
  rw [q0p (by simp)]
  rfl
end Go.Proofs.YtdkjednjlpcboaaDoor

/- The law on which of two texts is less, and on texts turned round: what its function answers. -/
set_option maxRecDepth 100000
set_option maxHeartbeats 8000000
namespace Go.Proofs.YtdkjednjlpcboaaDoor
open Go Go.Den Go.Lib
noncomputable abbrev TLo : List (FuncId × Pol) := [(9, q5k), (14, pLess), (15, pRless), (12, q3i), (16, pRev), (17, pCount)]
end Go.Proofs.YtdkjednjlpcboaaDoor

/- The law on two texts, one behind the other: what its function answers. -/
set_option maxRecDepth 100000
set_option maxHeartbeats 8000000
namespace Go.Proofs.YtdkjednjlpcboaaDoor
open Go Go.Den Go.Lib
theorem qae {a b : List UInt8} (ha : validD a = true) (hb : validD b = true) : validD (a ++ b) = true ∧ rs (a ++ b) = rs a ++ rs b := by
  obtain ⟨fa, sa⟩ := q0y _ a (Nat.le_refl _) ha
  obtain ⟨fb, sb⟩ := q0y _ b (Nat.le_refl _) hb
  have e : a ++ b = (rs a ++ rs b).flatMap enc := by
    rw [List.flatMap_append, ← fa, ← fb]
  have := q1m (rs a ++ rs b) fun r hr => by
    rcases List.mem_append.1 hr with h | h
    · exact sa r h
    · exact sb r h
  rw [← e] at this
  exact ⟨this.2, this.1⟩
noncomputable abbrev TLj : List (FuncId × Pol) := [(9, q5k), (10, q3h), (12, q3i), (17, pCount), (16, pRev), (14, pLess)]
end Go.Proofs.YtdkjednjlpcboaaDoor

/- The law on names that are read as they were written: what its function answers. -/
set_option maxRecDepth 100000
set_option maxHeartbeats 16000000
namespace Go.Proofs.YtdkjednjlpcboaaDoor
open Go Go.Den Go.Lib
/-! ### sign by sign -/
theorem qgu : (List.range 16).all (fun d : Nat => decide ((fmtr.hexD d).toNat ≠ 59) && decide (digN (fmtr.hexD d).toNat = (d : Int))) = true := by decide
theorem qgv {d : Nat} (h : d < 16) : (fmtr.hexD d).toNat ≠ 59 ∧ digN (fmtr.hexD d).toNat = (d : Int) := by
  have := List.all_eq_true.1 qgu d (List.mem_range.2 h)
  simp only [Bool.and_eq_true, decide_eq_true_eq] at this
  exact this
theorem q9e {d i n : Nat} (hd : d < 16) (hi : i < 6) (L : List Nat) : numR ((fmtr.hexD d).toNat :: L) i n = numR L (i + 1) (16 * n + d) := by
  obtain ⟨h1, h2⟩ := qgv hd
  rw [numR, if_neg (fun h => h1 h.1), h2, if_neg (by omega)]
  rfl
theorem qd1 {i n : Nat} (hi : 0 < i) (hs : scal n) (L : List Nat) : numR (59 :: L) i n = (n, 0, L) := by
  rw [numR, if_pos ⟨rfl, hi, (q3j n).2 hs⟩]
theorem qh2 {c : Nat} (h : c < 32 ∨ c = 127) (X : List Nat) : numR ((fmtr.hexS c).map UInt8.toNat ++ 59 :: X) 0 0 = (c, 0, X) := by
  have hs : scal c := .inl (by omega)
  unfold fmtr.hexS
  by_cases h1 : c < 16
  · rw [if_pos h1, List.map_cons, List.map_nil, List.cons_append, List.nil_append, q9e h1 (by omega)]
    have e : 16 * 0 + c = c := by omega
    rw [e, qd1 (by omega) hs]
  · rw [if_neg h1, List.map_cons, List.map_cons, List.map_nil, List.cons_append, List.cons_append, List.nil_append, q9e (d := c / 16) (by omega) (by omega), q9e (d := c % 16) (by omega) (by omega)]
    have e : 16 * (16 * 0 + c / 16) + c % 16 = c := by omega
    rw [e, qd1 (by omega) hs]
theorem qhf {c : Nat} (X : List Nat) : ∃ d L, qr c ++ X = d :: L ∧ d ≠ 39 ∧ sgnU d L = (c, 0, X) := by
  unfold qr
  by_cases h1 : c = 39 ∨ c = 92
  · rw [if_pos h1]
    refine ⟨92, c :: X, rfl, by omega, ?_⟩
    unfold sgnU
    rw [if_pos rfl, escU, if_pos h1]
  rw [if_neg h1]
  by_cases h2 : c = 10
  · rw [if_pos h2]
    refine ⟨92, 110 :: X, rfl, by omega, ?_⟩
    unfold sgnU
    rw [if_pos rfl, escU, if_neg (by omega), if_pos rfl, h2]
  rw [if_neg h2]
  by_cases h3 : c < 32 ∨ c = 127
  · rw [if_pos h3]
    refine ⟨92, 120 :: ((fmtr.hexS c).map UInt8.toNat ++ 59 :: X), by simp, by omega, ?_⟩
    unfold sgnU
    rw [if_pos rfl, escU, if_neg (by omega), if_neg (by omega), if_pos rfl, qh2 h3]
  · rw [if_neg h3]
    refine ⟨c, X, rfl, by omega, ?_⟩
    unfold sgnU
    have hl : lowZ (c : Int) = false := by
      unfold lowZ
      simp only [Bool.or_eq_false_iff, decide_eq_false_iff_not]
      omega
    rw [if_neg (by omega), hl]
    rfl
theorem qdb : ∀ (L out : List Nat) (N : Nat) (R : List Nat), (L.flatMap qr ++ 39 :: R).length < N → out.length + L.length ≤ 255 → quoF N out (L.flatMap qr ++ 39 :: R) = (out ++ L, 0, R)
  | [], out, N, R, hN, _ => by
    cases N with
    | zero => omega
    | succ N =>
      rw [List.flatMap_nil, List.nil_append, quoF, if_pos rfl, List.append_nil]
  | c :: L, out, N, R, hN, hl => by
    cases N with
    | zero => omega
    | succ N =>
      rw [List.flatMap_cons, List.append_assoc] at hN ⊢
      obtain ⟨d, M, h1, h2, h3⟩ := qhf (c := c) (L.flatMap qr ++ 39 :: R)
      have hlen := qdf d M
      rw [h3] at hlen
      rw [h1] at hN ⊢
      simp only [List.length_cons] at hN hl hlen
      rw [quoF, if_neg h2, h3, if_neg (by simp), if_neg (by omega)]
      have := qdb L (out ++ [c]) N R (by omega) (by simp only [List.length_append, List.length_cons, List.length_nil]; omega)
      rw [this]
      simp
theorem qd8 : ∀ (f : Bool) (s r : List UInt8), plB f s = s.length → plB f (s ++ 124 :: r) = s.length
  | f, [], r, _ => by
    cases f <;> rfl
  | f, b :: s, r, h => by
    unfold plB at h
    rw [List.cons_append]
    unfold plB
    split at h
    · rename_i hb
      rw [if_pos hb, qd8 false s r (by simp only [List.length_cons] at h; omega)]
      simp only [List.length_cons]
      omega
    · simp at h
theorem qhn {s more : List UInt8} (hs : validD s = true) (hm : validD more = true) (hc : (rs s).length ≤ 255) : unqS (quoS s ++ [124] ++ more) = (s, (quoS s).length, 0) := by
  have hv1 : validD [124] = true := (q1m [124] fun r hr => by
    rw [List.mem_singleton] at hr
    rw [hr]
    exact .inl (by omega)).2
  obtain ⟨hvq, -⟩ := quo_rs hs
  have hvt : validD (quoS s ++ [124] ++ more) = true := (qae (qae hvq hv1).1 hm).1
  obtain ⟨fs, ss⟩ := q0y _ s (Nat.le_refl _) hs
  obtain ⟨fm, sm⟩ := q0y _ more (Nat.le_refl _) hm
  unfold unqS
  rw [if_pos hvt]
  cases hp : isPl s
  · -- between quotes
    have hq : quoS s = [39] ++ (rs s).flatMap escR ++ [39] := by
      unfold quoS
      rw [if_pos hs, hp, if_neg (by simp)]
    have htk : (quoS s ++ [124] ++ more).take 1 = [39] := by rw [hq]; rfl
    rw [if_pos htk]
    have hdr : (quoS s ++ [124] ++ more).drop 1 = ((rs s).flatMap qr ++ 39 :: (124 :: rs more)).flatMap enc := by
      have e1 : (rs s).flatMap escR = ((rs s).flatMap qr).flatMap enc := by
        rw [List.flatMap_assoc]
        congr 1
        exact funext fun c => qj7
      rw [hq, List.flatMap_append, ← e1, List.flatMap_cons, List.flatMap_cons, ← fm, q29 (show 39 < 128 by omega), q29 (show 124 < 128 by omega)]
      simp
    have hall : ∀ r ∈ (rs s).flatMap qr ++ 39 :: (124 :: rs more), scal r := fun r hr => by
      simp only [List.mem_append, List.mem_cons, List.mem_flatMap] at hr
      rcases hr with ⟨c, hc, hr⟩ | rfl | rfl | hr
      · exact (qr_ok (ss c hc) r hr).1
      · exact .inl (by omega)
      · exact .inl (by omega)
      · exact sm r hr
    have hq2 : quoU (rs ((quoS s ++ [124] ++ more).drop 1)) = (rs s, 0, 124 :: rs more) := by
      rw [hdr, (q1m _ hall).1]
      unfold quoU
      rw [qdb _ _ _ _ (by omega) (by simpa using hc), List.nil_append]
    rw [hq2, if_pos rfl]
    have e2 : (124 :: rs more).flatMap enc = [124] ++ more := by
      rw [List.flatMap_cons, ← fm, q29 (show 124 < 128 by omega)]
      rfl
    show ((rs s).flatMap enc, (quoS s ++ [124] ++ more).length - ((124 :: rs more).flatMap enc).length, 0) = _
    rw [← fs, e2]
    congr 2
    simp only [List.length_append]
    omega
  · have hq : quoS s = s := (quo_len hs).1 hp
    rw [hq]
    have hp2 := hp
    unfold isPl at hp2
    simp only [Bool.and_eq_true, decide_eq_true_eq] at hp2
    obtain ⟨hn, hpos⟩ := hp2
    have hpl : plN (s ++ [124] ++ more) = s.length := by
      have := qd8 true s more hn
      rw [List.append_assoc]
      exact this
    have hne := (qd9 hp).2
    have htk : ¬ (s ++ [124] ++ more).take 1 = [39] := fun h => by
      cases s with
      | nil => simp at hn hpos; omega
      | cons b r =>
        have : b = 39 := by
          simp at h
          exact h
        exact hne r (by rw [this])
    rw [if_neg htk, hpl, if_neg (by omega)]
    have hlen : s.length ≤ 255 := by
      obtain ⟨g1, -⟩ := qbz true s hn
      have hr : rs s = s.map UInt8.toNat := by
        have hsm : ∀ b ∈ s, b.toNat < 128 := fun b hb => by have := qbm (g1 b hb); omega
        have := (q1m (s.map UInt8.toNat) fun r hr => by
          obtain ⟨b, hb, rfl⟩ := List.mem_map.1 hr
          have := hsm b hb
          exact .inl (by omega)).1
        rw [q4m s hsm] at this
        exact this
      rw [hr, List.length_map] at hc
      exact hc
    rw [if_neg (by omega), List.append_assoc, List.take_left]
noncomputable abbrev TLb : List (FuncId × Pol) := [(9, q5k), (10, q3h), (18, q75), (11, pQuo), (19, pUnq)]
theorem okTLb : TabOK base TLb := ⟨qh3, qd4, qh4, okQuo, okUnq, trivial⟩
theorem qgy (s more : List UInt8) (hbig : notbig s) : Evs fun n _ => callF (base.with (polT TLb)) (n + 1) AV 6 [.str s, .str more] [] (fun v _ => some v) = some (.bool true) := by
  cases hs : validD s
  · exact Evs.of fun n m => by simp [↓q00, ↓q01, ↓q03, ↓q02, S6, q5c, q44, hs, A.asG, guardB, A.pick]
  have kc : ∀ (R : Type) (H : Heap) (k : AV → Heap → Option R), polK q75 [.str s] H k = k (.int .i64 (countR s)) H := fun R H k => kRcount hbig
  have hcr : countR s = ((rs s).length : Int) := by unfold countR; rw [if_pos hs]
  rw [hcr] at kc
  by_cases h1 : (255 : Int) < ((rs s).length : Int)
  · generalize ((rs s).length : Int) = C at *
    exact Evs.of fun n m => by simp [↓q00, ↓q01, ↓q03, ↓q02, S6, q5c, q44, hs, kc, h1, A.asG, guardB, A.pick]
  have ls : A.lenStr (.str s) = some (.int .i64 (s.length : Int)) := rfl
  have lm : A.lenStr (.str more) = some (.int .i64 (more.length : Int)) := rfl
  by_cases h2 : (2000 : Int) < (s.length : Int)
  · generalize ((rs s).length : Int) = C at *
    generalize (s.length : Int) = N at *
    exact Evs.of fun n m => by simp [↓q00, ↓q01, ↓q03, ↓q02, S6, q5c, q44, hs, kc, h1, ls, h2, A.asG, guardB, A.pick]
  by_cases h3 : (100 : Int) < (more.length : Int)
  · generalize ((rs s).length : Int) = C at *
    generalize (s.length : Int) = N at *
    generalize (more.length : Int) = M at *
    exact Evs.of fun n m => by simp [↓q00, ↓q01, ↓q03, ↓q02, S6, q5c, q44, hs, kc, h1, ls, h2, lm, h3, A.asG, guardB, A.pick]
  cases hm : validD more
  · generalize ((rs s).length : Int) = C at *
    generalize (s.length : Int) = N at *
    generalize (more.length : Int) = M at *
    exact Evs.of fun n m => by simp [↓q00, ↓q01, ↓q03, ↓q02, S6, q5c, q44, hs, hm, kc, h1, ls, h2, lm, h3, A.asG, guardB, A.pick]
  have ns : q10 s := by unfold q10; omega
  have kq : ∀ (R : Type) (H : Heap) (k : AV → Heap → Option R), polK pQuo [.str s] H k = k (.str (quoS s)) H := fun R H k => kQuo ns
  have hql : (quoS s).length ≤ 5 * s.length + 2 := by
    unfold quoS
    rw [if_pos hs]
    split
    · omega
    · have g := (q0y _ s (Nat.le_refl _) hs).2
      have h4 : ∀ L : List Nat, (∀ r ∈ L, scal r) → (L.flatMap escR).length ≤ 5 * L.length := fun L => by
        induction L with
        | nil => intro _; simp
        | cons r L ih =>
          intro h
          have := ih fun x hx => h x (List.mem_cons_of_mem _ hx)
          have h3 := qbi (h r List.mem_cons_self)
          rw [List.flatMap_cons, List.length_append, List.length_cons]
          omega
      have h5 := h4 _ g
      have h6 := qg2 _ s (Nat.le_refl _)
      simp only [List.length_append, List.length_cons, List.length_nil]
      omega
  have a1 : ∀ H, A.bin base.P .add 9 (.str (quoS s)) (.str [124]) true H = some (.str (quoS s ++ [124])) := fun H => by
    simp only [A.bin, A.binStr]
    rw [if_pos (by simp only [List.length_cons, List.length_nil]; omega)]
  have a2 : ∀ H, A.bin base.P .add 9 (.str (quoS s ++ [124])) (.str more) false H = some (.str (quoS s ++ [124] ++ more)) := fun H => by
    simp only [A.bin, A.binStr]
    rw [if_pos (by simp only [List.length_append, List.length_cons, List.length_nil]; omega)]
  have ku : ∀ (R : Type) (H : Heap) (k : AV → Heap → Option R), polK pUnq [.str (quoS s ++ [124] ++ more)] H k = k (.tup [.str s, .int .i64 ((quoS s).length : Int), .int .i64 0]) H := fun R H k => by
    rw [kUnq (by unfold q10; simp only [List.length_append, List.length_cons, List.length_nil]; omega), qhn hs hm (by omega)]
    rfl
  have e1 : ∀ H, A.bin base.P .eql 9 (.str s) (.str s) false H = some (.bool true) := fun H => by
    show A.binStr .eql s s = _
    simp [A.binStr]
  have lq : A.lenStr (.str (quoS s)) = some (.int .i64 ((quoS s).length : Int)) := rfl
  clear hql
  generalize quoS s ++ [124] ++ more = t2 at *
  generalize quoS s ++ [124] = t1 at *
  generalize ((quoS s).length : Int) = Q at *
  generalize quoS s = q at *
  generalize ((rs s).length : Int) = C at *
  generalize (s.length : Int) = N at *
  generalize (more.length : Int) = M at *
  exact Evs.of fun n m => by simp [↓q00, ↓q01, ↓q03, ↓q02, S6, q5c, q44, hs, hm, kc, h1, ls, h2, lm, h3, A.asG, guardB, A.pick, kq, a1, a2, ku, e1, lq]
end Go.Proofs.YtdkjednjlpcboaaDoor
