/- Texts put together: Mb3E, Mb4, Mb5, Awake5, Lw5a, Lw5b. -/
import Derived.Test.YtleikacgncpfbaaDoorMg
import Derived.Test.YtleikacgncpfbaaDoorRows

/- Terms, the reference: may one be, but for how many parts it has: the rest. -/
set_option maxRecDepth 100000
set_option maxHeartbeats 8000000
namespace Go.Proofs.YtleikacgncpfbaaDoor
open Go Go.Den
theorem rmay_E (n : Nat) (t : Tm) (hs : t.size ≤ n + 1) (ht : tame t) (hkd : t.kind ≠ 0 ∧ t.kind ≠ 1 ∧ t.kind ≠ 2 ∧ t.kind ≠ 3 ∧ t.kind ≠ 4 ∧ t.kind ≠ 5 ∧ t.kind ≠ 6) : Evs fun n' _ => callF (base.with (polT (TRm n))) (n' + 1) AV 57 [cT.enc t] [] (fun v G => A.freezeB true 64 G v) = some (.bool (mayT countV t)) := by
  have hB : Go.Den.Box [.row 0 7 26 [eT t]] 0 7 26 (eT t).cells := box_eT t _ 0 rfl
  have p := fun o => hB.fa (o := o)
  have q := fun o => hB.load (o := o)
  rw [cells_eT] at q
  have q0 := q 0
  have q1 := q 1
  have q2 := q 2
  have q3 := q 3
  have q4 := q 4
  have q5 := q 5
  have q6 := q 6
  simp only [List.getElem?_cons_succ, List.getElem?_cons_zero] at q0 q1 q2 q3 q4 q5 q6
  have hcl : (eT t).cells.length = 7 := by rw [cells_eT]; rfl
  have hl5 : A.len (eL 7 eT t.l) [.row 0 7 26 [eT t]] = some (.int .i64 ((t.kids.length : Nat) : Int)) := len_eL
  have hl2 : A.len (eD t.d) [.row 0 7 26 [eT t]] = some (.int .i64 ((t.d.getD []).length : Int)) := len_eL
  have hl6 : A.len (eL 1 eb t.b) [.row 0 7 26 [eT t]] = some (.int .i64 ((t.b.getD []).length : Int)) := len_eL
  have hsn := fun H => str_nil_neq (t := 9) (c := true) (H := H) t.name
  have hs0 := fun H => str_nil_neq (t := 9) (c := true) (H := H) []
  have hfew : few t.d := (tame_eq.1 ht).1.1
  have hnl : notlong t.name := (tame_eq.1 ht).1.2.1
  have hnm : ∀ (R : Type) (H : Heap) (k : AV → Heap → Option R), polK pRnorm [.agg [.bool t.neg, eD t.d]] H k = k (eN (rnormS (t.neg, t.d))) H := fun R H k => kRnorm (a := (t.neg, t.d)) hfew
  have hsm : ∀ (R : Type) (H : Heap) (k : AV → Heap → Option R), polK pSame [.agg [.bool t.neg, eD t.d], eN (rnormS (t.neg, t.d))] H k = k (.bool (sameS (t.neg, t.d) (rnormS (t.neg, t.d)))) H := fun R H k => kSame (a := (t.neg, t.d)) hfew (few_rnorm hfew)
  have hfill : A.fill [.bool false, .nils] [(0, 1, .bool t.neg), (1, 1, eD t.d)] = some [.bool t.neg, eD t.d] := by simp [A.fill, A.splice]
  have hva : ∀ (R : Type) (H : Heap) (k : AV → Heap → Option R), polK pRvalid [.str t.name] H k = k (.bool (validV t.name)) H := fun R H k => kRvalid
  have hco : ∀ (R : Type) (H : Heap) (k : AV → Heap → Option R), polK pRcount [.str t.name] H k = k (.int .i64 (countV t.name)) H := fun R H k => kRcount hnl
  have hcv := countV_valid (s := t.name)
  have hL := rmay_loop hs ht hB t.kids.length 0 (by omega)
  rw [List.drop_zero] at hL
  have hrest : ∀ kd, t.kind = kd → (kd = 4 ∨ kd = 6) → ((partsO t).getD []).all (mayT countV) = t.kids.all (mayT countV) := fun kd e hkd => by
    unfold partsO
    rw [if_pos (by rw [e]; exact hkd)]
    rfl
  have hrest0 : t.kind ≠ 4 → t.kind ≠ 6 → ((partsO t).getD []).all (mayT countV) = true := fun e1 e2 => by
    unfold partsO
    rw [if_neg (by omega)]
    rfl
  rw [mayT_eq]
  unfold oneS spareS
  rw [← same_plain]
  generalize sameS (t.neg, t.d) (rnormS (t.neg, t.d)) = sn at *
  generalize rnormS (t.neg, t.d) = rn at *
  generalize ((partsO t).getD []).all (mayT countV) = rest at *
  generalize t.kids.all (mayT countV) = kall at *
  generalize countV t.name = cn at *
  generalize validV t.name = vn at *
  generalize t.kids.length = nl at *
  generalize (t.d.getD []).length = nd at *
  generalize (t.b.getD []).length = nb at *
  generalize t.kind = kd at *
  generalize t.neg = ng at *
  generalize t.n = nn at *
  generalize eL 7 eT t.l = vl at *
  generalize eD t.d = vd at *
  generalize eL 1 eb t.b = vb at *
  clear q
  have e64 : decide ((nd : Int) ≤ 64) = decide (nd ≤ 64) := decide_eq_decide.2 (by omega)
  have e4096 : decide ((nb : Int) ≤ 4096) = decide (nb ≤ 4096) := decide_eq_decide.2 (by omega)
  have c0 : ¬ kd = 0 := by omega
  have c1 : ¬ kd = 1 := by omega
  have c2 : ¬ kd = 2 := by omega
  have c3 : ¬ kd = 3 := by omega
  have c4 : ¬ kd = 4 := by omega
  have c5 : ¬ kd = 5 := by omega
  have c6 : ¬ kd = 6 := by omega
  by_cases c7 : kd = 7
  case pos =>
    by_cases a1 : ng = true
    case pos =>
      exact Evs.of fun n m => by simp [-len_eL, -cells_eT, S57, hcl, p, q0, q1, q2, q3, q6, hl2, hl6, c7, a1]
    by_cases a2 : nd = 0
    case neg =>
      have a2p : 0 < nd := by omega
      exact Evs.of fun n m => by simp [-len_eL, -cells_eT, S57, hcl, p, q0, q1, q2, q3, q6, hl2, hl6, c7, a1, a2, a2p]
    by_cases a5 : t.name = []
    case neg =>
      exact Evs.of fun n m => by simp [-len_eL, -cells_eT, S57, hcl, p, q0, q1, q2, q3, q6, hl2, hl6, hsn, c7, a1, a2, a5]
    by_cases a3 : nn = 0
    case neg =>
      exact Evs.of fun n m => by simp [-len_eL, -cells_eT, S57, hcl, p, q0, q1, q2, q3, q4, q6, hl2, hl6, hs0, c7, a1, a2, a5, a3]
    by_cases a4 : nl = 0
    case neg =>
      have a4p : 0 < nl := by omega
      exact Evs.of fun n m => by simp [-len_eL, -cells_eT, S57, hcl, p, q0, q1, q2, q3, q4, q5, q6, hl5, hl2, hl6, hs0, c7, a1, a2, a5, a3, a4, a4p]
    have hr := hrest0 (by omega) (by omega)
    exact Evs.of fun n m => by simp [-len_eL, -cells_eT, S57, hcl, p, q0, q1, q2, q3, q4, q5, q6, hl5, hl2, hl6, hs0, c7, a1, a2, a5, a3, a4, e4096, hr]
  by_cases a1 : ng = true
  case pos =>
    exact Evs.of fun n m => by simp [-len_eL, -cells_eT, S57, hcl, p, q0, q1, q2, q3, q6, hl2, hl6, c0, c1, c2, c3, c4, c5, c6, c7, a1]
  by_cases a2 : nd = 0
  case neg =>
    have a2p : 0 < nd := by omega
    exact Evs.of fun n m => by simp [-len_eL, -cells_eT, S57, hcl, p, q0, q1, q2, q3, q6, hl2, hl6, c0, c1, c2, c3, c4, c5, c6, c7, a1, a2, a2p]
  by_cases a5 : t.name = []
  case neg =>
    exact Evs.of fun n m => by simp [-len_eL, -cells_eT, S57, hcl, p, q0, q1, q2, q3, q6, hl2, hl6, hsn, c0, c1, c2, c3, c4, c5, c6, c7, a1, a2, a5]
  by_cases a3 : nn = 0
  case neg =>
    exact Evs.of fun n m => by simp [-len_eL, -cells_eT, S57, hcl, p, q0, q1, q2, q3, q4, q6, hl2, hl6, hs0, c0, c1, c2, c3, c4, c5, c6, c7, a1, a2, a5, a3]
  by_cases a4 : nl = 0
  case neg =>
    have a4p : 0 < nl := by omega
    exact Evs.of fun n m => by simp [-len_eL, -cells_eT, S57, hcl, p, q0, q1, q2, q3, q4, q5, q6, hl5, hl2, hl6, hs0, c0, c1, c2, c3, c4, c5, c6, c7, a1, a2, a5, a3, a4, a4p]
  by_cases a6 : nb = 0
  case neg =>
    have a6p : 0 < nb := by omega
    exact Evs.of fun n m => by simp [-len_eL, -cells_eT, S57, hcl, p, q0, q1, q2, q3, q4, q5, q6, hl5, hl2, hl6, hs0, c0, c1, c2, c3, c4, c5, c6, c7, a1, a2, a5, a3, a4, a6, a6p]
  exact Evs.of fun n m => by simp [-len_eL, -cells_eT, S57, hcl, p, q0, q1, q2, q3, q4, q5, q6, hl5, hl2, hl6, hs0, c0, c1, c2, c3, c4, c5, c6, c7, a1, a2, a5, a3, a4, a6]
end Go.Proofs.YtleikacgncpfbaaDoor

/- Terms, the reference: may one be, but for how many parts it has; and all of it. -/
set_option maxRecDepth 100000
namespace Go.Proofs.YtleikacgncpfbaaDoor
open Go Go.Den
theorem okRmay : ∀ n, PolOK base 57 (pRmay n)
  | 0 => still1 base_ok [] trivial fun t ⟨hs, _⟩ => by
    have := t.size_eq
    omega
  | n + 1 => still1 base_ok (TRm n) ⟨okRmay n, okRnorm, okSame, okRvalid, okRcount, trivial⟩ fun t ⟨hs, ht⟩ => by
    by_cases a : t.kind = 0 ∨ t.kind = 1
    · exact rmay_A n t hs ht a
    by_cases b : t.kind = 2 ∨ t.kind = 3
    · exact rmay_B n t hs ht b
    by_cases c : t.kind = 4 ∨ t.kind = 5
    · exact rmay_C n t hs ht c
    by_cases d : t.kind = 6
    · exact rmay_D n t hs ht d
    · exact rmay_E n t hs ht (by omega)
noncomputable def pRMay (n : Nat) : Pol := .still (p1 cT .bool (fun t => t.size ≤ n ∧ tame t) mayS)
theorem okRMay (n : Nat) : PolOK base 18 (pRMay n) := still1 base_ok [(20, pRtree n), (57, pRmay n)] ⟨okRtree n, okRmay n, trivial⟩ fun t ⟨hs, ht⟩ => by
  have hcl : (eT t).cells.length = 7 := by rw [cells_eT]; rfl
  have hof : A.ofList true 7 (eT t).cells 0 = some (eT t) := load_eT (H := [])
  have h1 : ∀ (R : Type) (H : Heap) (k : AV → Heap → Option R), polK (pRtree n) [eT t] H k = k (.int .i64 ((min (szT t) 65537 : Nat) : Int)) H := fun R H k => kRtree hs (tame_thin t ht)
  have h2 : ∀ (R : Type) (H : Heap) (k : AV → Heap → Option R), polK (pRmay n) [eT t] H k = k (.bool (mayT countV t)) H := fun R H k => kRmay hs ht
  unfold mayS
  by_cases hc : szT t ≤ 65536
  · have hc' : ((min (szT t) 65537 : Nat) : Int) ≤ 65536 := by omega
    generalize ((min (szT t) 65537 : Nat) : Int) = N at *
    refine Evs.of fun n m => ?_
    simp [↓bindC_eq, ↓withV_of, ↓withP_some, ↓withB_some, ↓chkD_true, -cells_eT, S18, hcl, hof, h1, h2, hc, hc']
  · have hc' : ¬ ((min (szT t) 65537 : Nat) : Int) ≤ 65536 := by omega
    generalize ((min (szT t) 65537 : Nat) : Int) = N at *
    refine Evs.of fun n m => ?_
    simp [↓bindC_eq, ↓withV_of, ↓withP_some, ↓withB_some, ↓chkD_true, -cells_eT, S18, hcl, hof, h1, hc, hc']
end Go.Proofs.YtleikacgncpfbaaDoor

/- Terms: what is known of them, of any size; what is handed in. -/
set_option maxRecDepth 100000
set_option maxHeartbeats 4000000
namespace Go.Proofs.YtleikacgncpfbaaDoor
open Go Go.Den
noncomputable def pRoomA : Pol := .still (p3 cT (cI .i64) (cI .i64) .bool (fun _ dep most => -1 ≤ dep ∧ dep ≤ 1000 ∧ most ≤ 1000) roomS)
theorem okRoomA : PolOK base 16 pRoomA := still_join (F := fun n => p3 cT (cI .i64) (cI .i64) .bool (fun t dep most => t.size ≤ n ∧ -1 ≤ dep ∧ dep ≤ 1000 ∧ most ≤ 1000) roomS) okRoom fun zs v h => by
  match zs, h with
  | [a, b, c], h =>
    simp only [p3_app, Option.bind_eq_some_iff] at h ⊢
    obtain ⟨t, ht, d, hd, m, hm, h⟩ := h
    split at h
    · rename_i hc
      exact ⟨t.size, t, ht, d, hd, m, hm, by rw [if_pos ⟨Nat.le_refl _, hc⟩]; exact h⟩
    · cases h
theorem kRoomA {R : Type} {t : Tm} {dep most : Int} (h0 : -1 ≤ dep) (h1 : dep ≤ 1000) (h2 : most ≤ 1000) {H : Heap} {k : AV → Heap → Option R} : polK pRoomA [eT t, .int .i64 dep, .int .i64 most] H k = k (.bool (roomS t dep most)) H := by
  simp [pRoomA, polK_imm, h0, h1, h2]
noncomputable def pRtreeA : Pol := .still (p1 cT (fun n : Nat => .int .i64 (n : Int)) (fun t => t.thin 1000) (fun t => min (szT t) 65537))
theorem okRtreeA : PolOK base 20 pRtreeA := still_join (F := fun n => p1 cT (fun n : Nat => .int .i64 (n : Int)) (fun t => t.size ≤ n ∧ t.thin 1000) (fun t => min (szT t) 65537)) okRtree fun zs v h => by
  match zs, h with
  | [a], h =>
    simp only [p1_app, Option.bind_eq_some_iff] at h ⊢
    obtain ⟨t, ht, h⟩ := h
    split at h
    · rename_i hc
      exact ⟨t.size, t, ht, by rw [if_pos ⟨Nat.le_refl _, hc⟩]; exact h⟩
    · cases h
theorem kRtreeA {R : Type} {t : Tm} (h : t.thin 1000) {H : Heap} {k : AV → Heap → Option R} : polK pRtreeA [eT t] H k = k (.int .i64 ((min (szT t) 65537 : Nat) : Int)) H := by
  simp [pRtreeA, polK_imm, h]
noncomputable def pRwordsA : Pol := .still (p1 cT (fun n : Nat => .int .i64 (n : Int)) fineW wT)
theorem okRwordsA : PolOK base 22 pRwordsA := still_join (F := fun n => p1 cT (fun n : Nat => .int .i64 (n : Int)) (fun t => t.size ≤ n ∧ fineW t) wT) okRwords fun zs v h => by
  match zs, h with
  | [a], h =>
    simp only [p1_app, Option.bind_eq_some_iff] at h ⊢
    obtain ⟨t, ht, h⟩ := h
    split at h
    · rename_i hc
      exact ⟨t.size, t, ht, by rw [if_pos ⟨Nat.le_refl _, hc⟩]; exact h⟩
    · cases h
theorem kRwordsA {R : Type} {t : Tm} (h : fineW t) {H : Heap} {k : AV → Heap → Option R} : polK pRwordsA [eT t] H k = k (.int .i64 (wT t : Nat)) H := by
  simp [pRwordsA, polK_imm, h]
noncomputable def pRMayA : Pol := .still (p1 cT .bool tame mayS)
theorem okRMayA : PolOK base 18 pRMayA := still_join (F := fun n => p1 cT .bool (fun t => t.size ≤ n ∧ tame t) mayS) okRMay fun zs v h => by
  match zs, h with
  | [a], h =>
    simp only [p1_app, Option.bind_eq_some_iff] at h ⊢
    obtain ⟨t, ht, h⟩ := h
    split at h
    · rename_i hc
      exact ⟨t.size, t, ht, by rw [if_pos ⟨Nat.le_refl _, hc⟩]; exact h⟩
    · cases h
theorem kRMayA {R : Type} {t : Tm} (h : tame t) {H : Heap} {k : AV → Heap → Option R} : polK pRMayA [eT t] H k = k (.bool (mayS t)) H := by
  simp [pRMayA, polK_imm, h]
theorem qRMayA {R : Type} {t : Tm} (h : tame t) {H : Heap} {k : AV → Heap → Option R} : polQ pRMayA [eT t] H k = k (.bool (mayS t)) H := by
  simp [pRMayA, polQ_imm, h]
theorem qMay {R : Type} {t : Tm} (h : tame t) {H : Heap} {k : AV → Heap → Option R} : polQ pMay [eT t] H k = k (.bool (mayS t)) H := by
  simp [pMay, polQ_imm, h]
/-! ### what is handed in -/
theorem ty_u32s {n : Nat} {y : AV} (hy : Ty Tryd.prog n 22 y) : ∃ d : Option (List UInt32), y = eD d := by
  obtain ⟨l, hl, hb, -⟩ := hy.ints (k := .u32) (e := 59) (by kernel_rfl) (by kernel_rfl) (by kernel_rfl)
  have hll : l.map (AV.int .u32) = (l.map fun i => UInt32.ofNat i.toNat).map eu := by
    rw [List.map_map]
    refine List.map_congr_left fun i hi => ?_
    have := hb i hi
    have h5 : (0 : Int) ≤ i ∧ i ≤ 4294967295 := this
    show AV.int .u32 i = AV.int .u32 ((UInt32.ofNat i.toNat).toNat : Int)
    rw [limb_of, Nat.mod_eq_of_lt (by omega)]
    congr 1
    omega
  rw [hll] at hl
  generalize hm : (l.map fun i => UInt32.ofNat i.toNat).map eu = es at hl
  cases hl with
  | nil => exact ⟨none, rfl⟩
  | sh _ =>
    subst hm
    exact ⟨some (l.map fun i => UInt32.ofNat i.toNat), rfl⟩
theorem ty_u8s {n : Nat} {y : AV} (hy : Ty Tryd.prog n 24 y) : ∃ d : Option (List UInt8), y = eL 1 eb d := by
  obtain ⟨l, hl, hb, -⟩ := hy.ints (k := .u8) (e := 5) (by kernel_rfl) (by kernel_rfl) (by kernel_rfl)
  have hll : l.map (AV.int .u8) = (l.map fun i => UInt8.ofNat i.toNat).map eb := by
    rw [List.map_map]
    refine List.map_congr_left fun i hi => ?_
    have := hb i hi
    have h5 : (0 : Int) ≤ i ∧ i ≤ 255 := this
    show AV.int .u8 i = AV.int .u8 ((UInt8.ofNat i.toNat).toNat : Int)
    rw [UInt8.toNat_ofNat']
    congr 1
    omega
  rw [hll] at hl
  generalize hm : (l.map fun i => UInt8.ofNat i.toNat).map eb = es at hl
  cases hl with
  | nil => exact ⟨none, rfl⟩
  | sh _ =>
    subst hm
    exact ⟨some (l.map fun i => UInt8.ofNat i.toNat), rfl⟩
theorem ty_tm : ∀ (n : Nat) (v : AV), Ty Tryd.prog n 26 v → ∃ t : Tm, v = eT t
  | 0, _, h => by cases h
  | 1, v, h => by
    obtain ⟨m, vs, hm, h1, h2, h3⟩ := h.struct (fs := #[{ name := "Kind", type := 3, offset := 0, embedded := false, tag := "", pkgPath := "", byteOffset := 0 }, { name := "Neg", type := 4, offset := 1, embedded := false, tag := "", pkgPath := "", byteOffset := 8 }, { name := "D", type := 22, offset := 2, embedded := false, tag := "", pkgPath := "", byteOffset := 16 }, { name := "Name", type := 9, offset := 3, embedded := false, tag := "", pkgPath := "", byteOffset := 40 }, { name := "N", type := 3, offset := 4, embedded := false, tag := "", pkgPath := "", byteOffset := 56 }, { name := "L", type := 23, offset := 5, embedded := false, tag := "", pkgPath := "", byteOffset := 64 }, { name := "B", type := 24, offset := 6, embedded := false, tag := "", pkgPath := "", byteOffset := 88 }]) (by kernel_rfl)
    match vs, h2 with
    | [x0, x1, x2, x3, x4, x5, x6], _ =>
      have y0 := (h3 0 _ x0 rfl rfl).1
      have : m = 0 := by omega
      subst this
      cases y0
  | n + 2, v, h => by
    obtain ⟨m, vs, hm, h1, h2, h3⟩ := h.struct (fs := #[{ name := "Kind", type := 3, offset := 0, embedded := false, tag := "", pkgPath := "", byteOffset := 0 }, { name := "Neg", type := 4, offset := 1, embedded := false, tag := "", pkgPath := "", byteOffset := 8 }, { name := "D", type := 22, offset := 2, embedded := false, tag := "", pkgPath := "", byteOffset := 16 }, { name := "Name", type := 9, offset := 3, embedded := false, tag := "", pkgPath := "", byteOffset := 40 }, { name := "N", type := 3, offset := 4, embedded := false, tag := "", pkgPath := "", byteOffset := 56 }, { name := "L", type := 23, offset := 5, embedded := false, tag := "", pkgPath := "", byteOffset := 64 }, { name := "B", type := 24, offset := 6, embedded := false, tag := "", pkgPath := "", byteOffset := 88 }]) (by kernel_rfl)
    have hmn : m = n + 1 := by omega
    subst hmn
    match vs, h2 with
    | [x0, x1, x2, x3, x4, x5, x6], _ =>
      have y0 := (h3 0 _ x0 rfl rfl).1
      have y1 := (h3 1 _ x1 rfl rfl).1
      have y2 := (h3 2 _ x2 rfl rfl).1
      have y3 := (h3 3 _ x3 rfl rfl).1
      have y4 := (h3 4 _ x4 rfl rfl).1
      have y5 := (h3 5 _ x5 rfl rfl).1
      have y6 := (h3 6 _ x6 rfl rfl).1
      obtain ⟨i0, rfl, -⟩ := y0.int (k := .i64) (by kernel_rfl)
      obtain ⟨b1, rfl⟩ := y1.bool (by kernel_rfl)
      obtain ⟨d2, rfl⟩ := ty_u32s y2
      obtain ⟨s3, rfl, -⟩ := y3.str (by kernel_rfl)
      obtain ⟨i4, rfl, -⟩ := y4.int (k := .i64) (by kernel_rfl)
      obtain ⟨d6, rfl⟩ := ty_u8s y6
      obtain ⟨m, es, hm, him, -, hes⟩ := y5.slice (e := 26) (by kernel_rfl)
      have hmn : m = n := by omega
      subst hmn
      obtain ⟨l, hl, -⟩ := map_of_all (f := eT) (p := fun _ => True) (es := es) fun x hx => by
        obtain ⟨t, ht⟩ := ty_tm m x (hes x hx)
        exact ⟨t, ht, trivial⟩
      have hc : Tryd.prog.cellsOf 26 = 7 := by kernel_rfl
      rw [hc] at him
      have hv : ∃ o : Option (List Tm), x5 = eL 7 eT o := by
        cases him with
        | nil => exact ⟨none, rfl⟩
        | sh _ =>
          subst hl
          exact ⟨some l, rfl⟩
      obtain ⟨o, rfl⟩ := hv
      refine ⟨.mk i0 b1 d2 s3 i4 o d6, ?_⟩
      rw [h1, eT_eq]
      have e2 : (eD d2).cells = [eD d2] := by cases d2 <;> rfl
      have e5 : (eL 7 eT o).cells = [eL 7 eT o] := by cases o <;> rfl
      have e6 : (eL 1 eb d6).cells = [eL 1 eb d6] := by cases d6 <;> rfl
      simp only [List.flatMap_cons, List.flatMap_nil, e2, e5, e6]
      rfl
end Go.Proofs.YtleikacgncpfbaaDoor

/- The seat's first question: by computation. -/
set_option maxRecDepth 100000
namespace Go.Proofs.YtleikacgncpfbaaDoor.awake5
open Go Go.Den
def reached : List FuncId := [15, 17, 19, 21, 30, 31, 39, 44, 47, 54, 55, 56, 58, 59, 69, 71, 72, 73, 75, 77, 78, 79, 82, 83, 84, 97, 98, 99, 106]
noncomputable def env0 : Env := { P := Tryd.prog, pol := fun _ => .plain, ann := fun _ => {}, glob := fun g => bif Nat.beq g 0 then flatD (H := Unit) Rows.laid_unicode_utf8_first else bif Nat.beq g 1 then flatD (H := Unit) Rows.laid_unicode_utf8_acceptRanges else none }
def siteTable : List (Nat × List (Nat × Nat × Nat)) := []
def sitesIn : List (Nat × List (Nat × Nat × Nat)) → Nat → List (Nat × Nat × Nat)
  | [], _ => []
  | (g, l) :: r, f => bif Nat.beq g f then l else sitesIn r f
def annsIn (f : Nat) : Ann :=  .nil
noncomputable def tab (f : FuncId) : FAnn :=
  match Tryd.prog.funcs[f]? with
  | some fn => { ann := annsIn f, depth := Nat.log2 fn.ntmps + 1, sites := sitesIn siteTable f, draws := mkDraws env0 (sitesIn siteTable f) fn }
  | none => {}
noncomputable def env : Env := { env0 with ann := fun f => if f ∈ reached then tab f else {} }
theorem env_ok : EnvOK env := envOK reached (by kernel_rfl) (fun f hf => by show (if f ∈ reached then tab f else {}).draws = []; rw [if_neg hf]) (by kernel_rfl)
theorem prims_ok : ∀ f, env.pol f = .plain ∨ ∃ F, env.pol f = .prim F ∧ PrimOK env f F := fun f => by
  refine .inl ?_
  show ( Pol.plain) = _
  rfl
theorem calls_ok (n : Nat) : CallOK env (callF env n) := callF_prims env_ok (by kernel_rfl) prims_ok n
def saysTrue : Option AV → Bool
  | some (.bool true) => true
  | _ => false
theorem says_true {x : Option AV} (h : saysTrue x = true) : x = some (.bool true) := by
  unfold saysTrue at h
  split at h
  · rfl
  · cases h
theorem known : callF env 300 AV 15 [] [] (fun v G => A.freezeB true 64 G v) = some (.bool true) := says_true (by kernel_rfl)
end Go.Proofs.YtleikacgncpfbaaDoor.awake5
namespace Go.Proofs.YtleikacgncpfbaaDoor
open Go Go.Den
noncomputable def pAwake5 : Pol := .still (Cd.f0 (.bool true))
theorem okAwake5 : PolOK base 15 pAwake5 := pure_prim (E := base) (E' := awake5.env) rfl rfl awake5.calls_ok fun xs v h => by
  unfold Cd.f0 at h
  split at h
  · cases h
    exact ⟨300, awake5.known⟩
  · cases h
theorem kAwake5 {R : Type} {H : Heap} {k : AV → Heap → Option R} : polK pAwake5 [] H k = k (.bool true) H := by
  unfold pAwake5
  rw [polK_imm (by simp)]
  rfl
end Go.Proofs.YtleikacgncpfbaaDoor

/- The law on what may be: what its function answers. -/
set_option maxRecDepth 100000
set_option maxHeartbeats 4000000
namespace Go.Proofs.YtleikacgncpfbaaDoor
open Go Go.Den
noncomputable abbrev TLm : List (FuncId × Pol) := [(15, pAwake5), (16, pRoomA), (17, pMay), (18, pRMayA), (19, pTree), (20, pRtreeA), (21, pWords), (22, pRwordsA)]
theorem okTLm : TabOK base TLm := ⟨okAwake5, okRoomA, okMay, okRMayA, okTree, okRtreeA, okWords, okRwordsA, trivial⟩
theorem law_may (t : Tm) : Evs fun n _ => callF (base.with (polT TLm)) (n + 1) AV 3 [eT t] [] (fun v _ => some v) = some (.bool true) := by
  have hcl : (eT t).cells.length = 7 := by rw [cells_eT]; rfl
  have hof : A.ofList true 7 (eT t).cells 0 = some (eT t) := load_eT (H := [])
  have hroom : ∀ (R : Type) (H : Heap) (k : AV → Heap → Option R), polK pRoomA [eT t, .int .i64 40, .int .i64 300] H k = k (.bool (roomS t 40 300)) H := fun R H k => kRoomA (by omega) (by omega) (by omega)
  cases hr : roomS t 40 300
  · rw [hr] at hroom
    refine Evs.of fun n m => ?_
    simp [↓test_bool, ↓bindC_eq, ↓withV_of, ↓chkD_true, -cells_eT, S3, hcl, hof, kAwake5, hroom]
  · have ht := room_tame (by omega) t 40 hr
    rw [hr] at hroom
    have h1 : ∀ (R : Type) (H : Heap) (k : AV → Heap → Option R), polQ pMay [eT t] H k = k (.bool (mayS t)) H := fun R H k => qMay ht
    have h2 : ∀ (R : Type) (H : Heap) (k : AV → Heap → Option R), polQ pRMayA [eT t] H k = k (.bool (mayS t)) H := fun R H k => qRMayA ht
    have h2' : ∀ (R : Type) (H : Heap) (k : AV → Heap → Option R), polK pRMayA [eT t] H k = k (.bool (mayS t)) H := fun R H k => kRMayA ht
    have h3 : ∀ (R : Type) (H : Heap) (k : AV → Heap → Option R), polK pTree [eT t] H k = k (.int .i64 ((min (szT t) 65537 : Nat) : Int)) H := fun R H k => kTree (tame_thin t ht)
    have h4 : ∀ (R : Type) (H : Heap) (k : AV → Heap → Option R), polK pRtreeA [eT t] H k = k (.int .i64 ((min (szT t) 65537 : Nat) : Int)) H := fun R H k => kRtreeA (tame_thin t ht)
    generalize ((min (szT t) 65537 : Nat) : Int) = N at *
    cases hm : mayS t
    · rw [hm] at h1 h2 h2'
      refine Evs.of fun n m => ?_
      simp [↓test_bool, ↓bindC_eq, ↓withV_of, ↓withP_some, ↓withB_some, ↓chkD_true, -cells_eT, S3, hcl, hof, kAwake5, hroom, h1, h2, h2', h3, h4, A.bin_beq ty_bool]
    · rw [hm] at h1 h2 h2'
      have hf : fineW t := by
        unfold mayS at hm
        simp only [Bool.and_eq_true, decide_eq_true_eq] at hm
        exact ⟨tame_thin t ht, tame_fewd t ht, hm.1⟩
      have h5 : ∀ (R : Type) (H : Heap) (k : AV → Heap → Option R), polK pWords [eT t] H k = k (.int .i64 (wT t : Nat)) H := fun R H k => kWords hf.1 hf.2.1 hf.2.2
      have h6 : ∀ (R : Type) (H : Heap) (k : AV → Heap → Option R), polK pRwordsA [eT t] H k = k (.int .i64 (wT t : Nat)) H := fun R H k => kRwordsA hf
      generalize (wT t : Int) = W at *
      refine Evs.of fun n m => ?_
      simp [↓test_bool, ↓bindC_eq, ↓withV_of, ↓withP_some, ↓withB_some, ↓chkD_true, -cells_eT, S3, hcl, hof, kAwake5, hroom, h1, h2, h2', h3, h4, h5, h6, A.bin_beq ty_bool]
end Go.Proofs.YtleikacgncpfbaaDoor

/- The law on numbers as terms: what its function answers. -/
set_option maxRecDepth 100000
set_option maxHeartbeats 8000000
namespace Go.Proofs.YtleikacgncpfbaaDoor
open Go Go.Den
theorem bool_bool : base.P.underlying 4 = some .bool := by kernel_rfl
noncomputable def pRfits : Pol := .still (p1 (cI .i64) .bool (fun _ => True) fitsS)
theorem okRfits : PolOK base 37 pRfits := still1 base_ok [] trivial fun a _ => by
  unfold fitsS
  by_cases h1 : -576460752303423488 ≤ a <;> by_cases h2 : a ≤ 576460752303423487 <;> exact Evs.of fun n m => by simp [↓withV_of, ↓withP_some, ↓withB_some, S37, h1, h2]
theorem kRfits {R : Type} {a : Int} {H : Heap} {k : AV → Heap → Option R} : polK pRfits [.int .i64 a] H k = k (.bool (fitsS a)) H := by
  simp [pRfits, polK_imm]
theorem tame_int {a : Nm} (h : (a.2.getD []).length ≤ 1000000) : tame (intT a) := by
  rw [tame_eq]
  exact ⟨⟨h, by simp [intT, Tm.name], by simp [intT, Tm.kids, Tm.l]⟩, fun u hu => by simp [intT, Tm.kids, Tm.l] at hu⟩
theorem parts_int {a : Nm} : (partsO (intT a)).getD [] = [] := rfl
theorem szT_int {a : Nm} : szT (intT a) = 1 := by
  rw [szT_eq, parts_int]
  simp [szs]
theorem wT_int {a : Nm} : wT (intT a) = wordsOne (intT a) := by
  rw [wT_eq, parts_int]
  simp [wTs]
theorem words_small {a : Nm} : decide (((wT (intT a) : Nat) : Int) = 0) = (smallS a).2 := by
  rw [wT_int]
  have e : wordsOne (intT a) = if (smallS a).2 then 0 else 1 + ((normS (false, a.2)).2.getD []).length := rfl
  rw [e]
  cases (smallS a).2
  · simp
    omega
  · simp
theorem plain_rep {a : Nm} {z : Int} (h : Rep a z) : plainN a.1 (a.2.getD []) = true := by
  rw [← same_plain]
  have e : toI a = z := h.toI
  exact h.same (by have := rep_rnorm (a.1, a.2); rw [show toI (a.1, a.2) = z from e] at this; exact this)
theorem may_int {a : Nm} {z : Int} (h : Rep a z) (hl : (a.2.getD []).length ≤ 64) : mayS (intT a) = true := by
  unfold mayS
  rw [szT_int, mayT_eq, parts_int]
  have hs : spareS (intT a) = true := rfl
  have ho : oneS countV (intT a) = true := by
    unfold oneS
    rw [hs]
    show (true && (if (0 : Int) = 0 then decide ((a.2.getD []).length ≤ 64) && plainN a.1 (a.2.getD []) else _)) = true
    rw [if_pos rfl, plain_rep h]
    simpa using hl
  rw [ho]
  rfl
theorem len_norm (a : Nm) : ((normS a).2.getD []).length ≤ (a.2.getD []).length := by
  rw [normS_get]
  exact lim_len_le _
theorem small_toI {a b : Nm} (h : toI a = toI b) : smallS a = smallS b := by rw [small_eq, small_eq, h]
theorem small_fits (a : Nm) : (smallS a).2 = fitsS (toI a) := by
  rw [small_eq]
  cases fitsS (toI a) <;> rfl
noncomputable abbrev TLn : List (FuncId × Pol) := [(15, pAwake5), (30, pTnum), (31, pTint), (32, pTof), (33, pSmallof), (35, pRnorm), (34, pSame), (36, pRof), (37, pRfits), (21, pWords), (17, pMay)]
theorem okTLn : TabOK base TLn := ⟨okAwake5, okTnum, okTint, okTof, okSmallof, okRnorm, okSame, okRof, okRfits, okWords, okMay, trivial⟩
theorem law_numbers (a : Nm) (z : Int) (z1 : -9223372036854775808 ≤ z) (z2 : z ≤ 9223372036854775807) : Evs fun n _ => callF (base.with (polT TLn)) (n + 1) AV 7 [eN a, .int .i64 z] [] (fun v _ => some v) = some (.bool true) := by
  have hcl0 : (eN a).cells.length = 2 := rfl
  have ho1 : A.ofList false 1 (eN a).cells 1 = some (eD a.2) := rfl
  have ho0 : A.ofList false 1 (eN a).cells 0 = some (.bool a.1) := rfl
  have hoa : A.ofList true 2 [.bool a.1, eD a.2] 0 = some (eN a) := rfl
  have hfill : A.fill [.bool false, .nils] [(0, 1, .bool a.1), (1, 1, eD a.2)] = some [.bool a.1, eD a.2] := by simp [A.fill, A.splice]
  have hlen : A.len (eD a.2) [] = some (.int .i64 ((a.2.getD []).length : Int)) := len_eL
  by_cases hl : (a.2.getD []).length ≤ 64
  case neg =>
    have hl' : (64 : Int) < ((a.2.getD []).length : Int) := by omega
    generalize ((a.2.getD []).length : Int) = N at *
    refine Evs.of fun n m => ?_
    simp [↓test_bool, ↓bindV_eq, ↓bindC_eq, ↓bindH_eq, ↓withV_of, ↓chkD_true, -len_eL, S7, kAwake5, hlen, hl']
  have hl' : ¬ (64 : Int) < ((a.2.getD []).length : Int) := by omega
  have hfa : few a.2 := by unfold few; omega
  have hln := len_norm a
  have hfn : few (normS a).2 := by unfold few; omega
  have hof := lot_of z1 z2
  have hlo := len_norm (ofS z)
  have hl2 : ((ofS z).2.getD []).length ≤ 2 := by
    rw [(rep_of z1 z2).2]
    exact lim_le.2 (by simp; omega)
  have hfo : few (normS (ofS z)).2 := by unfold few; omega
  have r1 := rep_norm a
  have r2 : Rep (normS (ofS z)) z := by
    have := rep_norm (ofS z)
    rw [(rep_of z1 z2).toI] at this
    exact this
  have m1 := may_int r1 (by omega)
  have m2 := may_int r2 (by omega)
  have w1 := words_small (a := normS a)
  have w2 := words_small (a := normS (ofS z))
  rw [small_toI (toI_norm a)] at w1
  rw [small_fits, r2.toI] at w2
  have t1 := tame_int (a := normS a) (by omega)
  have t2 := tame_int (a := normS (ofS z)) (by omega)
  have f1 : ∀ (R : Type) (H : Heap) (k : AV → Heap → Option R), polK pTnum [.agg [.bool a.1, eD a.2]] H k = k (eT (intT (normS a))) H := fun R H k => kTnum (a := a) hfa
  have f2 : ∀ (R : Type) (H : Heap) (k : AV → Heap → Option R), polK pTint [.int .i64 z] H k = k (eT (intT (normS (ofS z)))) H := fun R H k => kTint z1 z2
  have s1 : Rep (normS (normS a)) (toI a) := by have := rep_norm (normS a); rw [toI_norm] at this; exact this
  have s2 : Rep (normS (normS (ofS z))) z := by have := rep_norm (normS (ofS z)); rw [r2.toI] at this; exact this
  have hx := len_norm (normS a)
  have hy := len_norm (normS (ofS z))
  have f3 : ∀ (R : Type) (H : Heap) (k : AV → Heap → Option R), polK pTof [eT (intT (normS a))] H k = k (.tup [eN (normS (normS a)), .bool true]) H := fun R H k => kTof (t := intT (normS a)) hfn
  have f4 : ∀ (R : Type) (H : Heap) (k : AV → Heap → Option R), polK pTof [eT (intT (normS (ofS z)))] H k = k (.tup [eN (normS (normS (ofS z))), .bool true]) H := fun R H k => kTof (t := intT (normS (ofS z))) hfo
  have f5 : ∀ (R : Type) (H : Heap) (k : AV → Heap → Option R), polK pSmallof [eN a] H k = k (.tup [.int .i64 (smallS a).1, .bool (smallS a).2]) H := fun R H k => kSmallof hfa
  have f6 : ∀ (R : Type) (H : Heap) (k : AV → Heap → Option R), polK pRnorm [eN a] H k = k (eN (rnormS a)) H := fun R H k => kRnorm hfa
  have g1 : sameS (normS (normS a)) (rnormS a) = true := s1.same (rep_rnorm a)
  have g2 : sameS (normS (normS (ofS z))) (rofS z) = true := s2.same (rep_rof z1 z2)
  have k1 : few (normS (normS a)).2 := by unfold few; omega
  have k2 : few (normS (normS (ofS z))).2 := by unfold few; omega
  have k3 : few (rofS z).2 := by
    unfold few
    rw [(rep_rof z1 z2).2]
    have : (lim z.natAbs).length ≤ 2 := lim_le.2 (by simp; omega)
    omega
  have f7 : ∀ (R : Type) (H : Heap) (k : AV → Heap → Option R), polK pSame [eN (normS (normS a)), eN (rnormS a)] H k = k (.bool true) H := fun R H k => by rw [kSame k1 (few_rnorm hfa), g1]
  have f8 : ∀ (R : Type) (H : Heap) (k : AV → Heap → Option R), polK pRof [.int .i64 z] H k = k (eN (rofS z)) H := fun R H k => kRof z1 z2
  have f9 : ∀ (R : Type) (H : Heap) (k : AV → Heap → Option R), polK pSame [eN (normS (normS (ofS z))), eN (rofS z)] H k = k (.bool true) H := fun R H k => by rw [kSame k2 k3, g2]
  have f10 : ∀ (R : Type) (H : Heap) (k : AV → Heap → Option R), polK pWords [eT (intT (normS a))] H k = k (.int .i64 (wT (intT (normS a)) : Nat)) H := fun R H k => kWords (tame_thin _ t1) (tame_fewd _ t1) (by rw [szT_int]; omega)
  have f11 : ∀ (R : Type) (H : Heap) (k : AV → Heap → Option R), polK pWords [eT (intT (normS (ofS z)))] H k = k (.int .i64 (wT (intT (normS (ofS z))) : Nat)) H := fun R H k => kWords (tame_thin _ t2) (tame_fewd _ t2) (by rw [szT_int]; omega)
  have f12 : ∀ (R : Type) (H : Heap) (k : AV → Heap → Option R), polK pRfits [.int .i64 z] H k = k (.bool (fitsS z)) H := fun R H k => kRfits
  have f13 : ∀ (R : Type) (H : Heap) (k : AV → Heap → Option R), polK pMay [eT (intT (normS a))] H k = k (.bool true) H := fun R H k => by rw [kMay t1, m1]
  have f14 : ∀ (R : Type) (H : Heap) (k : AV → Heap → Option R), polK pMay [eT (intT (normS (ofS z)))] H k = k (.bool true) H := fun R H k => by rw [kMay t2, m2]
  have c1 : A.fits 7 (eT (intT (normS a))) = true := by simp [A.fits]
  have c2 : A.fits 7 (eT (intT (normS (ofS z)))) = true := by simp [A.fits]
  have d1 : (eT (intT (normS a))).cells.length = 7 := by rw [cells_eT]; rfl
  have d2 : (eT (intT (normS (ofS z)))).cells.length = 7 := by rw [cells_eT]; rfl
  have e1 : A.splice [.int .i64 0, .bool false, .nils, .str [], .int .i64 0, .nils, .nils] 0 (eT (intT (normS a))).cells = (eT (intT (normS a))).cells := by rw [cells_eT]; rfl
  have e2 : A.splice [.int .i64 0, .bool false, .nils, .str [], .int .i64 0, .nils, .nils] 0 (eT (intT (normS (ofS z)))).cells = (eT (intT (normS (ofS z)))).cells := by rw [cells_eT]; rfl
  have o1 : A.ofList true 7 (eT (intT (normS a))).cells 0 = some (eT (intT (normS a))) := load_eT (H := [])
  have o2 : A.ofList true 7 (eT (intT (normS (ofS z)))).cells 0 = some (eT (intT (normS (ofS z)))) := load_eT (H := [])
  generalize (wT (intT (normS a)) : Int) = W1 at *
  generalize (wT (intT (normS (ofS z))) : Int) = W2 at *
  generalize eT (intT (normS a)) = T1 at *
  generalize eT (intT (normS (ofS z))) = T2 at *
  generalize (smallS a).2 = sm at *
  generalize fitsS z = fz at *
  generalize normS (normS a) = X at *
  generalize normS (normS (ofS z)) = Y at *
  obtain ⟨x1, x2⟩ := X
  obtain ⟨y1, y2⟩ := Y
  have hone : ∀ (b : Bool) (d : Option (List UInt32)), [AV.bool b, eD d].all AV.one = true := fun b d => by cases d <;> rfl
  have st1 : A.store 2 (.ptr 0 0 0 0) (.agg [.bool x1, eD x2]) [.row 0 2 42 [.agg [.bool false, .nils]]] = some [.row 0 2 42 [.agg [.bool x1, eD x2]]] := box_store (cs := [.bool false, .nils]) (ds := [.bool x1, eD x2]) (H := [.row 0 2 42 [.agg [.bool false, .nils]]]) rfl rfl rfl (hone _ _)
  have st2 : A.store 2 (.ptr 1 0 0 0) (.agg [.bool y1, eD y2]) [.row 0 2 42 [.agg [.bool x1, eD x2]], .row 0 2 42 [.agg [.bool false, .nils]]] = some [.row 0 2 42 [.agg [.bool x1, eD x2]], .row 0 2 42 [.agg [.bool y1, eD y2]]] := box_store (cs := [.bool false, .nils]) (ds := [.bool y1, eD y2]) (H := [.row 0 2 42 [.agg [.bool x1, eD x2]], .row 0 2 42 [.agg [.bool false, .nils]]]) rfl rfl rfl (hone _ _)
  have b1 : Go.Den.Box [.row 0 2 42 [.agg [.bool x1, eD x2]], .row 0 2 42 [.agg [.bool y1, eD y2]]] 0 2 42 [.bool x1, eD x2] := rfl
  have b2 : Go.Den.Box [.row 0 2 42 [.agg [.bool x1, eD x2]], .row 0 2 42 [.agg [.bool y1, eD y2]]] 1 2 42 [.bool y1, eD y2] := rfl
  have p10 := b1.fa (o := 0)
  have p11 := b1.fa (o := 1)
  have p20 := b2.fa (o := 0)
  have p21 := b2.fa (o := 1)
  have q10 := b1.load (o := 0)
  have q11 := b1.load (o := 1)
  have q20 := b2.load (o := 0)
  have q21 := b2.load (o := 1)
  simp only [List.getElem?_cons_succ, List.getElem?_cons_zero] at q10 q11 q20 q21
  have hfx : A.fill [.bool false, .nils] [(0, 1, .bool x1), (1, 1, eD x2)] = some [.bool x1, eD x2] := by simp [A.fill, A.splice]
  have hfy : A.fill [.bool false, .nils] [(0, 1, .bool y1), (1, 1, eD y2)] = some [.bool y1, eD y2] := by simp [A.fill, A.splice]
  generalize ((a.2.getD []).length : Int) = N at *
  refine Evs.of fun n m => ?_
  simp (maxSteps := 3000000) [-len_eL, S7, kAwake5, hoa, hlen, hl', hfill, f1, f2, c1, c2, d1, d2, e1, e2, o1, o2, f3, f4, f5, st1, st2, p10, p11, p20, p21, q10, q11, q20, q21, hfx, hfy, f6, f7, f8, f9, f10, f11, f12, f13, f14, w1, w2, A.bin_beq bool_bool, AV.heapy, AV.beq_refl]
theorem ty_num {n : Nat} {v : AV} (h : Ty Tryd.prog n 40 v) : ∃ a : Nm, v = eN a := by
  obtain ⟨m, vs, hm, h1, h2, h3⟩ := h.struct (fs := #[{ name := "Neg", type := 4, offset := 0, embedded := false, tag := "", pkgPath := "", byteOffset := 0 }, { name := "D", type := 22, offset := 1, embedded := false, tag := "", pkgPath := "", byteOffset := 8 }]) (by kernel_rfl)
  match vs, h2 with
  | [x, y], _ =>
    have hx := (h3 0 _ x rfl rfl).1
    have hy := (h3 1 _ y rfl rfl).1
    obtain ⟨p, rfl⟩ := hx.bool (by kernel_rfl)
    obtain ⟨d, rfl⟩ := ty_u32s hy
    refine ⟨(p, d), ?_⟩
    rw [h1]
    have e2 : (eD d).cells = [eD d] := by cases d <;> rfl
    simp only [List.flatMap_cons, List.flatMap_nil, e2]
    rfl
end Go.Proofs.YtleikacgncpfbaaDoor
