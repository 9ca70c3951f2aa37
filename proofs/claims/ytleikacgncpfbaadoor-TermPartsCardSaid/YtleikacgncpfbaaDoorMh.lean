/- Texts put together: Mb5, Cp1, Cp2, Cp3, Cp4, Cp5, Cp6, Cp7, Cp8, Cp9, Awake5, Lw5c, Lw5d. -/
import Derived.Test.YtleikacgncpfbaaDoorMg
import Derived.Test.YtleikacgncpfbaaDoorRows

/- Terms: what is known of them, of any size; what is handed in. -/
set_option maxRecDepth 100000
set_option maxHeartbeats 4000000
namespace Go.Proofs.YtleikacgncpfbaaDoor
open Go Go.Den
noncomputable def pRoomA : Pol := .still (p3 cT (cI .i64) (cI .i64) .bool (fun _ dep most => -1 ≤ dep ∧ dep ≤ 1000 ∧ most ≤ 1000) roomS)
theorem okRoomA : PolOK base 16 pRoomA := still_join (F := fun n => p3 cT (cI .i64) (cI .i64) .bool (fun t dep most => t.size ≤ n ∧ -1 ≤ dep ∧ dep ≤ 1000 ∧ most ≤ 1000) roomS) okRoom fun zs v h => by
  match zs, h with
  | [a, b, c], h =>
    simp only [p3_app, Option.bind_eq_some_iff] at h ⊢
    obtain ⟨t, ht, d, hd, m, hm, h⟩ := h
    split at h
    · rename_i hc
      exact ⟨t.size, t, ht, d, hd, m, hm, by rw [if_pos ⟨Nat.le_refl _, hc⟩]; exact h⟩
    · cases h
theorem kRoomA {R : Type} {t : Tm} {dep most : Int} (h0 : -1 ≤ dep) (h1 : dep ≤ 1000) (h2 : most ≤ 1000) {H : Heap} {k : AV → Heap → Option R} : polK pRoomA [eT t, .int .i64 dep, .int .i64 most] H k = k (.bool (roomS t dep most)) H := by
  simp [pRoomA, polK_imm, h0, h1, h2]
noncomputable def pRtreeA : Pol := .still (p1 cT (fun n : Nat => .int .i64 (n : Int)) (fun t => t.thin 1000) (fun t => min (szT t) 65537))
theorem okRtreeA : PolOK base 20 pRtreeA := still_join (F := fun n => p1 cT (fun n : Nat => .int .i64 (n : Int)) (fun t => t.size ≤ n ∧ t.thin 1000) (fun t => min (szT t) 65537)) okRtree fun zs v h => by
  match zs, h with
  | [a], h =>
    simp only [p1_app, Option.bind_eq_some_iff] at h ⊢
    obtain ⟨t, ht, h⟩ := h
    split at h
    · rename_i hc
      exact ⟨t.size, t, ht, by rw [if_pos ⟨Nat.le_refl _, hc⟩]; exact h⟩
    · cases h
theorem kRtreeA {R : Type} {t : Tm} (h : t.thin 1000) {H : Heap} {k : AV → Heap → Option R} : polK pRtreeA [eT t] H k = k (.int .i64 ((min (szT t) 65537 : Nat) : Int)) H := by
  simp [pRtreeA, polK_imm, h]
noncomputable def pRwordsA : Pol := .still (p1 cT (fun n : Nat => .int .i64 (n : Int)) fineW wT)
theorem okRwordsA : PolOK base 22 pRwordsA := still_join (F := fun n => p1 cT (fun n : Nat => .int .i64 (n : Int)) (fun t => t.size ≤ n ∧ fineW t) wT) okRwords fun zs v h => by
  match zs, h with
  | [a], h =>
    simp only [p1_app, Option.bind_eq_some_iff] at h ⊢
    obtain ⟨t, ht, h⟩ := h
    split at h
    · rename_i hc
      exact ⟨t.size, t, ht, by rw [if_pos ⟨Nat.le_refl _, hc⟩]; exact h⟩
    · cases h
theorem kRwordsA {R : Type} {t : Tm} (h : fineW t) {H : Heap} {k : AV → Heap → Option R} : polK pRwordsA [eT t] H k = k (.int .i64 (wT t : Nat)) H := by
  simp [pRwordsA, polK_imm, h]
noncomputable def pRMayA : Pol := .still (p1 cT .bool tame mayS)
theorem okRMayA : PolOK base 18 pRMayA := still_join (F := fun n => p1 cT .bool (fun t => t.size ≤ n ∧ tame t) mayS) okRMay fun zs v h => by
  match zs, h with
  | [a], h =>
    simp only [p1_app, Option.bind_eq_some_iff] at h ⊢
    obtain ⟨t, ht, h⟩ := h
    split at h
    · rename_i hc
      exact ⟨t.size, t, ht, by rw [if_pos ⟨Nat.le_refl _, hc⟩]; exact h⟩
    · cases h
theorem kRMayA {R : Type} {t : Tm} (h : tame t) {H : Heap} {k : AV → Heap → Option R} : polK pRMayA [eT t] H k = k (.bool (mayS t)) H := by
  simp [pRMayA, polK_imm, h]
theorem ty_u32s {n : Nat} {y : AV} (hy : Ty Tryd.prog n 22 y) : ∃ d : Option (List UInt32), y = eD d := by
  obtain ⟨l, hl, hb, -⟩ := hy.ints (k := .u32) (e := 59) (by kernel_rfl) (by kernel_rfl) (by kernel_rfl)
  have hll : l.map (AV.int .u32) = (l.map fun i => UInt32.ofNat i.toNat).map eu := by
    rw [List.map_map]
    refine List.map_congr_left fun i hi => ?_
    have := hb i hi
    have h5 : (0 : Int) ≤ i ∧ i ≤ 4294967295 := this
    show AV.int .u32 i = AV.int .u32 ((UInt32.ofNat i.toNat).toNat : Int)
    rw [limb_of, Nat.mod_eq_of_lt (by omega)]
    congr 1
    omega
  rw [hll] at hl
  generalize hm : (l.map fun i => UInt32.ofNat i.toNat).map eu = es at hl
  cases hl with
  | nil => exact ⟨none, rfl⟩
  | sh _ =>
    subst hm
    exact ⟨some (l.map fun i => UInt32.ofNat i.toNat), rfl⟩
theorem ty_u8s {n : Nat} {y : AV} (hy : Ty Tryd.prog n 24 y) : ∃ d : Option (List UInt8), y = eL 1 eb d := by
  obtain ⟨l, hl, hb, -⟩ := hy.ints (k := .u8) (e := 5) (by kernel_rfl) (by kernel_rfl) (by kernel_rfl)
  have hll : l.map (AV.int .u8) = (l.map fun i => UInt8.ofNat i.toNat).map eb := by
    rw [List.map_map]
    refine List.map_congr_left fun i hi => ?_
    have := hb i hi
    have h5 : (0 : Int) ≤ i ∧ i ≤ 255 := this
    show AV.int .u8 i = AV.int .u8 ((UInt8.ofNat i.toNat).toNat : Int)
    rw [UInt8.toNat_ofNat']
    congr 1
    omega
  rw [hll] at hl
  generalize hm : (l.map fun i => UInt8.ofNat i.toNat).map eb = es at hl
  cases hl with
  | nil => exact ⟨none, rfl⟩
  | sh _ =>
    subst hm
    exact ⟨some (l.map fun i => UInt8.ofNat i.toNat), rfl⟩
theorem ty_tm : ∀ (n : Nat) (v : AV), Ty Tryd.prog n 26 v → ∃ t : Tm, v = eT t
  | 0, _, h => by cases h
  | 1, v, h => by
    obtain ⟨m, vs, hm, h1, h2, h3⟩ := h.struct (fs := #[{ name := "Kind", type := 3, offset := 0, embedded := false, tag := "", pkgPath := "", byteOffset := 0 }, { name := "Neg", type := 4, offset := 1, embedded := false, tag := "", pkgPath := "", byteOffset := 8 }, { name := "D", type := 22, offset := 2, embedded := false, tag := "", pkgPath := "", byteOffset := 16 }, { name := "Name", type := 9, offset := 3, embedded := false, tag := "", pkgPath := "", byteOffset := 40 }, { name := "N", type := 3, offset := 4, embedded := false, tag := "", pkgPath := "", byteOffset := 56 }, { name := "L", type := 23, offset := 5, embedded := false, tag := "", pkgPath := "", byteOffset := 64 }, { name := "B", type := 24, offset := 6, embedded := false, tag := "", pkgPath := "", byteOffset := 88 }]) (by kernel_rfl)
    match vs, h2 with
    | [x0, x1, x2, x3, x4, x5, x6], _ =>
      have y0 := (h3 0 _ x0 rfl rfl).1
      have : m = 0 := by omega
      subst this
      cases y0
  | n + 2, v, h => by
    obtain ⟨m, vs, hm, h1, h2, h3⟩ := h.struct (fs := #[{ name := "Kind", type := 3, offset := 0, embedded := false, tag := "", pkgPath := "", byteOffset := 0 }, { name := "Neg", type := 4, offset := 1, embedded := false, tag := "", pkgPath := "", byteOffset := 8 }, { name := "D", type := 22, offset := 2, embedded := false, tag := "", pkgPath := "", byteOffset := 16 }, { name := "Name", type := 9, offset := 3, embedded := false, tag := "", pkgPath := "", byteOffset := 40 }, { name := "N", type := 3, offset := 4, embedded := false, tag := "", pkgPath := "", byteOffset := 56 }, { name := "L", type := 23, offset := 5, embedded := false, tag := "", pkgPath := "", byteOffset := 64 }, { name := "B", type := 24, offset := 6, embedded := false, tag := "", pkgPath := "", byteOffset := 88 }]) (by kernel_rfl)
    have hmn : m = n + 1 := by omega
    subst hmn
    match vs, h2 with
    | [x0, x1, x2, x3, x4, x5, x6], _ =>
      have y0 := (h3 0 _ x0 rfl rfl).1
      have y1 := (h3 1 _ x1 rfl rfl).1
      have y2 := (h3 2 _ x2 rfl rfl).1
      have y3 := (h3 3 _ x3 rfl rfl).1
      have y4 := (h3 4 _ x4 rfl rfl).1
      have y5 := (h3 5 _ x5 rfl rfl).1
      have y6 := (h3 6 _ x6 rfl rfl).1
      obtain ⟨i0, rfl, -⟩ := y0.int (k := .i64) (by kernel_rfl)
      obtain ⟨b1, rfl⟩ := y1.bool (by kernel_rfl)
      obtain ⟨d2, rfl⟩ := ty_u32s y2
      obtain ⟨s3, rfl, -⟩ := y3.str (by kernel_rfl)
      obtain ⟨i4, rfl, -⟩ := y4.int (k := .i64) (by kernel_rfl)
      obtain ⟨d6, rfl⟩ := ty_u8s y6
      obtain ⟨m, es, hm, him, -, hes⟩ := y5.slice (e := 26) (by kernel_rfl)
      have hmn : m = n := by omega
      subst hmn
      obtain ⟨l, hl, -⟩ := map_of_all (f := eT) (p := fun _ => True) (es := es) fun x hx => by
        obtain ⟨t, ht⟩ := ty_tm m x (hes x hx)
        exact ⟨t, ht, trivial⟩
      have hc : Tryd.prog.cellsOf 26 = 7 := by kernel_rfl
      rw [hc] at him
      have hv : ∃ o : Option (List Tm), x5 = eL 7 eT o := by
        cases him with
        | nil => exact ⟨none, rfl⟩
        | sh _ =>
          subst hl
          exact ⟨some l, rfl⟩
      obtain ⟨o, rfl⟩ := hv
      refine ⟨.mk i0 b1 d2 s3 i4 o d6, ?_⟩
      rw [h1, eT_eq]
      have e2 : (eD d2).cells = [eD d2] := by cases d2 <;> rfl
      have e5 : (eL 7 eT o).cells = [eL 7 eT o] := by cases o <;> rfl
      have e6 : (eL 1 eb d6).cells = [eL 1 eb d6] := by cases d6 <;> rfl
      simp only [List.flatMap_cons, List.flatMap_nil, e2, e5, e6]
      rfl
end Go.Proofs.YtleikacgncpfbaaDoor

/- Terms: copies of rows. -/
set_option maxRecDepth 100000
set_option maxHeartbeats 2000000
namespace Go.Proofs.YtleikacgncpfbaaDoor
open Go Go.Den
/-! ### bytes -/
def cBy : Cd (Option (List UInt8)) := ⟨eL 1 eb, fun a b h => eL_inj' (fun l m _ _ hm => map_inj' (fun a b => eb_inj) hm) h, fun a => by cases a <;> rfl⟩
@[simp] theorem enc_cBy {a : Option (List UInt8)} : cBy.enc a = eL 1 eb a := id rfl
@[simp] theorem dec_cBy {a : Option (List UInt8)} : cBy.dec (eL 1 eb a) = some a := cBy.dec_enc a
def fewB (d : Option (List UInt8)) : Prop := (d.getD []).length ≤ 1000000
theorem flat_bytes (l : List UInt8) : ∀ v ∈ l.map eb, v.flat0 = true ∧ v.isDef = true := fun v hv => by
  obtain ⟨x, -, rfl⟩ := List.mem_map.1 hv
  exact ⟨rfl, rfl⟩
theorem ty_bytes : base.P.underlying 24 = some (.slice 5) := by kernel_rfl
noncomputable def pBclone : Pol := .still (p1 cBy (eL 1 eb) fewB id)
theorem okBclone : PolOK base 71 pBclone := still1 base_ok [] trivial fun d hf => by
  unfold fewB at hf
  refine Evs.of fun n _ => ?_
  cases d with
  | none => simp [↓test_bool, ↓bindV_eq, ↓bindH_eq, ↓withV_of, S71, eL, A.bin, ty_bytes, A.eqNil]
  | some l =>
    simp only [Option.getD_some] at hf
    cases l with
    | nil =>
      have h1 := row_append_nil (H := [.row 0 1 5 []]) (id := 0) (ver := 0) (sz := 1) (ty := 5) (es := []) (n := 0) (bytes := 1) rfl rfl (by omega) (by simp)
      simp [↓test_bool, ↓bindV_eq, ↓bindH_eq, ↓withV_of, ↓withL_some, ↓withVH_some, S71, eL, A.bin, ty_bytes, A.eqNil, A.fillElems, newsZ_sl ty_bytes, A.read, h1]
      exact freeze_row (b := true) (m := 62) (es := []) rfl rfl (by simp)
    | cons x l =>
      have h1 := row_append (H := [.row 0 1 5 []]) (id := 0) (ver := 0) (sz := 1) (ty := 5) (es := []) (n := 0) (bytes := 1) (news := (x :: l).map eb) rfl rfl (by simp) (by omega) (by simp at hf ⊢; omega)
      simp only [List.nil_append] at h1
      simp [↓test_bool, ↓bindV_eq, ↓bindH_eq, ↓withV_of, ↓withL_some, S71, eL, A.bin, ty_bytes, A.eqNil, A.fillElems, newsZ_sl ty_bytes, A.read]
      simp at h1
      simp [h1]
      exact freeze_row (b := true) (m := 62) (es := (x :: l).map eb) rfl (by simp) (flat_bytes _)
theorem qBclone {R : Type} {d : Option (List UInt8)} (h : fewB d) {H : Heap} {k : AV → Heap → Option R} : polQ pBclone [eL 1 eb d] H k = k (eL 1 eb d) H := by
  simp [pBclone, polQ_imm, h]
/-! ### terms: into a row of the small heap -/
noncomputable def pTclone : Pol := .prim (runF base [] 73)
theorem okTclone : PolOK base 73 pTclone := ok_run base_ok [] trivial
def cw (l : List Tm) : Nat := if l = [] then 0 else 1
def cv (id : Nat) : Option (List Tm) → AV
  | none => .nils
  | some l => .sl id (cw l) 0 l.length l.length
def cr (o : Option (List Tm)) (es : List AV) : List HObj := match o with
  | none => []
  | some l => [.row (cw l) 7 26 es]
theorem kTclone {R : Type} {o : Option (List Tm)} (h : (o.getD []).length ≤ 1000) {H : Heap} {k : AV → Heap → Option R} : polK pTclone [eL 7 eT o] H k = k (cv H.length o) (H ++ cr o ((o.getD []).map eT)) := by
  have hr : runF base [] 73 [eL 7 eT o] H = some (cv H.length o, H ++ cr o ((o.getD []).map eT)) := runF_of (Evs.of fun n m => by
    cases o with
    | none => simp [↓test_bool, ↓bindV_eq, ↓bindH_eq, ↓withV_of, S73, eL, A.bin, ty_terms, A.eqNil, cv, cr]
    | some l =>
      simp only [Option.getD_some] at h
      cases l with
      | nil =>
        have h1 := row_append_nil (H := H ++ [.row 0 7 26 []]) (id := H.length) (ver := 0) (sz := 7) (ty := 26) (es := []) (n := 0) (bytes := 112) row_push rfl (by omega) (by simp)
        simp [↓test_bool, ↓bindV_eq, ↓bindH_eq, ↓withV_of, ↓withL_some, ↓withVH_some, S73, eL, A.bin, ty_terms, A.eqNil, A.fillElems, newsZ_sl ty_terms, A.read, h1, cv, cr, cw]
      | cons x l =>
        have h1 := row_append (H := H ++ [.row 0 7 26 []]) (id := H.length) (ver := 0) (sz := 7) (ty := 26) (es := []) (n := 0) (bytes := 112) (news := (x :: l).map eT) row_push rfl (by simp) (by omega) (by simp at h ⊢; omega)
        simp only [List.nil_append] at h1
        simp [↓test_bool, ↓bindV_eq, ↓bindH_eq, ↓withV_of, ↓withL_some, S73, eL, A.bin, ty_terms, A.eqNil, A.fillElems, newsZ_sl ty_terms, A.read]
        simp at h1
        simp [h1, cv, cr, cw])
  exact k_run hr
end Go.Proofs.YtleikacgncpfbaaDoor

/- Terms: a value of the small heap that stands for a term. -/
set_option maxRecDepth 100000
set_option maxHeartbeats 2000000
namespace Go.Proofs.YtleikacgncpfbaaDoor
open Go Go.Den
def op (t : Tm) (vl : AV) : AV := .agg [.int .i64 t.kind, .bool t.neg, eD t.d, .str t.name, .int .i64 t.n, vl, eL 1 eb t.b]
theorem op_eT (t : Tm) : op t (eL 7 eT t.l) = eT t := (eT_eq t).symm
inductive Rd (H : Heap) : AV → Tm → Prop
  | imm (t : Tm) : Rd H (eT t) t
  | nil (t : Tm) (h : t.l = none) : Rd H (op t .nils) t
  | own (t : Tm) (l : List Tm) (id w cap : Nat) (es : List AV) (h : t.l = some l) (hr : H[id]? = some (.row w 7 26 es)) (hn : es.length = l.length) (he : ∀ i (hi : i < es.length), Rd H es[i] (l[i]'(hn ▸ hi))) : Rd H (op t (.sl id w 0 l.length cap)) t
theorem op_inj {t u : Tm} {v w : AV} (h : op t v = op u w) : t.kind = u.kind ∧ t.neg = u.neg ∧ t.d = u.d ∧ t.name = u.name ∧ t.n = u.n ∧ v = w ∧ t.b = u.b := by
  unfold op at h
  injection h with h
  simp only [List.cons.injEq, AV.int.injEq, AV.bool.injEq, AV.str.injEq, true_and, and_true] at h
  obtain ⟨h1, h2, h3, h4, h5, h6, h7⟩ := h
  exact ⟨h1, h2, cD.inj _ _ h3, h4, h5, h6, cBy.inj _ _ h7⟩
theorem tm_ext {t u : Tm} (h : t.kind = u.kind ∧ t.neg = u.neg ∧ t.d = u.d ∧ t.name = u.name ∧ t.n = u.n ∧ t.l = u.l ∧ t.b = u.b) : t = u := by
  cases t
  cases u
  simp only [Tm.kind, Tm.neg, Tm.d, Tm.name, Tm.n, Tm.l, Tm.b] at h
  obtain ⟨rfl, rfl, rfl, rfl, rfl, rfl, rfl⟩ := h
  rfl
theorem rd_eT {H : Heap} {t u : Tm} (h : Rd H (eT t) u) : u = t := by
  generalize hv : eT t = v at h
  cases h with
  | imm => exact (eT_inj _ _ hv).symm
  | nil _ h =>
    rw [← op_eT] at hv
    have := op_inj hv
    refine tm_ext ⟨this.1.symm, this.2.1.symm, this.2.2.1.symm, this.2.2.2.1.symm, this.2.2.2.2.1.symm, ?_, this.2.2.2.2.2.2.symm⟩
    have h6 := this.2.2.2.2.2.1
    rw [h]
    cases ht : t.l with
    | none => rfl
    | some l => rw [ht] at h6; cases h6
  | own _ l id w cap es h hr hn he =>
    rw [← op_eT] at hv
    have h6 := (op_inj hv).2.2.2.2.2.1
    cases ht : t.l with
    | none => rw [ht] at h6; cases h6
    | some l => rw [ht] at h6; cases h6
theorem rd_mono {H H' : Heap} (hm : ∀ (id w : Nat) (es : List AV), H[id]? = some (.row w 7 26 es) → ∃ es' : List AV, H'[id]? = some (.row w 7 26 es') ∧ ∃ hl : es'.length = es.length, ∀ i (hi : i < es.length), es'[i]'(hl ▸ hi) = es[i] ∨ ∀ u, Rd H es[i] u → Rd H' (es'[i]'(hl ▸ hi)) u) {v : AV} {t : Tm} (h : Rd H v t) : Rd H' v t := by
  induction h with
  | imm t => exact .imm t
  | nil t h => exact .nil t h
  | own t l id w cap es h hr hn he ih =>
    obtain ⟨es', h1, hl, h2⟩ := hm id w es hr
    refine .own t l id w cap es' h h1 (by omega) fun i hi => ?_
    have hi' : i < es.length := by omega
    rcases h2 i hi' with h3 | h3
    · rw [h3]
      exact ih i hi'
    · exact h3 _ (he i hi')
theorem rd_push {H X : Heap} {v : AV} {t : Tm} (h : Rd H v t) : Rd (H ++ X) v t := rd_mono (fun id w es hr => ⟨es, by rw [List.getElem?_append_left (List.getElem?_eq_some_iff.1 hr).1]; exact hr, rfl, fun _ _ => .inl rfl⟩) h
theorem rd_other {H : Heap} {q ver sz : Nat} {ty : TypeId} {es : List AV} {o : HObj} {v : AV} {t : Tm} (hq : H[q]? = some (.row ver sz ty es)) (hs : sz ≠ 7) (h : Rd H v t) : Rd (H.set q o) v t := rd_mono (fun id w es' hr => ⟨es', by
  have : q ≠ id := fun e => by
    subst e
    rw [hq] at hr
    injection hr with hr
    injection hr with _ h2
    exact hs h2
  rw [List.getElem?_set_ne this]
  exact hr, rfl, fun _ _ => .inl rfl⟩) h
theorem rd_open {H : Heap} {r w i : Nat} {es : List AV} {u : Tm} {x : AV} (hr : H[r]? = some (.row w 7 26 es)) (hi : i < es.length) (hu : es[i] = eT u) (hx : Rd (H.set r (.row w 7 26 (es.set i x))) x u) {v : AV} {t : Tm} (h : Rd H v t) : Rd (H.set r (.row w 7 26 (es.set i x))) v t := rd_mono (fun id w' es' hr' => by
  by_cases e : r = id
  · subst e
    rw [hr] at hr'
    injection hr' with hr'
    injection hr' with h1 _ _ h2
    subst h1 h2
    refine ⟨es.set i x, List.getElem?_set_self (List.getElem?_eq_some_iff.1 hr).1, by simp, fun j hj => ?_⟩
    by_cases hij : i = j
    · subst hij
      right
      intro u' hu'
      rw [hu] at hu'
      rw [rd_eT hu', List.getElem_set_self]
      exact hx
    · left
      rw [List.getElem_set_ne hij]
  · exact ⟨es', by rw [List.getElem?_set_ne e]; exact hr', rfl, fun _ _ => .inl rfl⟩) h
/-! ### how deep -/
def shal : Nat → Tm → Prop
  | 0, _ => False
  | n + 1, t => ∀ u ∈ t.kids, shal n u
theorem room_shal {most : Int} : ∀ (n : Nat) (t : Tm) (dep : Int), dep < n → roomS t dep most = true → shal n t
  | 0, t, dep, hd, h => by
    rw [roomS_eq] at h
    simp only [Bool.and_eq_true, Bool.not_eq_true', Bool.or_eq_false_iff, decide_eq_false_iff_not] at h
    omega
  | n + 1, t, dep, hd, h => by
    rw [roomS_eq] at h
    simp only [Bool.and_eq_true, Bool.not_eq_true', Bool.or_eq_false_iff, decide_eq_false_iff_not, List.all_eq_true] at h
    exact fun u hu => room_shal n u (dep - 1) (by omega) (h.2 u hu)
theorem mapM_get {α β : Type} {f : α → Option β} {g : List β} : ∀ {l : List α}, (hl : l.length = g.length) → (∀ i (hi : i < l.length), f l[i] = some (g[i]'(hl ▸ hi))) → l.mapM f = some g := by
  induction g with
  | nil =>
    intro l hl _
    have : l = [] := List.length_eq_zero_iff.1 hl
    subst this
    rfl
  | cons b g ih =>
    intro l hl h
    cases l with
    | nil => simp at hl
    | cons a l =>
      have h0 := h 0 (by simp)
      simp only [List.getElem_cons_zero] at h0
      have h1 := ih (l := l) (by simpa using hl) fun i hi => by
        have := h (i + 1) (by simp; omega)
        simpa using this
      simp [List.mapM_cons, h0, h1]
theorem frz_eL {n sz : Nat} {α : Type} {e : α → AV} {H : Heap} {o : Option (List α)} : A.freezeB true (n + 1) H (eL sz e o) = some (eL sz e o) := by cases o <;> rfl
theorem frz_op {n : Nat} {H : Heap} {t : Tm} {v w : AV} (h : A.freezeB true (n + 1) H v = some w) : A.freezeB true (n + 2) H (op t v) = some (op t w) := by
  have hd : A.freezeB true (n + 1) H (eD t.d) = some (eD t.d) := frz_eL
  have hb : A.freezeB true (n + 1) H (eL 1 eb t.b) = some (eL 1 eb t.b) := frz_eL
  show ([AV.int .i64 t.kind, .bool t.neg, eD t.d, .str t.name, .int .i64 t.n, v, eL 1 eb t.b].mapM (A.freezeB true (n + 1) H)).map AV.agg = _
  have h0 : A.freezeB true (n + 1) H (.int .i64 t.kind) = some (.int .i64 t.kind) := rfl
  have h1 : A.freezeB true (n + 1) H (.bool t.neg) = some (.bool t.neg) := rfl
  have h3 : A.freezeB true (n + 1) H (.str t.name) = some (.str t.name) := rfl
  have h4 : A.freezeB true (n + 1) H (.int .i64 t.n) = some (.int .i64 t.n) := rfl
  simp [List.mapM_cons, h0, h1, hd, h3, h4, h, hb, op]
theorem rd_agg {H : Heap} {v : AV} {t : Tm} (h : Rd H v t) : ∃ cs, v = .agg cs := by
  cases h with
  | imm => exact ⟨_, eT_eq t⟩
  | nil => exact ⟨_, rfl⟩
  | own => exact ⟨_, rfl⟩
theorem rd_freeze {H : Heap} : ∀ (n : Nat) (t : Tm) (v : AV), shal n t → Rd H v t → A.freezeB true (n + 1) H v = some (eT t)
  | 0, _, _, hs, _ => by cases hs
  | n + 1, t, v, hs, h => by
    cases h with
    | imm =>
      rw [← op_eT]
      exact frz_op frz_eL
    | nil _ h =>
      rw [← op_eT, h]
      exact frz_op rfl
    | own _ l id w cap es h hr hn he =>
      rw [← op_eT, h]
      refine frz_op ?_
      have hk : ∀ u ∈ l, shal n u := fun u hu => hs u (by unfold Tm.kids; rw [h]; exact hu)
      show (match H[id]? with | some (.row w' z _ es) => if w' = w ∧ 0 + l.length ≤ es.length then (((es.drop 0).take l.length).mapM fun (e : AV) => match e with | AV.agg cs => (cs.mapM (A.freezeB true n H)).map AV.agg | e => A.freezeB true n H e).map (AV.sh z) else none | _ => none) = _
      rw [hr]
      dsimp only
      rw [if_pos ⟨rfl, by omega⟩, List.drop_zero, List.take_of_length_le (by omega)]
      have : (es.mapM fun (e : AV) => match e with | AV.agg cs => (cs.mapM (A.freezeB true n H)).map AV.agg | e => A.freezeB true n H e) = some (l.map eT) := mapM_get (by simpa using hn) fun i hi => by
        have hri := he i hi
        have hf := rd_freeze n _ _ (hk _ (List.getElem_mem (by omega))) hri
        obtain ⟨cs, hcs⟩ := rd_agg hri
        rw [hcs] at hf ⊢
        simp only [List.getElem_map]
        exact hf
      rw [this]
      rfl
end Go.Proofs.YtleikacgncpfbaaDoor

/- Terms: what still is to be copied. -/
set_option maxRecDepth 100000
set_option maxHeartbeats 4000000
namespace Go.Proofs.YtleikacgncpfbaaDoor
open Go Go.Den
section
variable {H : Heap} {id ver sz j : Nat} {ty : TypeId} {es cs : List AV}
theorem cell_load {off : Nat} {v : AV} (h : H[id]? = some (.row ver sz ty es)) (he : es[j]? = some (.agg cs)) (hv : cs[off]? = some v) : A.load false 1 (.ptr id ver j off) H = some v := by
  simp [A.load, A.elemAt, h, he, A.ofList, AV.cells, hv]
theorem cell_fa {o : Nat} (h : H[id]? = some (.row ver sz ty es)) : A.fa o (.ptr id ver j 0) H = some (.ptr id ver j o) := by
  simp [A.fa, A.alive, h]
theorem cell_store {off : Nat} {v w : AV} (h : H[id]? = some (.row ver sz ty es)) (he : es[j]? = some (.agg cs)) (hw : cs[off]? = some w) (hv : v.one = true) : A.store 1 (.ptr id ver j off) v H = some (H.set id (.row ver sz ty (es.set j (.agg (cs.set off v))))) := by
  have hc : v.cells = [v] := by cases v <;> first | rfl | cases hv
  have hl : off < cs.length := (List.getElem?_eq_some_iff.1 hw).1
  have hs : A.splice cs off [v] = cs.set off v := by
    unfold A.splice
    rw [List.set_eq_take_append_cons_drop, if_pos hl]
    simp
  simp [A.store, A.fits, hc, hv, h, he, A.setElem, hs]
  omega
theorem cell_store_same {off : Nat} {v : AV} (h : H[id]? = some (.row ver sz ty es)) (he : es[j]? = some (.agg cs)) (hw : cs[off]? = some v) (hv : v.one = true) : A.store 1 (.ptr id ver j off) v H = some H := by
  rw [cell_store h he hw hv]
  congr 1
  have e1 : cs.set off v = cs := by
    rw [List.getElem?_eq_some_iff] at hw
    obtain ⟨hl, hw⟩ := hw
    rw [← hw]
    exact List.set_getElem_self _
  have e2 : es.set j (.agg cs) = es := by
    rw [List.getElem?_eq_some_iff] at he
    obtain ⟨hl, he⟩ := he
    rw [← he]
    exact List.set_getElem_self _
  rw [e1, e2]
  rw [List.getElem?_eq_some_iff] at h
  obtain ⟨hl, h⟩ := h
  rw [← h]
  exact List.set_getElem_self _
end
end Go.Proofs.YtleikacgncpfbaaDoor

/- Terms: one more is copied. -/
set_option maxRecDepth 100000
set_option maxHeartbeats 4000000
namespace Go.Proofs.YtleikacgncpfbaaDoor
open Go Go.Den
structure Ent where
  r : Nat
  w : Nat
  i : Nat
  u : Tm
  id : Nat
def Ent.ptr (e : Ent) : AV := .ptr e.r e.w e.i 0
def Ent.own (e : Ent) : Prop := e.u.l ≠ none
def Pend (H : Heap) (e : Ent) : Prop := ∃ es : List AV, H[e.r]? = some (.row e.w 7 26 es) ∧ es[e.i]? = some (op e.u (cv e.id e.u.l)) ∧ ∀ l, e.u.l = some l → H[e.id]? = some (.row (cw l) 7 26 (l.map eT))
structure CInv (t : Tm) (q ver cap : Nat) (P : List Ent) (H : Heap) : Prop where
  root : ∃ v, H[0]? = some (.row 0 7 26 [v]) ∧ Rd H v t
  todo : ∃ es : List AV, H[q]? = some (.row ver 1 86 es) ∧ es.take P.length = P.map Ent.ptr ∧ P.length ≤ cap
  pend : ∀ e ∈ P, Pend H e
  ids : ∀ e ∈ P, e.own → e.id ≠ q ∧ e.id < H.length ∧ e.id ≠ 0
  dist : P.Pairwise fun e f => e.own → f.own → e.id ≠ f.id
  apart : ∀ e ∈ P, ∀ f ∈ P, f.own → e.r ≠ f.id
structure Cur (p : Ent) (l : List Tm) (i q : Nat) (P : List Ent) (H : Heap) : Prop where
  ul : p.u.l = some l
  cell : ∃ es : List AV, H[p.r]? = some (.row p.w 7 26 es) ∧ es[p.i]? = some (op p.u (cv p.id p.u.l))
  rows : ∃ es : List AV, H[p.id]? = some (.row (cw l) 7 26 es) ∧ es.length = l.length ∧ ∀ j (hj : j < l.length), i ≤ j → es[j]? = some (eT l[j])
  idq : p.id ≠ q
  id0 : p.id ≠ 0
  rid : p.r ≠ p.id
  oth : ∀ e ∈ P, e.own → e.id ≠ p.id ∧ e.id ≠ p.r
  kid : ∀ e ∈ P, e.r = p.id → e.i < i
theorem row_ne {H : Heap} {a b v w : Nat} {ty ty' : TypeId} {es fs : List AV} (h : H[a]? = some (.row v 7 ty es)) (g : H[b]? = some (.row w 1 ty' fs)) : a ≠ b := fun e => by
  subst e
  rw [h] at g
  injection g with g
  injection g with _ g
  cases g
theorem cp_step {t : Tm} {q ver cap : Nat} {P : List Ent} {H : Heap} {p : Ent} {l : List Tm} {i : Nat} (hC : CInv t q ver cap P H) (hK : Cur p l i q P H) (hi : i < l.length) (hb : P.length ≤ 1000000000) {es : List AV} (hes : H[p.id]? = some (.row (cw l) 7 26 es)) (hn : es.length = l.length) (hej : ∀ j (hj : j < l.length), i ≤ j → es[j]? = some (eT l[j])) {H6 : Heap} (h6 : H6 = (H ++ cr l[i].l ((l[i].l.getD []).map eT)).set p.id (.row (cw l) 7 26 (es.set i (op l[i] (cv H.length l[i].l))))) :
    ∃ ver' cap' H8, A.append 1 8 86 (.sl q ver 0 P.length cap) [.ptr p.id (cw l) i 0] (H6 ++ [.row 0 1 86 [.ptr p.id (cw l) i 0]]) = some (.sl q ver' 0 (P ++ [(⟨p.id, cw l, i, l[i], H.length⟩ : Ent)]).length cap', H8) ∧ CInv t q ver' cap' (P ++ [(⟨p.id, cw l, i, l[i], H.length⟩ : Ent)]) H8 ∧ Cur p l (i + 1) q (P ++ [(⟨p.id, cw l, i, l[i], H.length⟩ : Ent)]) H8 := by
  obtain ⟨v0, hv0, hv⟩ := hC.root
  obtain ⟨es0, hq, htk, hcap⟩ := hC.todo
  have hpl : p.id < H.length := (List.getElem?_eq_some_iff.1 hes).1
  have hql : q < H.length := (List.getElem?_eq_some_iff.1 hq).1
  have h0q : 0 ≠ q := row_ne hv0 hq
  have hidq := hK.idq
  have hid0 := hK.id0
  have hei : es[i]? = some (eT l[i]) := hej i hi (Nat.le_refl _)
  obtain ⟨hil, hei'⟩ := List.getElem?_eq_some_iff.1 hei
  generalize hnew : (⟨p.id, cw l, i, l[i], H.length⟩ : Ent) = new at *
  generalize hX : cr l[i].l ((l[i].l.getD []).map eT) = X at *
  generalize hH3 : H ++ X = H3 at *
  have g3 : ∀ k o, H[k]? = some o → H3[k]? = some o := fun k o h => by
    rw [← hH3, List.getElem?_append_left (List.getElem?_eq_some_iff.1 h).1]
    exact h
  have hl3 : H.length ≤ H3.length := by rw [← hH3]; simp
  generalize hes6 : es.set i (op l[i] (cv H.length l[i].l)) = es6 at *
  have g6 : ∀ k o, H3[k]? = some o → k ≠ p.id → H6[k]? = some o := fun k o h hk => by
    rw [h6, List.getElem?_set_ne (fun e => hk e.symm)]
    exact h
  have hl6 : H6.length = H3.length := by rw [h6]; simp
  have hp6 : H6[p.id]? = some (.row (cw l) 7 26 es6) := by rw [h6]; exact List.getElem?_set_self (by omega)
  have hrow : ∀ l', l[i].l = some l' → H6[H.length]? = some (.row (cw l') 7 26 (l'.map eT)) := fun l' hl' => by
    refine g6 _ _ ?_ (by omega)
    rw [← hH3, ← hX, hl']
    simp [cr]
  -- the root
  have r3 : Rd H3 v0 t := by rw [← hH3]; exact rd_push hv
  have hx : Rd H6 (op l[i] (cv H.length l[i].l)) l[i] := by
    cases hu : l[i].l with
    | none => exact .nil _ hu
    | some l' =>
      refine .own _ l' _ _ _ _ hu (hrow l' hu) (by simp) fun j hj => ?_
      rw [List.getElem_map]
      exact .imm _
  have r6 : Rd H6 v0 t := by
    rw [h6, ← hes6] at hx ⊢
    exact rd_open (g3 _ _ hes) hil hei' hx r3
  generalize hH7 : H6 ++ [.row 0 1 86 [.ptr p.id (cw l) i 0]] = H7
  have g7 : ∀ k o, H6[k]? = some o → H7[k]? = some o := fun k o h => by
    rw [← hH7, List.getElem?_append_left (List.getElem?_eq_some_iff.1 h).1]
    exact h
  have r7 : Rd H7 v0 t := by rw [← hH7]; exact rd_push r6
  have hl7 : H7.length = H3.length + 1 := by rw [← hH7]; simp [hl6]
  have hq7 : H7[q]? = some (.row ver 1 86 es0) := g7 _ _ (g6 _ _ (g3 _ _ hq) (fun e => hidq e.symm))
  have hptr : new.ptr = .ptr p.id (cw l) i 0 := by rw [← hnew]; rfl
  have hlen : (P ++ [new]).length = P.length + 1 := by simp
  have happ : ∃ ver' cap' es', A.append 1 8 86 (.sl q ver 0 P.length cap) [.ptr p.id (cw l) i 0] H7 = some (.sl q ver' 0 (P ++ [new]).length cap', H7.set q (.row ver' 1 86 es')) ∧ es'.take (P ++ [new]).length = (P ++ [new]).map Ent.ptr ∧ (P ++ [new]).length ≤ cap' := by
    have hle : P.length ≤ es0.length := by
      have := congrArg List.length htk
      simp at this
      omega
    by_cases hc : P.length + 1 ≤ cap
    · refine ⟨ver, cap, A.splice es0 P.length [.ptr p.id (cw l) i 0], ?_, ?_, by omega⟩
      · simp only [A.append, hq7]
        rw [if_pos ⟨trivial, trivial, trivial, by omega, by omega, by simp; omega, by omega⟩, if_pos (by simpa using hc)]
        simp
      · have : A.splice es0 P.length [.ptr p.id (cw l) i 0] = es0.take P.length ++ [.ptr p.id (cw l) i 0] ++ es0.drop (P.length + 1) := rfl
        rw [this, htk, List.map_append, List.map_cons, List.map_nil, hptr, List.take_append_of_le_length (by simp), List.take_of_length_le (by simp)]
    · refine ⟨ver + 1, P.length + 1, P.map Ent.ptr ++ [.ptr p.id (cw l) i 0], ?_, ?_, by omega⟩
      · simp only [A.append, hq7]
        rw [if_pos ⟨trivial, trivial, trivial, by omega, by omega, by simp; omega, by omega⟩, if_neg (by simpa using hc)]
        simp [htk]
      · rw [List.map_append, List.map_cons, List.map_nil, hptr, List.take_of_length_le (by simp)]
  obtain ⟨ver', cap', es', ha, htk', hcap'⟩ := happ
  have g8 : ∀ k o, H7[k]? = some o → k ≠ q → (H7.set q (.row ver' 1 86 es'))[k]? = some o := fun k o h hk => by
    rw [List.getElem?_set_ne (fun e => hk e.symm)]
    exact h
  generalize hH8 : H7.set q (.row ver' 1 86 es') = H8 at *
  have fr : ∀ k o, H[k]? = some o → k ≠ p.id → k ≠ q → H8[k]? = some o := fun k o h h1 h2 => g8 _ _ (g7 _ _ (g6 _ _ (g3 _ _ h) h1)) h2
  have hp8 : H8[p.id]? = some (.row (cw l) 7 26 es6) := g8 _ _ (g7 _ _ hp6) hidq
  have hl8 : H8.length = H3.length + 1 := by rw [← hH8]; simp [hl7]
  have hnr : new.r = p.id := by rw [← hnew]
  have hnid : new.id = H.length := by rw [← hnew]
  have hnu : new.u = l[i] := by rw [← hnew]
  have hni : new.i = i := by rw [← hnew]
  have hnw : new.w = cw l := by rw [← hnew]
  have hes6i : es6[i]? = some (op l[i] (cv H.length l[i].l)) := by rw [← hes6]; exact List.getElem?_set_self hil
  have hrl : ∀ e ∈ P, e.r < H.length := fun e he => by
    obtain ⟨fs, h1, -⟩ := hC.pend e he
    exact (List.getElem?_eq_some_iff.1 h1).1
  refine ⟨ver', cap', H8, ha, ⟨⟨v0, fr _ _ hv0 (fun e => hid0 e.symm) h0q, ?_⟩, ⟨es', ?_, htk', hcap'⟩, ?_, ?_, ?_, ?_⟩, ⟨hK.ul, ?_, ⟨es6, hp8, by rw [← hes6]; simpa using hn, ?_⟩, hidq, hid0, hK.rid, ?_, ?_⟩⟩
  · rw [← hH8]
    exact rd_other hq7 (by omega) r7
  · rw [← hH8]
    exact List.getElem?_set_self (by omega)
  · intro e he
    rcases List.mem_append.1 he with he | he
    · obtain ⟨fs, h1, h2, h3⟩ := hC.pend e he
      have hkids : ∀ l', e.u.l = some l' → H8[e.id]? = some (.row (cw l') 7 26 (l'.map eT)) := fun l' hl' => by
        have ho : e.own := by unfold Ent.own; rw [hl']; simp
        exact fr _ _ (h3 l' hl') (hK.oth e he ho).1 (hC.ids e he ho).1
      by_cases hr : e.r = p.id
      · rw [hr, hes] at h1
        injection h1 with h1
        injection h1 with h1 _ _ h4
        have hei2 := hK.kid e he hr
        refine ⟨es6, by rw [hr, ← h1]; exact hp8, ?_, hkids⟩
        rw [← hes6, List.getElem?_set_ne (by omega), h4]
        exact h2
      · exact ⟨fs, fr _ _ h1 hr (row_ne h1 hq), h2, hkids⟩
    · rw [List.mem_singleton] at he
      rw [he]
      refine ⟨es6, by rw [hnr, hnw]; exact hp8, by rw [hni, hnu, hnid]; exact hes6i, fun l' hl' => ?_⟩
      rw [hnu] at hl'
      rw [hnid]
      exact g8 _ _ (g7 _ _ (hrow l' hl')) (by omega)
  · intro e he ho
    rcases List.mem_append.1 he with he | he
    · have := hC.ids e he ho
      exact ⟨this.1, by omega, this.2.2⟩
    · rw [List.mem_singleton] at he
      rw [he]
      rw [hnid]
      exact ⟨by omega, by omega, by omega⟩
  · rw [List.pairwise_append]
    refine ⟨hC.dist, List.pairwise_singleton _ _, fun e he f hf ho _ => ?_⟩
    rw [List.mem_singleton] at hf
    rw [hf]
    have := (hC.ids e he ho).2.1
    rw [hnid]
    omega
  · intro e he f hf ho
    rcases List.mem_append.1 he with he | he
    · rcases List.mem_append.1 hf with hf | hf
      · exact hC.apart e he f hf ho
      · rw [List.mem_singleton] at hf
        rw [hf]
        have := hrl e he
        rw [hnid]
        omega
    · rw [List.mem_singleton] at he
      rw [he]
      rw [hnr]
      rcases List.mem_append.1 hf with hf | hf
      · exact fun e => (hK.oth f hf ho).1 e.symm
      · rw [List.mem_singleton] at hf
        rw [hf]
        rw [hnid]
        omega
  · obtain ⟨fs, h1, h2⟩ := hK.cell
    exact ⟨fs, fr _ _ h1 hK.rid (row_ne h1 hq), h2⟩
  · intro j hj hij
    rw [← hes6, List.getElem?_set_ne (by omega)]
    exact hej j hj (by omega)
  · intro e he ho
    rcases List.mem_append.1 he with he | he
    · exact hK.oth e he ho
    · rw [List.mem_singleton] at he
      rw [he]
      obtain ⟨fs, h1, h2⟩ := hK.cell
      have := (List.getElem?_eq_some_iff.1 h1).1
      rw [hnid]
      exact ⟨by omega, by omega⟩
  · intro e he hr
    rcases List.mem_append.1 he with he | he
    · have := hK.kid e he hr
      omega
    · rw [List.mem_singleton] at he
      rw [he]
      rw [hni]
      omega
end Go.Proofs.YtleikacgncpfbaaDoor

/- Terms: the parts of one are copied; all are. -/
set_option maxRecDepth 100000
set_option maxHeartbeats 4000000
namespace Go.Proofs.YtleikacgncpfbaaDoor
open Go Go.Den
def fineOne (u : Tm) : Prop := few u.d ∧ fewB u.b ∧ u.kids.length ≤ 1000
noncomputable abbrev TCp : List (FuncId × Pol) := [(72, pClone), (71, pBclone), (73, pTclone)]
theorem ty_ptrs : base.P.underlying 87 = some (.slice 86) := by kernel_rfl
theorem cv_one (id : Nat) (o : Option (List Tm)) : (cv id o).one = true := by cases o <;> rfl
theorem cp_inner {t : Tm} {q : Nat} {p : Ent} {l : List Tm} {t3 : AV} {c1 : List AV} (hl : ∀ u ∈ l, fineOne u) : ∀ (k i : Nat) (P : List Ent) (ver cap : Nat) (H : Heap), i + k = l.length → CInv t q ver cap P H → Cur p l i q P H → P.length + k ≤ 1000000000 → l.length ≤ 1000 →
    ∃ (P' : List Ent) (ver' cap' : Nat) (H' : Heap), P'.map Ent.u = P.map Ent.u ++ l.drop i ∧ CInv t q ver' cap' P' H' ∧ LDoes (L44_1 (polT TCp)) ⟨[t3, .sl q ver 0 P.length cap, .ptr p.r p.w p.i 0, .int .i64 (l.length : Int), .int .i64 (i : Int)], [c1]⟩ H 0 ⟨[t3, .sl q ver' 0 P'.length cap'], [c1]⟩ H' := by
  intro k
  induction k with
  | zero =>
    intro i P ver cap H hi hC hK hb hll
    have : i = l.length := by omega
    subst this
    refine ⟨P, ver, cap, H, by simp, hC, LDoes.step (Evs.of fun n m => ?_)⟩
    simp [↓test_bool, ↓withV_of, L44_1_step]
  | succ k ih =>
    intro i P ver cap H hi hC hK hb hll
    have hlt : i < l.length := by omega
    have hlt' : (i : Int) < (l.length : Int) := by omega
    obtain ⟨es, hes, hn, hej⟩ := hK.rows
    obtain ⟨H6, h6⟩ : ∃ H6, H6 = (H ++ cr l[i].l ((l[i].l.getD []).map eT)).set p.id (.row (cw l) 7 26 (es.set i (op l[i] (cv H.length l[i].l)))) := ⟨_, rfl⟩
    obtain ⟨ver', cap', H8, happ, hC', hK'⟩ := cp_step hC hK hlt (by omega) hes hn hej h6
    obtain ⟨P', ver2, cap2, H', hP', hC2, hL⟩ := ih (i + 1) _ ver' cap' H8 (by omega) hC' hK' (by simp; omega) hll
    have hu := hl l[i] (List.getElem_mem hlt)
    obtain ⟨fs, hc1, hc2⟩ := hK.cell
    rw [hK.ul] at hc2
    have hpl : p.id < H.length := (List.getElem?_eq_some_iff.1 hes).1
    have hei := hej i hlt (Nat.le_refl _)
    rw [← op_eT] at hei
    -- the place that is copied from
    have a1 : A.nilCheck (.ptr p.r p.w p.i 0) H = some (.ptr p.r p.w p.i 0) := row_nilCheck hc1
    have a2 : A.fa 5 (.ptr p.r p.w p.i 0) H = some (.ptr p.r p.w p.i 5) := cell_fa hc1
    have a3 : A.load false 1 (.ptr p.r p.w p.i 5) H = some (.sl p.id (cw l) 0 l.length l.length) := cell_load hc1 hc2 rfl
    have a4 : A.idx 7 (.sl p.id (cw l) 0 l.length l.length) (.int .i64 (i : Int)) H = some (.ptr p.id (cw l) i 0) := by
      have := row_idx (cap := l.length) (off := 0) (k := .i64) hes (i := (i : Int)) (n := l.length) (by omega) hlt'
      simpa using this
    -- the part
    have b1 : A.nilCheck (.ptr p.id (cw l) i 0) H = some (.ptr p.id (cw l) i 0) := row_nilCheck hes
    have b2 : A.fa 2 (.ptr p.id (cw l) i 0) H = some (.ptr p.id (cw l) i 2) := cell_fa hes
    have b6 : A.fa 6 (.ptr p.id (cw l) i 0) H = some (.ptr p.id (cw l) i 6) := cell_fa hes
    have b5 : A.fa 5 (.ptr p.id (cw l) i 0) H = some (.ptr p.id (cw l) i 5) := cell_fa hes
    have d2 : A.load false 1 (.ptr p.id (cw l) i 2) H = some (eD l[i].d) := cell_load hes hei rfl
    have d6 : A.load false 1 (.ptr p.id (cw l) i 6) H = some (eL 1 eb l[i].b) := cell_load hes hei rfl
    have d5 : A.load false 1 (.ptr p.id (cw l) i 5) H = some (eL 7 eT l[i].l) := cell_load hes hei rfl
    have q2 : ∀ (R : Type) (H : Heap) (k : AV → Heap → Option R), polQ pClone [eD l[i].d] H k = k (eD l[i].d) H := fun R H k => qClone hu.1
    have q6 : ∀ (R : Type) (H : Heap) (k : AV → Heap → Option R), polQ pBclone [eL 1 eb l[i].b] H k = k (eL 1 eb l[i].b) H := fun R H k => qBclone hu.2.1
    have q5 : ∀ (R : Type) (k : AV → Heap → Option R), polK pTclone [eL 7 eT l[i].l] H k = k (cv H.length l[i].l) (H ++ cr l[i].l ((l[i].l.getD []).map eT)) := fun R k => kTclone hu.2.2
    have hes3 : (H ++ cr l[i].l ((l[i].l.getD []).map eT))[p.id]? = some (.row (cw l) 7 26 es) := by
      rw [List.getElem?_append_left hpl]
      exact hes
    have e1 : A.nilCheck (.ptr p.id (cw l) i 0) (H ++ cr l[i].l ((l[i].l.getD []).map eT)) = some (.ptr p.id (cw l) i 0) := row_nilCheck hes3
    have e2 : A.fa 2 (.ptr p.id (cw l) i 0) (H ++ cr l[i].l ((l[i].l.getD []).map eT)) = some (.ptr p.id (cw l) i 2) := cell_fa hes3
    have e6 : A.fa 6 (.ptr p.id (cw l) i 0) (H ++ cr l[i].l ((l[i].l.getD []).map eT)) = some (.ptr p.id (cw l) i 6) := cell_fa hes3
    have e5 : A.fa 5 (.ptr p.id (cw l) i 0) (H ++ cr l[i].l ((l[i].l.getD []).map eT)) = some (.ptr p.id (cw l) i 5) := cell_fa hes3
    have hone : ∀ d : Option (List UInt32), (eD d).one = true := fun d => by cases d <;> rfl
    have honb : ∀ d : Option (List UInt8), (eL 1 eb d).one = true := fun d => by cases d <;> rfl
    have s2 : A.store 1 (.ptr p.id (cw l) i 2) (eD l[i].d) (H ++ cr l[i].l ((l[i].l.getD []).map eT)) = some (H ++ cr l[i].l ((l[i].l.getD []).map eT)) := cell_store_same hes3 hei rfl (hone _)
    have s6 : A.store 1 (.ptr p.id (cw l) i 6) (eL 1 eb l[i].b) (H ++ cr l[i].l ((l[i].l.getD []).map eT)) = some (H ++ cr l[i].l ((l[i].l.getD []).map eT)) := cell_store_same hes3 hei rfl (honb _)
    have s5 : A.store 1 (.ptr p.id (cw l) i 5) (cv H.length l[i].l) (H ++ cr l[i].l ((l[i].l.getD []).map eT)) = some H6 := by
      rw [h6]
      exact cell_store hes3 hei rfl (cv_one _ _)
    have hfe : A.fillElems 1 [AV.nilp] [(0, 1, .ptr p.id (cw l) i 0)] = some [.ptr p.id (cw l) i 0] := by simp [A.fillElems]
    have hrd : A.read 1 (.sl H6.length 0 0 1 1) (H6 ++ [.row 0 1 86 [.ptr p.id (cw l) i 0]]) = some [.ptr p.id (cw l) i 0] := row_read row_push rfl
    have hi1 : IntKind.wrap .i64 ((i : Int) + 1) = (i : Int) + 1 := wrap_i64 (by omega) (by omega)
    simp only [Int.natCast_add, Int.natCast_one] at hL
    refine ⟨P', ver2, cap2, H', ?_, hC2, LDoes.step (Evs.withL hL (Evs.of fun n m _ h2 => ?_))⟩
    · rw [hP', List.drop_eq_getElem_cons hlt]
      simp
    generalize H ++ cr l[i].l ((l[i].l.getD []).map eT) = H3 at *
    generalize cv H.length l[i].l = V at *
    generalize (P ++ [(⟨p.id, cw l, i, l[i], H.length⟩ : Ent)]).length = PL at *
    generalize eD l[i].d = vd at *
    generalize eL 1 eb l[i].b = vb at *
    generalize eL 7 eT l[i].l = vl at *
    generalize (l.length : Int) = N at *
    simp [↓test_bool, ↓bindV_eq, ↓bindH_eq, ↓withV_of, ↓withL_some, ↓withH_some, ↓withVH_some, L44_1_step, hlt', a1, a2, a3, a4, b1, b2, b6, b5, d2, d6, d5, q2, q6, q5, e1, e2, e6, e5, s2, s6, s5, hfe, newsZ_sl ty_ptrs, hrd, happ, hi1, h2]
end Go.Proofs.YtleikacgncpfbaaDoor

/- Terms: all that is still to be copied. -/
set_option maxRecDepth 100000
set_option maxHeartbeats 4000000
namespace Go.Proofs.YtleikacgncpfbaaDoor
open Go Go.Den
theorem sizes_append : ∀ a b : List Tm, Tm.sizes (a ++ b) = Tm.sizes a + Tm.sizes b
  | [], b => by simp [Tm.sizes]
  | t :: a, b => by simp only [List.cons_append, Tm.sizes, sizes_append a b]; omega
theorem len_sizes : ∀ l : List Tm, l.length ≤ Tm.sizes l
  | [] => by simp
  | t :: l => by
    have := len_sizes l
    have h := t.size_eq
    simp only [List.length_cons, Tm.sizes]
    omega
def fineT (t : Tm) : Prop := evT fineOne t
theorem fineT_eq {t : Tm} : fineT t ↔ fineOne t ∧ ∀ u ∈ t.kids, fineT u := evT_eq
theorem cp_outer {t : Tm} {q : Nat} {t3 : AV} {c1 : List AV} : ∀ (N : Nat) (P : List Ent) (ver cap : Nat) (H : Heap), Tm.sizes (P.map Ent.u) ≤ N → N ≤ 1000000000 → CInv t q ver cap P H → (∀ e ∈ P, fineT e.u) →
    ∃ H', (∃ v, H'[0]? = some (.row 0 7 26 [v]) ∧ Rd H' v t) ∧ LDoes (L44_0 (polT TCp)) ⟨[t3, .sl q ver 0 P.length cap], [c1]⟩ H 0 ⟨[t3], [c1]⟩ H' := by
  intro N
  induction N with
  | zero =>
    intro P ver cap H hN hB hC hf
    have hp : P = [] := by
      have := len_sizes (P.map Ent.u)
      simp at this
      exact List.length_eq_zero_iff.1 (by omega)
    subst hp
    obtain ⟨es0, hq, -, -⟩ := hC.todo
    have f0 : A.len (.sl q ver 0 0 cap) H = some (.int .i64 0) := by simp [A.len, A.alive, hq]
    refine ⟨H, hC.root, LDoes.step (Evs.of fun n m => ?_)⟩
    simp [↓test_bool, ↓withV_of, L44_0_step, f0]
  | succ N ih =>
    intro P ver cap H hN hB hC hf
    obtain ⟨es0, hq, htk, hcap⟩ := hC.todo
    rcases List.eq_nil_or_concat P with rfl | ⟨P, p, rfl⟩
    · have f0 : A.len (.sl q ver 0 0 cap) H = some (.int .i64 0) := by simp [A.len, A.alive, hq]
      refine ⟨H, hC.root, LDoes.step (Evs.of fun n m => ?_)⟩
      simp [↓test_bool, ↓withV_of, L44_0_step, f0]
    · simp only [List.concat_eq_append] at *
      have hn : (P ++ [p]).length = P.length + 1 := by simp
      have hpm : p ∈ P ++ [p] := by simp
      have hle : P.length + 1 ≤ es0.length := by
        have := congrArg List.length htk
        simp at this
        omega
      have hlast : es0[P.length]? = some p.ptr := by
        have h2 := congrArg (fun l => l[P.length]?) htk
        simp only [List.getElem?_take, List.map_append, List.map_cons, List.map_nil] at h2
        rw [if_pos (by simp)] at h2
        rw [h2, List.getElem?_append_right (by simp)]
        simp
      have htk' : es0.take P.length = P.map Ent.ptr := by
        have h3 := congrArg (List.take P.length) htk
        rw [List.take_take] at h3
        simpa using h3
      have hmem : ∀ e ∈ P, e ∈ P ++ [p] := fun e he => List.mem_append_left _ he
      have hdist := List.pairwise_append.1 hC.dist
      have hC0 : CInv t q ver cap P H := ⟨hC.root, ⟨es0, hq, htk', by omega⟩, fun e he => hC.pend e (hmem e he), fun e he => hC.ids e (hmem e he), hdist.1, fun e he f hf => hC.apart e (hmem e he) f (hmem f hf)⟩
      obtain ⟨fs, hc1, hc2, hc3⟩ := hC.pend p hpm
      have hsz : Tm.sizes ((P ++ [p]).map Ent.u) = Tm.sizes (P.map Ent.u) + p.u.size := by
        rw [List.map_append, sizes_append]
        simp [Tm.sizes]
      have hpl : P.length ≤ Tm.sizes (P.map Ent.u) := by
        have := len_sizes (P.map Ent.u)
        simpa using this
      have hpsz := p.u.size_eq
      have e1 : ((P.length + 1 : Nat) : Int) - 1 = (P.length : Int) := by omega
      have hw : IntKind.wrap .i64 (((P.length + 1 : Nat) : Int) - 1) = (P.length : Int) := by rw [wrap_i64 (by omega) (by omega), e1]
      have hpos : (0 : Int) < ((P.length + 1 : Nat) : Int) := by omega
      have f1 : A.len (.sl q ver 0 (P.length + 1) cap) H = some (.int .i64 ((P.length + 1 : Nat) : Int)) := by simp [A.len, A.alive, hq]
      have f2 : A.idx 1 (.sl q ver 0 (P.length + 1) cap) (.int .i64 (P.length : Int)) H = some (.ptr q ver P.length 0) := by
        have := row_idx (cap := cap) (off := 0) (k := .i64) hq (i := (P.length : Int)) (n := P.length + 1) (by omega) (by omega)
        simpa using this
      have f3 : A.load false 1 (.ptr q ver P.length 0) H = some (.ptr p.r p.w p.i 0) := row_load hq hlast rfl
      have f4 : A.slice 1 (.sl q ver 0 (P.length + 1) cap) none (some (.int .i64 (P.length : Int))) none H = some (.sl q ver 0 P.length cap) := by
        simp [A.slice, A.bound, A.aliveZ, hq]
        omega
      have f5 : A.nilCheck (.ptr p.r p.w p.i 0) H = some (.ptr p.r p.w p.i 0) := row_nilCheck hc1
      have f6 : A.fa 5 (.ptr p.r p.w p.i 0) H = some (.ptr p.r p.w p.i 5) := cell_fa hc1
      have f7 : A.load false 1 (.ptr p.r p.w p.i 5) H = some (cv p.id p.u.l) := cell_load hc1 hc2 rfl
      rw [hn]
      cases hul : p.u.l with
      | none =>
        rw [hul] at f7
        have f7 : A.load false 1 (.ptr p.r p.w p.i 5) H = some .nils := f7
        have f9 : A.len .nils H = some (.int .i64 0) := rfl
        obtain ⟨H', hr, hL⟩ := ih P ver cap H (by omega) (by omega) hC0 (fun e he => hf e (hmem e he))
        have hin : LDoes (L44_1 (polT TCp)) ⟨[t3, .sl q ver 0 P.length cap, .ptr p.r p.w p.i 0, .int .i64 0, .int .i64 0], [c1]⟩ H 0 ⟨[t3, .sl q ver 0 P.length cap], [c1]⟩ H := LDoes.step (Evs.of fun n m => by simp [↓test_bool, ↓withV_of, L44_1_step])
        refine ⟨H', hr, LDoes.step (Evs.withL hin (Evs.withL hL (Evs.of fun n m _ h2 h3 _ => ?_)))⟩
        generalize ((P.length + 1 : Nat) : Int) = N1 at *
        simp [↓test_bool, ↓bindV_eq, ↓bindC_eq, ↓withV_of, ↓bindX_some, L44_0_step, f1, hpos, hw, f2, f3, f4, f5, f6, f7, f9, h2, h3]
      | some l =>
        rw [hul] at f7
        have ho : p.own := by unfold Ent.own; rw [hul]; simp
        have hkl : p.u.kids = l := by unfold Tm.kids; rw [hul]; rfl
        have hpf := fineT_eq.1 (hf p hpm)
        have hids := hC.ids p hpm ho
        have hll : l.length ≤ 1000 := by rw [← hkl]; exact hpf.1.2.2
        have hls := len_sizes l
        rw [hkl] at hpsz
        have hK : Cur p l 0 q P H := ⟨hul, ⟨fs, hc1, hc2⟩, ⟨l.map eT, hc3 l hul, by simp, fun j hj _ => by simp [hj]⟩, hids.1, hids.2.2, hC.apart p hpm p hpm ho, fun e he heo => ⟨hdist.2.2 e he p (by simp) heo ho, fun e2 => hC.apart p hpm e (hmem e he) heo e2.symm⟩, fun e he h => absurd h (hC.apart e (hmem e he) p hpm ho)⟩
        obtain ⟨P', ver', cap', H1, hP', hC', hin⟩ := cp_inner (t := t) (q := q) (p := p) (l := l) (t3 := t3) (c1 := c1) (fun u hu => (fineT_eq.1 (hpf.2 u (by rw [hkl]; exact hu))).1) l.length 0 P ver cap H (by omega) hC0 hK (by omega) hll
        rw [List.drop_zero] at hP'
        have hf' : ∀ e ∈ P', fineT e.u := fun e he => by
          have : e.u ∈ P.map Ent.u ++ l := by rw [← hP']; exact List.mem_map_of_mem he
          rcases List.mem_append.1 this with h | h
          · obtain ⟨e', he', h⟩ := List.mem_map.1 h
            rw [← h]
            exact hf e' (hmem e' he')
          · exact hpf.2 _ (by rw [hkl]; exact h)
        obtain ⟨H', hr, hL⟩ := ih P' ver' cap' H1 (by rw [hP', sizes_append]; omega) (by omega) hC' hf'
        refine ⟨H', hr, LDoes.step (Evs.withL hin (Evs.withL hL (Evs.of fun n m _ h2 h3 _ => ?_)))⟩
        have f8 : A.len (cv p.id (some l)) H = some (.int .i64 (l.length : Int)) := by
          have := hc3 l hul
          simp [A.len, A.alive, cv, this]
        simp only [Int.natCast_zero] at h3
        generalize cv p.id (some l) = V at *
        generalize ((P.length + 1 : Nat) : Int) = N1 at *
        generalize (l.length : Int) = N2 at *
        simp [↓test_bool, ↓bindV_eq, ↓bindC_eq, ↓withV_of, ↓bindX_some, L44_0_step, f1, hpos, hw, f2, f3, f4, f5, f6, f7, f8, h2, h3]
end Go.Proofs.YtleikacgncpfbaaDoor

/- Terms: a copy is the term. -/
set_option maxRecDepth 100000
set_option maxHeartbeats 4000000
namespace Go.Proofs.YtleikacgncpfbaaDoor
open Go Go.Den
theorem rd_seven {H : Heap} {v : AV} {t : Tm} (h : Rd H v t) : v.cells.length = 7 ∧ A.fits 7 v = true ∧ A.ofList true 7 v.cells 0 = some v ∧ v.isDef = true ∧ A.splice [.int .i64 0, .bool false, .nils, .str [], .int .i64 0, .nils, .nils] 0 v.cells = v.cells := by
  have hop : ∀ (u : Tm) (w : AV), w.one = true → (op u w).cells.length = 7 ∧ A.fits 7 (op u w) = true ∧ A.ofList true 7 (op u w).cells 0 = some (op u w) ∧ (op u w).isDef = true ∧ A.splice [.int .i64 0, .bool false, .nils, .str [], .int .i64 0, .nils, .nils] 0 (op u w).cells = (op u w).cells := fun u w hw => by
    have hd : (eD u.d).one = true := by cases u.d <;> rfl
    have hb : (eL 1 eb u.b).one = true := by cases u.b <;> rfl
    refine ⟨rfl, ?_, rfl, rfl, rfl⟩
    show (((op u w).cells.length == 7) && (op u w).cells.all AV.one) = true
    show ((7 == 7) && [AV.int .i64 u.kind, .bool u.neg, eD u.d, .str u.name, .int .i64 u.n, w, eL 1 eb u.b].all AV.one) = true
    simp only [List.all_cons, List.all_nil, hd, hb, hw]
    rfl
  cases h with
  | imm =>
    rw [← op_eT]
    exact hop _ _ (by cases t.l <;> rfl)
  | nil => exact hop _ _ rfl
  | own => exact hop _ _ rfl
def copyT (t : Tm) : Prop := fineT t ∧ shal 63 t ∧ t.size ≤ 1000000000
noncomputable def pCopy : Pol := .still (p1 cT eT copyT id)
theorem qCopy {R : Type} {t : Tm} (h : copyT t) {H : Heap} {k : AV → Heap → Option R} : polQ pCopy [eT t] H k = k (eT t) H := by
  simp [pCopy, polQ_imm, h]
theorem okCopy : PolOK base 44 pCopy := still1 base_ok TCp ⟨okClone, okBclone, okTclone, trivial⟩ fun t ⟨hf, hsh, hsz⟩ => by
  have hf1 := (fineT_eq.1 hf).1
  have hcl : (eT t).cells.length = 7 := by rw [cells_eT]; rfl
  have hof : A.ofList true 7 (eT t).cells 0 = some (eT t) := load_eT (H := [])
  have hof2 : (eT t).cells[2]? = some (eD t.d) := by rw [cells_eT]; rfl
  have hof6 : (eT t).cells[6]? = some (eL 1 eb t.b) := by rw [cells_eT]; rfl
  have hof5 : (eT t).cells[5]? = some (eL 7 eT t.l) := by rw [cells_eT]; rfl
  have st0 : A.store 7 (.ptr 0 0 0 0) (eT t) [.row 0 7 26 [.agg [.int .i64 0, .bool false, .nils, .str [], .int .i64 0, .nils, .nils]]] = some [.row 0 7 26 [eT t]] := by
    have := box_store (cs := [.int .i64 0, .bool false, .nils, .str [], .int .i64 0, .nils, .nils]) (ds := (eT t).cells) (b := 0) (sz := 7) (ty := 26) (H := [.row 0 7 26 [.agg [.int .i64 0, .bool false, .nils, .str [], .int .i64 0, .nils, .nils]]]) rfl rfl (by rw [cells_eT]; rfl) (by rw [cells_eT]; simp)
    have e : AV.agg (eT t).cells = eT t := by rw [cells_eT, eT_eq]
    rw [e] at this
    exact this
  have k2 : ∀ (R : Type) (H : Heap) (k : AV → Heap → Option R), polQ pClone [eD t.d] H k = k (eD t.d) H := fun R H k => qClone hf1.1
  have k6 : ∀ (R : Type) (H : Heap) (k : AV → Heap → Option R), polQ pBclone [eL 1 eb t.b] H k = k (eL 1 eb t.b) H := fun R H k => qBclone hf1.2.1
  have k5 : ∀ (R : Type) (k : AV → Heap → Option R), polK pTclone [eL 7 eT t.l] [.row 0 7 26 [eT t]] k = k (cv 1 t.l) ([.row 0 7 26 [eT t]] ++ cr t.l ((t.l.getD []).map eT)) := fun R k => kTclone (H := [.row 0 7 26 [eT t]]) hf1.2.2
  have h0 : ([.row 0 7 26 [eT t]] ++ cr t.l ((t.l.getD []).map eT))[0]? = some (.row 0 7 26 [eT t]) := rfl
  have he : [eT t][0]? = some (.agg [.int .i64 t.kind, .bool t.neg, eD t.d, .str t.name, .int .i64 t.n, eL 7 eT t.l, eL 1 eb t.b]) := by rw [eT_eq]; rfl
  have hone : ∀ d : Option (List UInt32), (eD d).one = true := fun d => by cases d <;> rfl
  have honb : ∀ d : Option (List UInt8), (eL 1 eb d).one = true := fun d => by cases d <;> rfl
  have f2 : A.fa 2 (.ptr 0 0 0 0) ([.row 0 7 26 [eT t]] ++ cr t.l ((t.l.getD []).map eT)) = some (.ptr 0 0 0 2) := cell_fa h0
  have f6 : A.fa 6 (.ptr 0 0 0 0) ([.row 0 7 26 [eT t]] ++ cr t.l ((t.l.getD []).map eT)) = some (.ptr 0 0 0 6) := cell_fa h0
  have f5 : A.fa 5 (.ptr 0 0 0 0) ([.row 0 7 26 [eT t]] ++ cr t.l ((t.l.getD []).map eT)) = some (.ptr 0 0 0 5) := cell_fa h0
  have s2 : A.store 1 (.ptr 0 0 0 2) (eD t.d) ([.row 0 7 26 [eT t]] ++ cr t.l ((t.l.getD []).map eT)) = some ([.row 0 7 26 [eT t]] ++ cr t.l ((t.l.getD []).map eT)) := cell_store_same h0 he rfl (hone _)
  have s6 : A.store 1 (.ptr 0 0 0 6) (eL 1 eb t.b) ([.row 0 7 26 [eT t]] ++ cr t.l ((t.l.getD []).map eT)) = some ([.row 0 7 26 [eT t]] ++ cr t.l ((t.l.getD []).map eT)) := cell_store_same h0 he rfl (honb _)
  have s5 : A.store 1 (.ptr 0 0 0 5) (cv 1 t.l) ([.row 0 7 26 [eT t]] ++ cr t.l ((t.l.getD []).map eT)) = some ([.row 0 7 26 [op t (cv 1 t.l)]] ++ cr t.l ((t.l.getD []).map eT)) := cell_store h0 he rfl (cv_one _ _)
  have hfe : A.fillElems 1 [AV.nilp] [(0, 1, .ptr 0 0 0 0)] = some [.ptr 0 0 0 0] := by simp [A.fillElems]
  obtain ⟨H8, hH8⟩ : ∃ H8 : Heap, H8 = [.row 0 7 26 [op t (cv 1 t.l)]] ++ cr t.l ((t.l.getD []).map eT) := ⟨_, rfl⟩
  rw [← hH8] at s5
  have hk : ∀ l, t.l = some l → (H8 ++ [.row 0 1 86 [.ptr 0 0 0 0]])[1]? = some (.row (cw l) 7 26 (l.map eT)) := fun l hl => by
    rw [hH8, hl]
    rfl
  have hz : (H8 ++ [.row 0 1 86 [.ptr 0 0 0 0]])[0]? = some (.row 0 7 26 [op t (cv 1 t.l)]) := by rw [hH8]; rfl
  have hH1 : 1 ≤ H8.length := by rw [hH8]; simp
  have hC : CInv t H8.length 0 1 [⟨0, 0, 0, t, 1⟩] (H8 ++ [.row 0 1 86 [.ptr 0 0 0 0]]) := by
    refine ⟨⟨_, hz, ?_⟩, ⟨[.ptr 0 0 0 0], by simp, rfl, by simp⟩, ?_, ?_, List.pairwise_singleton _ _, ?_⟩
    · cases hl : t.l with
      | none => exact .nil _ hl
      | some l =>
        refine .own _ l _ _ _ _ hl (hk l hl) (by simp) fun j hj => ?_
        rw [List.getElem_map]
        exact .imm _
    · intro e hee
      rw [List.mem_singleton] at hee
      rw [hee]
      exact ⟨_, hz, rfl, hk⟩
    · intro e hee ho
      rw [List.mem_singleton] at hee
      rw [hee] at ho ⊢
      obtain ⟨l, hl⟩ : ∃ l, t.l = some l := by
        cases hl : t.l with
        | none => exact absurd hl ho
        | some l => exact ⟨l, rfl⟩
      have : H8.length = 2 := by rw [hH8, hl]; rfl
      exact ⟨by show 1 ≠ H8.length; omega, by simp; omega, by show 1 ≠ 0; omega⟩
    · intro e hee f hf' _
      rw [List.mem_singleton] at hee hf'
      rw [hee, hf']
      show 0 ≠ 1
      omega
  obtain ⟨H', ⟨v, hv0, hv⟩, hL⟩ := cp_outer (t3 := .ptr 0 0 0 0) (c1 := [.int .i64 0, .bool false, .nils, .str [], .int .i64 0, .nils, .nils]) t.size _ _ _ _ (by simp [Tm.sizes]) hsz hC (fun e hee => by
    rw [List.mem_singleton] at hee
    rw [hee]
    exact hf)
  obtain ⟨v1, v2, v3, v4, v5⟩ := rd_seven hv
  have hld : A.load true 7 (.ptr 0 0 0 0) H' = some v := by
    simp only [A.load, A.elemAt, hv0]
    exact v3
  have hfz := rd_freeze 63 t v hsh hv
  refine Evs.withL hL (Evs.of fun n m h1 _ => ?_)
  have h1' : L44_0 (polT TCp) n n ⟨[.ptr 0 0 0 0, .sl H8.length 0 0 1 1], [[.int .i64 0, .bool false, .nils, .str [], .int .i64 0, .nils, .nils]]⟩ (H8 ++ [.row 0 1 86 [.ptr 0 0 0 0]]) = some (0, ⟨[.ptr 0 0 0 0], [[.int .i64 0, .bool false, .nils, .str [], .int .i64 0, .nils, .nils]]⟩, H') := h1
  generalize [.row 0 7 26 [eT t]] ++ cr t.l ((t.l.getD []).map eT) = H5 at *
  rw [cells_eT] at hof
  simp [↓bindV_eq, ↓bindC_eq, ↓bindH_eq, ↓withV_of, ↓withL_some, ↓withH_some, ↓bindX_some, ↓chkD_true, S44, hof, st0, k2, k6, k5, f2, s2, f6, s6, f5, s5, hfe, h1', hld, v1, v2, v3, v5, hfz]
end Go.Proofs.YtleikacgncpfbaaDoor

/- Terms: tuples and lists. -/
set_option maxRecDepth 100000
set_option maxHeartbeats 4000000
namespace Go.Proofs.YtleikacgncpfbaaDoor
open Go Go.Den
theorem shal_succ : ∀ (n : Nat) (t : Tm), shal n t → shal (n + 1) t
  | 0, _, h => by cases h
  | n + 1, _, h => fun u hu => shal_succ n u (h u hu)
theorem shal_le {n m : Nat} (h : n ≤ m) {t : Tm} (ht : shal n t) : shal m t := by
  induction h with
  | refl => exact ht
  | step _ ih => exact shal_succ _ _ ih
def tupT (l : List Tm) : Tm := .mk 4 false none [] 0 (nz l) none
def listT : List Tm → Tm
  | [] => .mk 5 false none [] 0 none none
  | x :: r => .mk 6 false none [] 0 (some [x, listT r]) none
theorem kids_tup (l : List Tm) : (tupT l).kids = l := nz_get l
theorem zero_one (w : AV) (hw : w.one = true) (k : Int) : A.fits 7 (.agg [.int .i64 k, .bool false, .nils, .str [], .int .i64 0, w, .nils]) = true := by
  show ((7 == 7) && [AV.int .i64 k, .bool false, .nils, .str [], .int .i64 0, w, .nils].all AV.one) = true
  simp only [List.all_cons, List.all_nil, hw]
  rfl
/-! ### a tuple -/
theorem out_rd {H : Heap} {v : AV} {l : List Tm} (h : Out eT 7 26 H v l) : Rd H (op (tupT l) v) (tupT l) := by
  rcases h with ⟨rfl, rfl⟩ | ⟨id, ver, h0, rfl, h2⟩
  · exact .nil _ rfl
  · have hl : (tupT l).l = some l := by
      show nz l = some l
      unfold nz
      rw [if_neg h0]
    refine .own _ l id ver _ (l.map eT) hl h2 (by simp) fun i hi => ?_
    rw [List.getElem_map]
    exact .imm _
theorem out_one {H : Heap} {v : AV} {l : List Tm} (h : Out eT 7 26 H v l) : v.one = true ∧ v.cells = [v] := by
  rcases h with ⟨-, rfl⟩ | ⟨_, _, -, rfl, -⟩ <;> exact ⟨rfl, rfl⟩
def partT (u : Tm) : Prop := copyT u ∧ shal 20 u
noncomputable abbrev TTup : List (FuncId × Pol) := [(44, pCopy)]
theorem tup_loop {o : Option (List Tm)} {c0 : List AV} (hall : ∀ u ∈ o.getD [], partT u) (hlen : (o.getD []).length ≤ 1000) : ∀ (k i : Nat) (v : AV) (H : Heap), i + k = (o.getD []).length → Out eT 7 26 H v ((o.getD []).take i) →
    ∃ v' H', LDoes (L38_0 (polT TTup)) ⟨[eL 7 eT o, .int .i64 ((o.getD []).length : Int), .int .i64 (i : Int)], [c0, [.int .i64 4, .bool false, .nils, .str [], .int .i64 0, v, .nils]]⟩ H 0 ⟨[], [c0, [.int .i64 4, .bool false, .nils, .str [], .int .i64 0, v', .nils]]⟩ H' ∧ Out eT 7 26 H' v' (o.getD []) := by
  intro k
  induction k with
  | zero =>
    intro i v H hi hO
    have : i = (o.getD []).length := by omega
    subst this
    rw [List.take_length] at hO
    refine ⟨v, H, LDoes.step (Evs.of fun n m => ?_), hO⟩
    simp [↓test_bool, ↓withV_of, L38_0_step]
  | succ k ih =>
    intro i v H hi hO
    have hlt : i < (o.getD []).length := by omega
    have hlt' : (i : Int) < ((o.getD []).length : Int) := by omega
    have hx : A.idx 7 (eL 7 eT o) (.int .i64 (i : Int)) H = some (.rop (eT (o.getD [])[i]).cells) := idx_eL (sz := 7) (e := eT) (o := o) (H := H) (k := .i64) (i := i) hlt
    have hld := load_eT (t := (o.getD [])[i]) (H := H)
    have hof : A.ofList true 7 (eT (o.getD [])[i]).cells 0 = some (eT (o.getD [])[i]) := load_eT (H := [])
    have hfit : A.fits 7 (eT (o.getD [])[i]) = true := by simp [A.fits]
    have hcl : (eT (o.getD [])[i]).cells.length = 7 := by rw [cells_eT]; rfl
    have hspl : A.splice [.int .i64 0, .bool false, .nils, .str [], .int .i64 0, .nils, .nils] 0 (eT (o.getD [])[i]).cells = (eT (o.getD [])[i]).cells := by rw [cells_eT]; rfl
    have hcp : ∀ (R : Type) (H : Heap) (k : AV → Heap → Option R), polQ pCopy [eT (o.getD [])[i]] H k = k (eT (o.getD [])[i]) H := fun R H k => qCopy (hall _ (List.getElem_mem hlt)).1
    obtain ⟨v1, H1, happ, hO1⟩ := hO.push (bytes := 112) (o.getD [])[i] (by omega) (by simp; omega)
    have ht : (o.getD []).take i ++ [(o.getD [])[i]] = (o.getD []).take (i + 1) := by rw [List.take_succ_eq_append_getElem hlt]
    rw [ht] at hO1
    obtain ⟨v', H', hL, hO'⟩ := ih (i + 1) v1 H1 (by omega) hO1
    obtain ⟨ho1, hc1⟩ := out_one hO1
    have hf1 : A.fits 1 v1 = true := by simp [A.fits, hc1, ho1]
    have hi1 : IntKind.wrap .i64 ((i : Int) + 1) = (i : Int) + 1 := wrap_i64 (by omega) (by omega)
    have hfe : A.fillElems 7 [.agg [.int .i64 0, .bool false, .nils, .str [], .int .i64 0, .nils, .nils]] [(0, 1, eT (o.getD [])[i])] = some [eT (o.getD [])[i]] := by simp [A.fillElems, cells_eT]
    have hrd : A.read 7 (.sl H.length 0 0 1 1) (H ++ [.row 0 7 26 [eT (o.getD [])[i]]]) = some [eT (o.getD [])[i]] := tmp_read
    have hsp1 : A.splice [.int .i64 4, .bool false, .nils, .str [], .int .i64 0, v, .nils] 5 [v1] = [.int .i64 4, .bool false, .nils, .str [], .int .i64 0, v1, .nils] := rfl
    have ho5 : A.ofList false 1 [.int .i64 4, .bool false, .nils, .str [], .int .i64 0, v, .nils] 5 = some v := rfl
    simp only [Int.natCast_add, Int.natCast_one] at hL
    refine ⟨v', H', LDoes.step (Evs.withL hL (Evs.of fun n m _ h2 => ?_)), hO'⟩
    generalize eT (o.getD [])[i] = x at *
    generalize ((o.getD []).length : Int) = N at *
    simp [↓test_bool, ↓bindV_eq, ↓bindC_eq, ↓bindH_eq, ↓withV_of, ↓withL_some, ↓withVH_some, ↓chkD_true, L38_0_step, hlt', hx, hld, hof, hfit, hcl, hspl, hcp, hfe, newsZ_sl ty_terms, hrd, happ, hf1, hc1, hsp1, hi1, h2]
def allP (o : Option (List Tm)) : Prop := (∀ u ∈ o.getD [], partT u) ∧ (o.getD []).length ≤ 1000
noncomputable def pTuple : Pol := .still (p1 cTs eT allP fun o => tupT (o.getD []))
theorem kTuple {R : Type} {o : Option (List Tm)} (h : allP o) {H : Heap} {k : AV → Heap → Option R} : polK pTuple [eL 7 eT o] H k = k (eT (tupT (o.getD []))) H := by
  simp [pTuple, polK_imm, h]
theorem okTuple : PolOK base 38 pTuple := still1 base_ok TTup ⟨okCopy, trivial⟩ fun o ⟨hall, hlen⟩ => by
  obtain ⟨v, H', hL, hO⟩ := tup_loop (c0 := [.int .i64 0, .bool false, .nils, .str [], .int .i64 0, .nils, .nils]) hall hlen (o.getD []).length 0 .nils [] (by omega) (by rw [List.take_zero]; exact .nil)
  have hln : A.len (eL 7 eT o) [] = some (.int .i64 ((o.getD []).length : Int)) := len_eL
  have hsh : shal 63 (tupT (o.getD [])) := fun u hu => by
    rw [kids_tup] at hu
    exact shal_le (n := 20) (m := 62) (by decide) (hall u hu).2
  have hfz : A.freezeB true 64 H' (.agg [.int .i64 4, .bool false, .nils, .str [], .int .i64 0, v, .nils]) = some (eT (tupT (o.getD []))) := rd_freeze 63 _ _ hsh (out_rd hO)
  obtain ⟨ho, -⟩ := out_one hO
  have hft := zero_one v ho 4
  refine Evs.withL hL (Evs.of fun n m h1 _ => ?_)
  simp only [Int.natCast_zero] at h1
  have hf0 : A.fits 7 (.agg [.int .i64 4, .bool false, .nils, .str [], .int .i64 0, .nils, .nils]) = true := rfl
  generalize ((o.getD []).length : Int) = N at *
  simp [↓bindC_eq, ↓withV_of, ↓bindX_some, ↓chkD_true, -len_eL, S38, A.fill, A.splice, hf0, hln, h1, A.ofList, hft, hfz]
end Go.Proofs.YtleikacgncpfbaaDoor

/- Terms: lists. -/
set_option maxRecDepth 100000
set_option maxHeartbeats 4000000
namespace Go.Proofs.YtleikacgncpfbaaDoor
open Go Go.Den
noncomputable def pNil : Pol := .still (Cd.f0 (eT (listT [])))
theorem okNil : PolOK base 47 pNil := still_of base_ok [] trivial fun zs v h => by
  unfold Cd.f0 at h
  split at h
  · cases h
    refine Evs.of fun n m => ?_
    have e : eT (listT []) = .agg [.int .i64 5, .bool false, .nils, .str [], .int .i64 0, .nils, .nils] := by rw [eT_eq]; rfl
    have hf0 : A.fits 7 (.agg [.int .i64 5, .bool false, .nils, .str [], .int .i64 0, .nils, .nils]) = true := rfl
    rw [e]
    simp [↓bindC_eq, ↓withV_of, ↓chkD_true, S47, A.fill, A.splice, hf0, A.ofList]
    rfl
  · cases h
theorem kNil {R : Type} {H : Heap} {k : AV → Heap → Option R} : polK pNil [] H k = k (eT (listT [])) H := by
  unfold pNil
  rw [polK_imm (by simp)]
  rfl
noncomputable abbrev TLst : List (FuncId × Pol) := [(47, pNil), (44, pCopy)]
theorem lst_loop {o : Option (List Tm)} {c0 : List AV} (hall : ∀ u ∈ o.getD [], partT u) (hlen : (o.getD []).length ≤ 1000) : ∀ (j : Nat) (z : Int) (w : AV) (H : Heap), z = (j : Int) - 1 → j ≤ (o.getD []).length → Rd H w (listT ((o.getD []).drop j)) →
    ∃ w' H', LDoes (L39_0 (polT TLst)) ⟨[eL 7 eT o, .int .i64 z], [c0, w.cells]⟩ H 0 ⟨[], [c0, w'.cells]⟩ H' ∧ Rd H' w' (listT (o.getD [])) := by
  intro j
  induction j with
  | zero =>
    intro z w H hz hj hR
    rw [List.drop_zero] at hR
    have hz' : ¬ 0 ≤ z := by omega
    refine ⟨w, H, LDoes.step (Evs.of fun n m => ?_), hR⟩
    generalize w.cells = wc at *
    simp [↓test_bool, ↓withV_of, L39_0_step, hz']
  | succ j ih =>
    intro z w H hz hj hR
    have hz' : 0 ≤ z := by omega
    have hlt : j < (o.getD []).length := by omega
    have hx : A.idx 7 (eL 7 eT o) (.int .i64 z) H = some (.rop (eT (o.getD [])[j]).cells) := by
      have : z = (j : Int) := by omega
      rw [this]
      exact idx_eL (sz := 7) (e := eT) (o := o) (H := H) (k := .i64) (i := j) hlt
    have hld := load_eT (t := (o.getD [])[j]) (H := H)
    have hcp : ∀ (R : Type) (H : Heap) (k : AV → Heap → Option R), polQ pCopy [eT (o.getD [])[j]] H k = k (eT (o.getD [])[j]) H := fun R H k => qCopy (hall _ (List.getElem_mem hlt)).1
    obtain ⟨v1, v2, v3, v4, v5⟩ := rd_seven hR
    have hfe : A.fillElems 7 [.agg [.int .i64 0, .bool false, .nils, .str [], .int .i64 0, .nils, .nils], .agg [.int .i64 0, .bool false, .nils, .str [], .int .i64 0, .nils, .nils]] [(0, 1, eT (o.getD [])[j]), (1, 1, w)] = some [eT (o.getD [])[j], w] := by
      have x1 : (eT (o.getD [])[j]).cells.length = 7 := by rw [cells_eT]; rfl
      have x2 : (eT (o.getD [])[j]).isDef = true := isDef_eT
      simp [-cells_eT, A.fillElems, x1, x2, v1, v4]
    have hR' : Rd (H ++ [.row 0 7 26 [eT (o.getD [])[j], w]]) (op (listT ((o.getD []).drop j)) (.sl H.length 0 0 2 2)) (listT ((o.getD []).drop j)) := by
      rw [List.drop_eq_getElem_cons hlt]
      refine .own _ [(o.getD [])[j], listT ((o.getD []).drop (j + 1))] H.length 0 2 [eT (o.getD [])[j], w] rfl (by simp) rfl fun i hi => ?_
      match i, hi with
      | 0, _ => exact .imm _
      | 1, _ => exact rd_push hR
    have hop : op (listT ((o.getD []).drop j)) (.sl H.length 0 0 2 2) = .agg [.int .i64 6, .bool false, .nils, .str [], .int .i64 0, .sl H.length 0 0 2 2, .nils] := by
      rw [List.drop_eq_getElem_cons hlt]
      rfl
    rw [hop] at hR'
    obtain ⟨w', H', hL, hR2⟩ := ih (z - 1) _ _ (by omega) (by omega) hR'
    have hcc : (AV.agg [.int .i64 6, .bool false, .nils, .str [], .int .i64 0, .sl H.length 0 0 2 2, .nils]).cells = [.int .i64 6, .bool false, .nils, .str [], .int .i64 0, .sl H.length 0 0 2 2, .nils] := rfl
    rw [hcc] at hL
    have hi1 : IntKind.wrap .i64 (z - 1) = z - 1 := wrap_i64 (by omega) (by omega)
    have hft := zero_one (.sl H.length 0 0 2 2) rfl 6
    refine ⟨w', H', LDoes.step (Evs.withL hL (Evs.of fun n m _ h2 => ?_)), hR2⟩
    generalize eT (o.getD [])[j] = x at *
    have hsp : A.splice w.cells 0 [.int .i64 6, .bool false, .nils, .str [], .int .i64 0, .sl H.length 0 0 2 2, .nils] = [.int .i64 6, .bool false, .nils, .str [], .int .i64 0, .sl H.length 0 0 2 2, .nils] := by
      unfold A.splice
      rw [List.take_zero, List.drop_of_length_le (by simp [v1])]
      simp
    have hfl : A.fill [.int .i64 0, .bool false, .nils, .str [], .int .i64 0, .nils, .nils] [(0, 1, .int .i64 6), (5, 1, .sl H.length 0 0 2 2)] = some [.int .i64 6, .bool false, .nils, .str [], .int .i64 0, .sl H.length 0 0 2 2, .nils] := by simp [A.fill, A.splice]
    simp [↓test_bool, ↓bindV_eq, ↓bindC_eq, ↓bindH_eq, ↓withV_of, ↓withL_some, ↓chkD_true, L39_0_step, hz', hx, hld, hcp, v3, hfe, hfl, hft, v1, hsp, hi1, h2]
def allL (o : Option (List Tm)) : Prop := (∀ u ∈ o.getD [], partT u) ∧ (o.getD []).length ≤ 40
theorem shal_list : ∀ l : List Tm, (∀ u ∈ l, shal 20 u) → shal (l.length + 21) (listT l)
  | [], _ => fun u hu => by simp [listT, Tm.kids, Tm.l] at hu
  | x :: r, h => fun u hu => by
    have ih := shal_list r fun u hu => h u (by simp [hu])
    have : u ∈ [x, listT r] := hu
    simp only [List.mem_cons, List.not_mem_nil, or_false] at this
    rcases this with rfl | rfl
    · exact shal_le (n := 20) (m := r.length + 21) (by omega) (h u (by simp))
    · exact ih
noncomputable def pList : Pol := .still (p1 cTs eT allL fun o => listT (o.getD []))
theorem kList {R : Type} {o : Option (List Tm)} (h : allL o) {H : Heap} {k : AV → Heap → Option R} : polK pList [eL 7 eT o] H k = k (eT (listT (o.getD []))) H := by
  simp [pList, polK_imm, h]
theorem okList : PolOK base 39 pList := still1 base_ok TLst ⟨okNil, okCopy, trivial⟩ fun o ⟨hall, hlen⟩ => by
  obtain ⟨w, H', hL, hR⟩ := lst_loop (c0 := [.int .i64 0, .bool false, .nils, .str [], .int .i64 0, .nils, .nils]) hall (by omega) (o.getD []).length (((o.getD []).length : Int) - 1) (eT (listT [])) [] rfl (Nat.le_refl _) (by rw [List.drop_length]; exact .imm _)
  have hln : A.len (eL 7 eT o) [] = some (.int .i64 ((o.getD []).length : Int)) := len_eL
  have hw1 : IntKind.wrap .i64 (((o.getD []).length : Int) - 1) = ((o.getD []).length : Int) - 1 := wrap_i64 (by omega) (by omega)
  have hsh : shal 63 (listT (o.getD [])) := shal_le (n := (o.getD []).length + 21) (m := 63) (by omega) (shal_list _ fun u hu => (hall u hu).2)
  obtain ⟨v1, v2, v3, v4, v5⟩ := rd_seven hR
  have hfz := rd_freeze 63 _ _ hsh hR
  have hcl : (eT (listT [])).cells = [.int .i64 5, .bool false, .nils, .str [], .int .i64 0, .nils, .nils] := by rw [cells_eT]; rfl
  have e0 : eT (listT []) = .agg [.int .i64 5, .bool false, .nils, .str [], .int .i64 0, .nils, .nils] := by rw [eT_eq]; rfl
  have hf0 : A.fits 7 (.agg [.int .i64 5, .bool false, .nils, .str [], .int .i64 0, .nils, .nils]) = true := rfl
  have hn : ∀ (R : Type) (H : Heap) (k : AV → Heap → Option R), polK pNil [] H k = k (.agg [.int .i64 5, .bool false, .nils, .str [], .int .i64 0, .nils, .nils]) H := fun R H k => by rw [kNil, e0]
  rw [hcl] at hL
  refine Evs.withL hL (Evs.of fun n m h1 _ => ?_)
  have hsp : A.splice [.int .i64 0, .bool false, .nils, .str [], .int .i64 0, .nils, .nils] 0 [.int .i64 5, .bool false, .nils, .str [], .int .i64 0, .nils, .nils] = [.int .i64 5, .bool false, .nils, .str [], .int .i64 0, .nils, .nils] := rfl
  generalize ((o.getD []).length : Int) = N at *
  simp [↓bindC_eq, ↓withV_of, ↓bindX_some, ↓chkD_true, -len_eL, S39, hn, hf0, hsp, hln, hw1, h1, v3, v2, v1, v5, hfz]
end Go.Proofs.YtleikacgncpfbaaDoor

/- The seat's first question: by computation. -/
set_option maxRecDepth 100000
namespace Go.Proofs.YtleikacgncpfbaaDoor.awake5
open Go Go.Den
def reached : List FuncId := [15, 17, 19, 21, 30, 31, 39, 44, 47, 54, 55, 56, 58, 59, 69, 71, 72, 73, 75, 77, 78, 79, 82, 83, 84, 97, 98, 99, 106]
noncomputable def env0 : Env := { P := Tryd.prog, pol := fun _ => .plain, ann := fun _ => {}, glob := fun g => bif Nat.beq g 0 then flatD (H := Unit) Rows.laid_unicode_utf8_first else bif Nat.beq g 1 then flatD (H := Unit) Rows.laid_unicode_utf8_acceptRanges else none }
def siteTable : List (Nat × List (Nat × Nat × Nat)) := []
def sitesIn : List (Nat × List (Nat × Nat × Nat)) → Nat → List (Nat × Nat × Nat)
  | [], _ => []
  | (g, l) :: r, f => bif Nat.beq g f then l else sitesIn r f
def annsIn (f : Nat) : Ann :=  .nil
noncomputable def tab (f : FuncId) : FAnn :=
  match Tryd.prog.funcs[f]? with
  | some fn => { ann := annsIn f, depth := Nat.log2 fn.ntmps + 1, sites := sitesIn siteTable f, draws := mkDraws env0 (sitesIn siteTable f) fn }
  | none => {}
noncomputable def env : Env := { env0 with ann := fun f => if f ∈ reached then tab f else {} }
theorem env_ok : EnvOK env := envOK reached (by kernel_rfl) (fun f hf => by show (if f ∈ reached then tab f else {}).draws = []; rw [if_neg hf]) (by kernel_rfl)
theorem prims_ok : ∀ f, env.pol f = .plain ∨ ∃ F, env.pol f = .prim F ∧ PrimOK env f F := fun f => by
  refine .inl ?_
  show ( Pol.plain) = _
  rfl
theorem calls_ok (n : Nat) : CallOK env (callF env n) := callF_prims env_ok (by kernel_rfl) prims_ok n
def saysTrue : Option AV → Bool
  | some (.bool true) => true
  | _ => false
theorem says_true {x : Option AV} (h : saysTrue x = true) : x = some (.bool true) := by
  unfold saysTrue at h
  split at h
  · rfl
  · cases h
theorem known : callF env 300 AV 15 [] [] (fun v G => A.freezeB true 64 G v) = some (.bool true) := says_true (by kernel_rfl)
end Go.Proofs.YtleikacgncpfbaaDoor.awake5
namespace Go.Proofs.YtleikacgncpfbaaDoor
open Go Go.Den
noncomputable def pAwake5 : Pol := .still (Cd.f0 (.bool true))
theorem okAwake5 : PolOK base 15 pAwake5 := pure_prim (E := base) (E' := awake5.env) rfl rfl awake5.calls_ok fun xs v h => by
  unfold Cd.f0 at h
  split at h
  · cases h
    exact ⟨300, awake5.known⟩
  · cases h
theorem kAwake5 {R : Type} {H : Heap} {k : AV → Heap → Option R} : polK pAwake5 [] H k = k (.bool true) H := by
  unfold pAwake5
  rw [polK_imm (by simp)]
  rfl
end Go.Proofs.YtleikacgncpfbaaDoor

/- Terms in a row: are they few and small; how many parts and words a tuple and a list have. -/
set_option maxRecDepth 100000
set_option maxHeartbeats 4000000
namespace Go.Proofs.YtleikacgncpfbaaDoor
open Go Go.Den
def roomsAll (l : List Tm) : Prop := ∀ u ∈ l, roomS u 8 40 = true ∧ mayS u = true
noncomputable def roomsS (o : Option (List Tm)) (most : Int) : Bool := decide (((o.getD []).length : Int) ≤ most) && (o.getD []).all fun u => roomS u 8 40 && mayS u
noncomputable abbrev TRms : List (FuncId × Pol) := [(16, pRoomA), (18, pRMayA)]
theorem rooms_loop {o : Option (List Tm)} (hlen : (o.getD []).length ≤ 1000) (H : Heap) : ∀ (k i : Nat), i + k = (o.getD []).length →
    LDoes (L24_0 (polT TRms)) ⟨[eL 7 eT o, .int .i64 (i : Int)], []⟩ H (if ((o.getD []).drop i).all (fun u => roomS u 8 40 && mayS u) then 0 else 1) ⟨[if ((o.getD []).drop i).all (fun u => roomS u 8 40 && mayS u) then .undef else .bool false], []⟩ H := by
  have hln : A.len (eL 7 eT o) H = some (.int .i64 ((o.getD []).length : Int)) := len_eL
  intro k
  induction k with
  | zero =>
    intro i hi
    have : i = (o.getD []).length := by omega
    subst this
    rw [List.drop_length]
    refine LDoes.step (Evs.of fun n m => ?_)
    generalize ((o.getD []).length : Int) = N at *
    simp [-len_eL, L24_0_step, hln]
  | succ k ih =>
    intro i hi
    have hlt : i < (o.getD []).length := by omega
    have hlt' : (i : Int) < ((o.getD []).length : Int) := by omega
    have hx : A.idx 7 (eL 7 eT o) (.int .i64 (i : Int)) H = some (.rop (eT (o.getD [])[i]).cells) := idx_eL (sz := 7) (e := eT) (o := o) (H := H) (k := .i64) (i := i) hlt
    have hld := load_eT (t := (o.getD [])[i]) (H := H)
    have hi1 : IntKind.wrap .i64 ((i : Int) + 1) = (i : Int) + 1 := wrap_i64 (by omega) (by omega)
    have hr : ∀ (R : Type) (H : Heap) (k : AV → Heap → Option R), polK pRoomA [eT (o.getD [])[i], .int .i64 8, .int .i64 40] H k = k (.bool (roomS (o.getD [])[i] 8 40)) H := fun R H k => kRoomA (by omega) (by omega) (by omega)
    have hL := ih (i + 1) (by omega)
    simp only [Int.natCast_add, Int.natCast_one] at hL
    rw [List.drop_eq_getElem_cons hlt, List.all_cons]
    generalize ((o.getD []).drop (i + 1)).all (fun u => roomS u 8 40 && mayS u) = rest at *
    cases hrm : roomS (o.getD [])[i] 8 40
    · rw [hrm] at hr
      refine LDoes.step (Evs.of fun n m => ?_)
      generalize eT (o.getD [])[i] = v at *
      generalize ((o.getD []).length : Int) = N at *
      simp [-len_eL, L24_0_step, hln, hlt', hx, hld, hr]
    · rw [hrm] at hr
      have hm : ∀ (R : Type) (H : Heap) (k : AV → Heap → Option R), polK pRMayA [eT (o.getD [])[i]] H k = k (.bool (mayS (o.getD [])[i])) H := fun R H k => kRMayA (room_tame (by omega) _ 8 hrm)
      cases hmy : mayS (o.getD [])[i]
      · rw [hmy] at hm
        refine LDoes.step (Evs.of fun n m => ?_)
        generalize eT (o.getD [])[i] = v at *
        generalize ((o.getD []).length : Int) = N at *
        simp [-len_eL, L24_0_step, hln, hlt', hx, hld, hr, hm]
      · rw [hmy] at hm
        refine LDoes.step (Evs.withL hL (Evs.of fun n m _ h2 => ?_))
        generalize eT (o.getD [])[i] = v at *
        generalize ((o.getD []).length : Int) = N at *
        simp [-len_eL, L24_0_step, hln, hlt', hx, hld, hr, hm, hi1, h2]
noncomputable def pRooms : Pol := .still (p2 cTs (cI .i64) .bool (fun _ most => most ≤ 1000) roomsS)
theorem kRooms {R : Type} {o : Option (List Tm)} {most : Int} (h : most ≤ 1000) {H : Heap} {k : AV → Heap → Option R} : polK pRooms [eL 7 eT o, .int .i64 most] H k = k (.bool (roomsS o most)) H := by
  simp [pRooms, polK_imm, h]
theorem okRooms : PolOK base 24 pRooms := still2 base_ok TRms ⟨okRoomA, okRMayA, trivial⟩ fun o most hm => by
  have hln : A.len (eL 7 eT o) [] = some (.int .i64 ((o.getD []).length : Int)) := len_eL
  unfold roomsS
  by_cases hc : ((o.getD []).length : Int) ≤ most
  · have hc' : ¬ most < ((o.getD []).length : Int) := by omega
    have hL := rooms_loop (o := o) (by omega) [] (o.getD []).length 0 (by omega)
    rw [List.drop_zero] at hL
    refine Evs.withL hL (Evs.of fun n m h1 _ => ?_)
    simp only [Int.natCast_zero] at h1
    generalize (o.getD []).all (fun u => roomS u 8 40 && mayS u) = w at *
    generalize ((o.getD []).length : Int) = N at *
    cases w <;> simp [↓test_bool, ↓bindV_eq, ↓withV_of, ↓bindX_some, -len_eL, S24, hln, hc, hc', h1]
  · have hc' : most < ((o.getD []).length : Int) := by omega
    generalize ((o.getD []).length : Int) = N at *
    exact Evs.of fun n m => by simp [↓test_bool, ↓withV_of, -len_eL, S24, hln, hc, hc']
theorem rooms_true {o : Option (List Tm)} {most : Int} (h : roomsS o most = true) : ((o.getD []).length : Int) ≤ most ∧ roomsAll (o.getD []) := by
  unfold roomsS at h
  simp only [Bool.and_eq_true, decide_eq_true_eq, List.all_eq_true] at h
  exact h
/-! ### a term that may be: as great as it has parts -/
theorem size_szT : ∀ t : Tm, mayT countV t = true → t.size = szT t := tm_ind fun t ih h => by
  rw [mayT_eq] at h
  simp only [Bool.and_eq_true, List.all_eq_true] at h
  obtain ⟨ho, hk⟩ := h
  have hl : ∀ l : List Tm, (∀ u ∈ l, u ∈ t.kids) → (∀ u ∈ l, mayT countV u = true) → Tm.sizes l = szs l := by
    intro l
    induction l with
    | nil => intro _ _; simp [Tm.sizes, szs]
    | cons u l ihl =>
      intro h1 h2
      rw [Tm.sizes, szs, ih u (h1 u (by simp)) (h2 u (by simp)), ihl (fun x hx => h1 x (by simp [hx])) fun x hx => h2 x (by simp [hx])]
  have hs : spareS t = true := by
    unfold oneS at ho
    simp only [Bool.and_eq_true] at ho
    exact ho.1
  rw [t.size_eq, szT_eq]
  congr 1
  unfold partsO
  unfold partsO at hk
  by_cases hc : t.kind = 4 ∨ t.kind = 6
  · rw [if_pos hc] at hk ⊢
    exact hl _ (fun u hu => hu) hk
  · rw [if_neg hc]
    have hz : t.kids.length = 0 := by
      unfold spareS at hs
      simp only [Bool.and_eq_true, Bool.or_eq_true, decide_eq_true_eq] at hs
      rcases hs.1.1.2 with h | h
      · exact absurd h hc
      · exact h
    rw [List.length_eq_zero_iff.1 hz]
    rfl
theorem room_fine {most : Int} (hm : most ≤ 1000) : ∀ t dep, roomS t dep most = true → fineT t := fun t => tm_ind (P := fun t => ∀ dep, roomS t dep most = true → fineT t) (fun t ih dep h => by
  rw [roomS_eq] at h
  simp only [Bool.and_eq_true, Bool.not_eq_true', Bool.or_eq_false_iff, decide_eq_false_iff_not, List.all_eq_true] at h
  obtain ⟨⟨⟨⟨⟨h1, h2⟩, h3⟩, h4⟩, h5⟩, h6⟩ := h
  exact fineT_eq.2 ⟨⟨by unfold few; omega, by unfold fewB; omega, by omega⟩, fun u hu => ih u hu _ (h6 u hu)⟩) t
theorem room_part {u : Tm} (h : roomS u 8 40 = true ∧ mayS u = true) : partT u := by
  have hm := h.2
  unfold mayS at hm
  simp only [Bool.and_eq_true, decide_eq_true_eq] at hm
  refine ⟨⟨room_fine (by omega) u 8 h.1, room_shal 63 u 8 (by omega) h.1, ?_⟩, room_shal 20 u 8 (by omega) h.1⟩
  rw [size_szT u hm.2]
  omega
theorem room_fineW {u : Tm} (h : roomS u 8 40 = true ∧ mayS u = true) : fineW u := by
  have hm := h.2
  unfold mayS at hm
  simp only [Bool.and_eq_true, decide_eq_true_eq] at hm
  have ht := room_tame (by omega) u 8 h.1
  exact ⟨tame_thin u ht, tame_fewd u ht, hm.1⟩
/-! ### of a tuple, of a list -/
theorem szT_tup (l : List Tm) : szT (tupT l) = 1 + szs l := by
  rw [szT_eq]
  show 1 + szs ((nz l).getD []) = _
  rw [nz_get]
theorem wT_tup (l : List Tm) : wT (tupT l) = 1 + l.length + wTs l := by
  rw [wT_eq]
  show 1 + (tupT l).kids.length + wTs ((nz l).getD []) = _
  rw [nz_get, kids_tup]
theorem tame_tup {l : List Tm} (h : ∀ u ∈ l, tame u) (hl : l.length ≤ 1000) : tame (tupT l) := by
  rw [tame_eq, kids_tup]
  refine ⟨⟨by simp [tupT, Tm.d], by simp [tupT, Tm.name], by rw [kids_tup]; exact hl⟩, h⟩
theorem may_tup {l : List Tm} (h : ∀ u ∈ l, mayT countV u = true) (hl : l.length ≤ 255) : mayT countV (tupT l) = true := by
  rw [mayT_eq]
  have ho : oneS countV (tupT l) = true := by
    have hs : spareS (tupT l) = true := rfl
    unfold oneS
    rw [hs]
    show (true && decide ((tupT l).kids.length ≤ 255)) = true
    rw [kids_tup]
    simpa using hl
  rw [ho]
  show (true && ((nz l).getD []).all (mayT countV)) = true
  rw [nz_get]
  simpa using h
theorem szT_list : ∀ l : List Tm, szT (listT l) = szs l + l.length + 1
  | [] => by rw [szT_eq]; simp [listT, partsO, Tm.kind, szs]
  | x :: r => by
    rw [szT_eq]
    show 1 + szs [x, listT r] = _
    simp only [szs, szT_list r, List.length_cons]
    omega
theorem wT_list : ∀ l : List Tm, wT (listT l) = wTs l + 3 * l.length
  | [] => by rw [wT_eq]; simp [listT, partsO, Tm.kind, wTs, wordsOne]
  | x :: r => by
    rw [wT_eq]
    have h1 : wordsOne (listT (x :: r)) = 3 := rfl
    rw [h1]
    show 3 + wTs [x, listT r] = _
    simp only [wTs, wT_list r, List.length_cons]
    omega
theorem tame_list : ∀ {l : List Tm}, (∀ u ∈ l, tame u) → tame (listT l)
  | [], _ => by
    rw [tame_eq]
    exact ⟨⟨by simp [listT, Tm.d], by simp [listT, Tm.name], by simp [listT, Tm.kids, Tm.l]⟩, fun u hu => by simp [listT, Tm.kids, Tm.l] at hu⟩
  | x :: r, h => by
    rw [tame_eq]
    refine ⟨⟨by simp [listT, Tm.d], by simp [listT, Tm.name], by simp [listT, Tm.kids, Tm.l]⟩, fun u hu => ?_⟩
    have : u ∈ [x, listT r] := hu
    simp only [List.mem_cons, List.not_mem_nil, or_false] at this
    rcases this with rfl | rfl
    · exact h _ (by simp)
    · exact tame_list fun u hu => h u (by simp [hu])
theorem may_list : ∀ {l : List Tm}, (∀ u ∈ l, mayT countV u = true) → mayT countV (listT l) = true
  | [], _ => by rw [mayT_eq]; rfl
  | x :: r, h => by
    rw [mayT_eq]
    have ho : oneS countV (listT (x :: r)) = true := rfl
    rw [ho]
    show (true && [x, listT r].all (mayT countV)) = true
    have h1 := h x (by simp)
    have h2 := may_list (l := r) fun u hu => h u (by simp [hu])
    simp [h1, h2]
end Go.Proofs.YtleikacgncpfbaaDoor

/- The law on the parts of tuples and lists: what its function answers. -/
set_option maxRecDepth 100000
set_option maxHeartbeats 8000000
namespace Go.Proofs.YtleikacgncpfbaaDoor
open Go Go.Den
noncomputable abbrev TLp : List (FuncId × Pol) := [(15, pAwake5), (24, pRooms), (20, pRtreeA), (22, pRwordsA), (38, pTuple), (39, pList), (19, pTree), (21, pWords), (17, pMay)]
theorem okTLp : TabOK base TLp := ⟨okAwake5, okRooms, okRtreeA, okRwordsA, okTuple, okList, okTree, okWords, okMay, trivial⟩
theorem sums_loop {o : Option (List Tm)} (hall : ∀ u ∈ o.getD [], fineW u) (hlen : (o.getD []).length ≤ 1000) (H : Heap) : ∀ (k i p w : Nat), i + k = (o.getD []).length → p + szs ((o.getD []).drop i) ≤ 1000000000 → w + wTs ((o.getD []).drop i) ≤ 1000000000000000 →
    LDoes (L8_0 (polT TLp)) ⟨[eL 7 eT o, .int .i64 (p : Int), .int .i64 (w : Int), .int .i64 (i : Int)], []⟩ H 0 ⟨[eL 7 eT o, .int .i64 ((p + szs ((o.getD []).drop i) : Nat) : Int), .int .i64 ((w + wTs ((o.getD []).drop i) : Nat) : Int)], []⟩ H := by
  have hln : A.len (eL 7 eT o) H = some (.int .i64 ((o.getD []).length : Int)) := len_eL
  intro k
  induction k with
  | zero =>
    intro i p w hi hp hw
    have : i = (o.getD []).length := by omega
    subst this
    have h0 : szs [] = 0 := by rw [szs]
    have h1 : wTs [] = 0 := by simp [wTs]
    rw [List.drop_length, h0, h1]
    refine LDoes.step (Evs.of fun n m => ?_)
    generalize ((o.getD []).length : Int) = N at *
    simp [-len_eL, L8_0_step, hln]
  | succ k ih =>
    intro i p w hi hp hw
    have hlt : i < (o.getD []).length := by omega
    have hlt' : (i : Int) < ((o.getD []).length : Int) := by omega
    have hfw := hall _ (List.getElem_mem hlt)
    have hx : A.idx 7 (eL 7 eT o) (.int .i64 (i : Int)) H = some (.rop (eT (o.getD [])[i]).cells) := idx_eL (sz := 7) (e := eT) (o := o) (H := H) (k := .i64) (i := i) hlt
    have hld := load_eT (t := (o.getD [])[i]) (H := H)
    have hi1 : IntKind.wrap .i64 ((i : Int) + 1) = (i : Int) + 1 := wrap_i64 (by omega) (by omega)
    have hmin : min (szT (o.getD [])[i]) 65537 = szT (o.getD [])[i] := by have := hfw.2.2; omega
    have h1 : ∀ (R : Type) (H : Heap) (k : AV → Heap → Option R), polK pRtreeA [eT (o.getD [])[i]] H k = k (.int .i64 (szT (o.getD [])[i] : Nat)) H := fun R H k => by rw [kRtreeA hfw.1, hmin]
    have h2 : ∀ (R : Type) (H : Heap) (k : AV → Heap → Option R), polK pRwordsA [eT (o.getD [])[i]] H k = k (.int .i64 (wT (o.getD [])[i] : Nat)) H := fun R H k => kRwordsA hfw
    rw [szs_drop hlt, wTs_drop hlt] at *
    generalize szT (o.getD [])[i] = a at *
    generalize wT (o.getD [])[i] = b at *
    have hL := ih (i + 1) (p + a) (w + b) (by omega) (by omega) (by omega)
    rw [Nat.add_assoc, Nat.add_assoc] at hL
    have w1 : IntKind.wrap .i64 ((p : Int) + (a : Int)) = (p : Int) + (a : Int) := wrap_i64 (by omega) (by omega)
    have w2 : IntKind.wrap .i64 ((w : Int) + (b : Int)) = (w : Int) + (b : Int) := wrap_i64 (by omega) (by omega)
    generalize p + (a + szs ((o.getD []).drop (i + 1))) = out1 at *
    generalize w + (b + wTs ((o.getD []).drop (i + 1))) = out2 at *
    simp only [Int.natCast_add, Int.natCast_one] at hL
    refine LDoes.step (Evs.withL hL (Evs.of fun n m _ h3 => ?_))
    generalize eT (o.getD [])[i] = v at *
    generalize ((o.getD []).length : Int) = N at *
    simp [-len_eL, L8_0_step, hln, hlt', hx, hld, h1, h2, w1, w2, hi1, h3]
theorem szs_bound {l : List Tm} (h : ∀ u ∈ l, szT u ≤ 65536) : szs l ≤ l.length * 65536 := by
  induction l with
  | nil => simp [szs]
  | cons t l ih =>
    have a := ih fun u hu => h u (by simp [hu])
    have b := h t (by simp)
    rw [szs, List.length_cons]
    omega
theorem wTs_bound {l : List Tm} (h : ∀ u ∈ l, fineW u) : wTs l ≤ l.length * 65536131072 := by
  induction l with
  | nil => simp [wTs]
  | cons t l ih =>
    have a := ih fun u hu => h u (by simp [hu])
    have hf := h t (by simp)
    have b := wT_le t hf.1 hf.2.1
    have c := hf.2.2
    rw [wTs, List.length_cons]
    omega
theorem law_parts (o : Option (List Tm)) : Evs fun n _ => callF (base.with (polT TLp)) (n + 1) AV 8 [eL 7 eT o] [] (fun v _ => some v) = some (.bool true) := by
  have hrm : ∀ (R : Type) (H : Heap) (k : AV → Heap → Option R), polK pRooms [eL 7 eT o, .int .i64 30] H k = k (.bool (roomsS o 30)) H := fun R H k => kRooms (by omega)
  cases hr : roomsS o 30
  · rw [hr] at hrm
    exact Evs.of fun n m => by simp [↓test_bool, ↓bindV_eq, ↓bindC_eq, ↓withV_of, S8, kAwake5, hrm]
  rw [hr] at hrm
  obtain ⟨hl30, hall⟩ := rooms_true hr
  have hfw : ∀ u ∈ o.getD [], fineW u := fun u hu => room_fineW (hall u hu)
  have hpt : ∀ u ∈ o.getD [], partT u := fun u hu => room_part (hall u hu)
  have htm : ∀ u ∈ o.getD [], tame u := fun u hu => room_tame (by omega) u 8 (hall u hu).1
  have hmy : ∀ u ∈ o.getD [], mayT countV u = true := fun u hu => by
    have h := (hall u hu).2
    unfold mayS at h
    simp only [Bool.and_eq_true] at h
    exact h.2
  have hlen : (o.getD []).length ≤ 30 := by omega
  have b1 := szs_bound (l := o.getD []) fun u hu => (hfw u hu).2.2
  have b2 := wTs_bound hfw
  have hL := sums_loop hfw (by omega) [] (o.getD []).length 0 0 0 (by omega) (by rw [List.drop_zero]; omega) (by rw [List.drop_zero]; omega)
  rw [List.drop_zero, Nat.zero_add, Nat.zero_add] at hL
  have hln : A.len (eL 7 eT o) [] = some (.int .i64 ((o.getD []).length : Int)) := len_eL
  have z1 := szT_tup (o.getD [])
  have z2 := szT_list (o.getD [])
  have y1 := wT_tup (o.getD [])
  have y2 := wT_list (o.getD [])
  have t1 : tame (tupT (o.getD [])) := tame_tup htm (by omega)
  have t2 : tame (listT (o.getD [])) := tame_list htm
  have m1 := may_tup hmy (by omega)
  have m2 := may_list hmy
  have k1 : ∀ (R : Type) (H : Heap) (k : AV → Heap → Option R), polK pTuple [eL 7 eT o] H k = k (eT (tupT (o.getD []))) H := fun R H k => kTuple ⟨hpt, by omega⟩
  have k2 : ∀ (R : Type) (H : Heap) (k : AV → Heap → Option R), polK pList [eL 7 eT o] H k = k (eT (listT (o.getD []))) H := fun R H k => kList ⟨hpt, by omega⟩
  have wm : IntKind.wrap .i64 (2 * ((o.getD []).length : Int)) = 2 * ((o.getD []).length : Int) := wrap_i64 (by omega) (by omega)
  have wa : IntKind.wrap .i64 ((szs (o.getD []) : Int) + 2 * ((o.getD []).length : Int)) = (szs (o.getD []) : Int) + 2 * ((o.getD []).length : Int) := wrap_i64 (by omega) (by omega)
  have wb : IntKind.wrap .i64 ((szs (o.getD []) : Int) + 2 * ((o.getD []).length : Int) + 1) = (szs (o.getD []) : Int) + 2 * ((o.getD []).length : Int) + 1 := wrap_i64 (by omega) (by omega)
  by_cases hbig : (65536 : Int) < (szs (o.getD []) : Int) + 2 * ((o.getD []).length : Int) + 1
  · refine Evs.withL hL (Evs.of fun n m h1 _ => ?_)
    simp only [Int.natCast_zero] at h1
    generalize (szs (o.getD []) : Int) = P at *
    generalize (wTs (o.getD []) : Int) = W at *
    generalize ((o.getD []).length : Int) = N at *
    simp [↓test_bool, ↓bindV_eq, ↓bindC_eq, ↓withV_of, ↓bindX_some, -len_eL, S8, kAwake5, hrm, h1, hln, wm, wa, wb, hbig]
  · have s1 : min (szT (tupT (o.getD []))) 65537 = szs (o.getD []) + 1 := by omega
    have s2 : min (szT (listT (o.getD []))) 65537 = szs (o.getD []) + (o.getD []).length + 1 := by omega
    have k3 : ∀ (R : Type) (H : Heap) (k : AV → Heap → Option R), polK pTree [eT (tupT (o.getD []))] H k = k (.int .i64 ((szs (o.getD []) : Int) + 1)) H := fun R H k => by rw [kTree (tame_thin _ t1), s1]; rfl
    have k4 : ∀ (R : Type) (H : Heap) (k : AV → Heap → Option R), polK pTree [eT (listT (o.getD []))] H k = k (.int .i64 ((szs (o.getD []) : Int) + ((o.getD []).length : Int) + 1)) H := fun R H k => by rw [kTree (tame_thin _ t2), s2]; rfl
    have k5 : ∀ (R : Type) (H : Heap) (k : AV → Heap → Option R), polK pWords [eT (tupT (o.getD []))] H k = k (.int .i64 ((wTs (o.getD []) : Int) + 1 + ((o.getD []).length : Int))) H := fun R H k => by
      rw [kWords (tame_thin _ t1) (tame_fewd _ t1) (by omega), y1]
      congr 2
      try omega
    have k6 : ∀ (R : Type) (H : Heap) (k : AV → Heap → Option R), polK pWords [eT (listT (o.getD []))] H k = k (.int .i64 ((wTs (o.getD []) : Int) + 3 * ((o.getD []).length : Int))) H := fun R H k => by
      rw [kWords (tame_thin _ t2) (tame_fewd _ t2) (by omega), y2]
      congr 2
      try omega
    have k7 : ∀ (R : Type) (H : Heap) (k : AV → Heap → Option R), polK pMay [eT (tupT (o.getD []))] H k = k (.bool true) H := fun R H k => by
      rw [kMay t1]
      have : mayS (tupT (o.getD [])) = true := by unfold mayS; rw [m1]; simp; omega
      rw [this]
    have k8 : ∀ (R : Type) (H : Heap) (k : AV → Heap → Option R), polK pMay [eT (listT (o.getD []))] H k = k (.bool true) H := fun R H k => by
      rw [kMay t2]
      have : mayS (listT (o.getD [])) = true := by unfold mayS; rw [m2]; simp; omega
      rw [this]
    have w1 : IntKind.wrap .i64 ((szs (o.getD []) : Int) + 1) = (szs (o.getD []) : Int) + 1 := wrap_i64 (by omega) (by omega)
    have w2 : IntKind.wrap .i64 ((wTs (o.getD []) : Int) + 1) = (wTs (o.getD []) : Int) + 1 := wrap_i64 (by omega) (by omega)
    have w3 : IntKind.wrap .i64 ((wTs (o.getD []) : Int) + 1 + ((o.getD []).length : Int)) = (wTs (o.getD []) : Int) + 1 + ((o.getD []).length : Int) := wrap_i64 (by omega) (by omega)
    have w4 : IntKind.wrap .i64 ((szs (o.getD []) : Int) + ((o.getD []).length : Int)) = (szs (o.getD []) : Int) + ((o.getD []).length : Int) := wrap_i64 (by omega) (by omega)
    have w5 : IntKind.wrap .i64 ((szs (o.getD []) : Int) + ((o.getD []).length : Int) + 1) = (szs (o.getD []) : Int) + ((o.getD []).length : Int) + 1 := wrap_i64 (by omega) (by omega)
    have w6 : IntKind.wrap .i64 (3 * ((o.getD []).length : Int)) = 3 * ((o.getD []).length : Int) := wrap_i64 (by omega) (by omega)
    have w7 : IntKind.wrap .i64 ((wTs (o.getD []) : Int) + 3 * ((o.getD []).length : Int)) = (wTs (o.getD []) : Int) + 3 * ((o.getD []).length : Int) := wrap_i64 (by omega) (by omega)
    have c1 : A.fits 7 (eT (tupT (o.getD []))) = true := by simp [A.fits]
    have c2 : A.fits 7 (eT (listT (o.getD []))) = true := by simp [A.fits]
    have d1 : (eT (tupT (o.getD []))).cells.length = 7 := by rw [cells_eT]; rfl
    have d2 : (eT (listT (o.getD []))).cells.length = 7 := by rw [cells_eT]; rfl
    have e1 : A.splice [.int .i64 0, .bool false, .nils, .str [], .int .i64 0, .nils, .nils] 0 (eT (tupT (o.getD []))).cells = (eT (tupT (o.getD []))).cells := by rw [cells_eT]; rfl
    have e2 : A.splice [.int .i64 0, .bool false, .nils, .str [], .int .i64 0, .nils, .nils] 0 (eT (listT (o.getD []))).cells = (eT (listT (o.getD []))).cells := by rw [cells_eT]; rfl
    have o1 : A.ofList true 7 (eT (tupT (o.getD []))).cells 0 = some (eT (tupT (o.getD []))) := load_eT (H := [])
    have o2 : A.ofList true 7 (eT (listT (o.getD []))).cells 0 = some (eT (listT (o.getD []))) := load_eT (H := [])
    refine Evs.withL hL (Evs.of fun n m h1 _ => ?_)
    simp only [Int.natCast_zero] at h1
    generalize eT (tupT (o.getD [])) = T1 at *
    generalize eT (listT (o.getD [])) = T2 at *
    generalize (szs (o.getD []) : Int) = P at *
    generalize (wTs (o.getD []) : Int) = W at *
    generalize ((o.getD []).length : Int) = N at *
    simp (maxSteps := 3000000) [-len_eL, S8, kAwake5, hrm, h1, hln, wm, wa, wb, hbig, k1, k2, c1, c2, d1, d2, e1, e2, o1, o2, k3, k4, k5, k6, k7, k8, w1, w2, w3, w4, w5, w6, w7]
theorem ty_terms_in {n : Nat} {v : AV} (h : Ty Tryd.prog n 23 v) : ∃ o : Option (List Tm), v = eL 7 eT o := by
  obtain ⟨m, es, hm, him, -, hes⟩ := h.slice (e := 26) (by kernel_rfl)
  obtain ⟨l, hl, -⟩ := map_of_all (f := eT) (p := fun _ => True) (es := es) fun x hx => by
    obtain ⟨t, ht⟩ := ty_tm m x (hes x hx)
    exact ⟨t, ht, trivial⟩
  have hc : Tryd.prog.cellsOf 26 = 7 := by kernel_rfl
  rw [hc] at him
  cases him with
  | nil => exact ⟨none, rfl⟩
  | sh _ =>
    subst hl
    exact ⟨some l, rfl⟩
end Go.Proofs.YtleikacgncpfbaaDoor
