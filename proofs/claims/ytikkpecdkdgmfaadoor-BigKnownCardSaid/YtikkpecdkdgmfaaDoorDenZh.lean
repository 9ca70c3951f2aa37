/- DEN, part Zh: what a call from outside is handed: an argument as the row's reader reads it stands for a value of memory that does not change. -/
import Derived.Test.YtikkpecdkdgmfaaDoorDenZg
import Derived.ChangeArms
import Derived.ChangeOld
namespace Go.Den
open Go.RowKit

/-- A value of a type made of numbers, bools, texts, slices, structs, arrays. -/
def Ty (P : Program) : Nat → TypeId → AV → Prop
  | 0, _, _ => False
  | n + 1, t, v =>
    match P.underlying t with
    | some .bool => ∃ b, v = .bool b
    | some (.int k) => ∃ i, v = .int k i ∧ k.min ≤ i ∧ i ≤ k.max
    | some .string => ∃ l : List UInt8, v = .str l ∧ l.length ≤ maxLen
    | some (.slice e) => v = .nils ∨ ∃ es : List AV, v = .sh (P.cellsOf e) es ∧ es.length ≤ maxLen ∧ ∀ x ∈ es, Ty P n e x
    | some (.struct fs) => ∃ vs : List AV, v = .agg (vs.flatMap AV.cells) ∧ vs.length = fs.size ∧ ∀ (i : Nat) (f : Field) (x : AV), fs[i]? = some f → vs[i]? = some x → Ty P n f.type x ∧ x.cells.length = P.cellsOf f.type
    | some (.array m e) => ∃ vs : List AV, v = .agg (vs.flatMap AV.cells) ∧ vs.length = m ∧ ∀ x ∈ vs, Ty P n e x ∧ x.cells.length = P.cellsOf e
    | _ => False

def contig (P : Program) : Nat → List Field → Option Nat
  | off, [] => some off
  | off, f :: fs => if f.offset = off then contig P (off + P.cellsOf f.type) fs else none

def tyOk (P : Program) (ts : List TypeId) (t : TypeId) : Bool :=
  match P.underlying t with
  | some .bool | some (.int _) | some .string => true
  | some (.slice e) => ts.contains e && decide (0 < P.cellsOf e)
  | some (.struct fs) => fs.toList.all (fun f => ts.contains f.type) && decide (contig P 0 fs.toList = some (P.cellsOf t))
  | some (.array n e) => ts.contains e && decide (n * P.cellsOf e = P.cellsOf t)
  | _ => false

def immK (W : World) : Nat → Role := fun b => if b < W.heap.size then .imm else .oth

section
variable {H : Type} {enc : TypeId × Value → H} {P : Program} {W : World} {sp : Nat → Bool} {hd : Bool}

/-- Is it a struct or an array? -/
def aggTy (P : Program) (t : TypeId) : Bool := match P.underlying t with | some (.struct _) | some (.array _ _) => true | _ => false

theorem Vs.join {C : Ctx} {p : Bool} : ∀ {vs : List AV} {css : List (List Value)}, vs.length = css.length → (∀ (i : Nat) (v : AV) (cs : List Value), vs[i]? = some v → css[i]? = some cs → Vs C p v.cells cs) → Vs C p (vs.flatMap AV.cells) css.flatten
  | [], [], _, _ => .nil _
  | [], _ :: _, h, _ => by simp at h
  | _ :: _, [], h, _ => by simp at h
  | v :: vs, cs :: css, hl, h => by
    simp only [List.flatMap_cons, List.flatten_cons]
    exact (h 0 v cs rfl rfl).append (Vs.join (by simpa using hl) fun i v' cs' h1 h2 => h (i + 1) v' cs' (by simpa using h1) (by simpa using h2))

/-- Of each place something: a list of these. -/
theorem choose_list {α β : Type} {n : Nat} {R : Nat → α → β → Prop} (h : ∀ i, i < n → ∃ a b, R i a b) : ∃ (as : List α) (bs : List β), as.length = n ∧ bs.length = n ∧ ∀ (i : Nat) (a : α) (b : β), as[i]? = some a → bs[i]? = some b → R i a b := by
  induction n with
  | zero => exact ⟨[], [], rfl, rfl, fun i a b h => by simp at h⟩
  | succ n ih =>
    obtain ⟨as, bs, h1, h2, h3⟩ := ih fun i hi => h i (by omega)
    obtain ⟨a, b, hab⟩ := h n (by omega)
    refine ⟨as ++ [a], bs ++ [b], by simp [h1], by simp [h2], fun i x y hx hy => ?_⟩
    rcases Nat.lt_trichotomy i n with hi | hi | hi
    · rw [List.getElem?_append_left (by omega)] at hx hy
      exact h3 i x y hx hy
    · subst hi
      rw [List.getElem?_append_right (by omega)] at hx hy
      simp only [h1, h2, Nat.sub_self, List.getElem?_cons_zero, Option.some.injEq] at hx hy
      subst hx hy
      exact hab
    · rw [List.getElem?_append_right (by omega), List.getElem?_eq_none (by simp; omega)] at hx
      cases hx

theorem flatten_pieces {cs : List Value} : ∀ {css : List (List Value)} {n : Nat}, (∀ (i : Nat) (c : List Value), css[i]? = some c → c = (cs.drop (i * n)).take n) → css.length * n = cs.length → css.flatten = cs := by
  intro css n
  induction css generalizing cs with
  | nil =>
    intro _ hl
    cases cs with
    | nil => rfl
    | cons _ _ => simp at hl
  | cons c css ih =>
    intro h hl
    have h0 := h 0 c rfl
    simp only [Nat.zero_mul, List.drop_zero] at h0
    have := ih (cs := cs.drop n) (fun i c' hc => by
      have := h (i + 1) c' (by simpa using hc)
      rw [this, List.drop_drop, Nat.add_mul, Nat.one_mul, Nat.add_comm]) (by
      simp only [List.length_cons, Nat.add_mul, Nat.one_mul] at hl
      simp only [List.length_drop]
      omega)
    rw [List.flatten_cons, this, h0, List.take_append_drop]

theorem contig_flatten {cs : List Value} : ∀ {fs : List Field} {css : List (List Value)} {off tot : Nat}, contig P off fs = some tot → css.length = fs.length →
    (∀ (i : Nat) (f : Field) (c : List Value), fs[i]? = some f → css[i]? = some c → c = (cs.drop f.offset).take (P.cellsOf f.type)) → css.flatten = (cs.drop off).take (tot - off) ∧ off ≤ tot
  | [], [], off, tot, h, _, _ => by
    simp only [contig, Option.some.injEq] at h
    subst h
    simp
  | [], _ :: _, _, _, _, h, _ => by simp at h
  | _ :: _, [], _, _, _, h, _ => by simp at h
  | f :: fs, c :: css, off, tot, h, hl, hp => by
    unfold contig at h
    split at h
    · rename_i ho
      obtain ⟨h1, h2⟩ := contig_flatten (cs := cs) h (by simpa using hl) fun i f' c' hf hc => hp (i + 1) f' c' (by simpa using hf) (by simpa using hc)
      have h0 := hp 0 f c rfl rfl
      rw [List.flatten_cons, h1, h0, ho]
      refine ⟨?_, by omega⟩
      have : tot - off = P.cellsOf f.type + (tot - (off + P.cellsOf f.type)) := by omega
      rw [this, List.take_add, List.drop_drop]
    · cases h

/-- What the reader reads. -/
theorem trod_V {ts : List TypeId} (hts : ∀ t ∈ ts, tyOk P ts t = true) : ∀ (fuel : Nat) (t : TypeId) (cs : List Value) (x : DataW H × List MemPlace), t ∈ ts → DataW.trod enc P W 0 sp hd fuel t cs = some x →
    ∃ v, Ty P fuel t v ∧ (∀ c ∈ v.cells, c.one = true) ∧ Vs (.outer W (immK W)) true v.cells cs ∧ (aggTy P t = true → v = .agg v.cells) ∧ (aggTy P t = false → v.cells = [v]) := by
  intro fuel
  induction fuel with
  | zero => intro t cs x _ h; simp [DataW.trod] at h
  | succ fuel ih =>
    intro t cs x ht h
    have hok := hts t ht
    unfold tyOk at hok
    unfold Ty aggTy
    split at hok
    · rename_i hu
      obtain ⟨b, rfl, _⟩ := DataW.trod_bool hu h
      rw [hu]
      exact ⟨.bool b, ⟨b, rfl⟩, by simp [AV.cells, AV.one], .cons _ _ _ _ _ (.bool _ _) (.nil _), by simp, by simp [AV.cells]⟩
    · rename_i k hu
      obtain ⟨n, rfl, _, hw⟩ := DataW.trod_int hu h
      rw [hu]
      simp only [Lit.wf, Bool.and_eq_true, decide_eq_true_eq] at hw
      exact ⟨.int k n, ⟨n, rfl, hw⟩, by simp [AV.cells, AV.one], .cons _ _ _ _ _ (.int _ _ _) (.nil _), by simp, by simp [AV.cells]⟩
    · rename_i hu
      obtain ⟨s, rfl, _, hs⟩ := DataW.trod_string hu h
      rw [hu]
      exact ⟨.str s.data.toList, ⟨_, rfl, by simpa using hs⟩, by simp [AV.cells, AV.one], .cons _ _ _ _ _ (.str _ _) (.nil _), by simp, by simp [AV.cells]⟩
    · rename_i e hu
      simp only [Bool.and_eq_true, List.contains_iff_mem, decide_eq_true_eq] at hok
      rw [hu]
      dsimp only
      rcases DataW.trod_slice hu h with ⟨rfl, _⟩ | ⟨a, len, cap, elems, rest, n, hn, rfl, _, _, hlc, hcap, hel, hget, _, _⟩
      · exact ⟨.nils, .inl rfl, by simp [AV.cells, AV.one], .cons _ _ _ _ _ (.nils _) (.nil _), by simp, by simp [AV.cells]⟩
      · injection hn with hn
        subst hn
        have hR : ∀ i, i < len → ∃ v cs, W.cells? 0 (a.add (i * P.cellsOf e)) (P.cellsOf e) = some cs ∧ Ty P fuel e v ∧ (∀ c ∈ v.cells, c.one = true) ∧ Vs (.outer W (immK W)) true v.cells cs := fun i hi => by
          have := hget i hi
          rw [List.getElem?_eq_getElem (by omega)] at this
          simp only [Option.bind_eq_some_iff] at this
          obtain ⟨cs, h1, h2⟩ := this
          obtain ⟨v, g1, g2, g3, _⟩ := ih e cs _ hok.1 h2
          exact ⟨v, cs, h1, g1, g2, g3⟩
        obtain ⟨vs, css, hl1, hl2, hall⟩ := choose_list hR
        have hz : ∀ (i : Nat) (v : AV) (cs : List Value), vs[i]? = some v → css[i]? = some cs → cs.length = P.cellsOf e ∧ v.cells.length = P.cellsOf e := fun i v cs h1 h2 => by
          obtain ⟨g1, _, _, g4⟩ := hall i v cs h1 h2
          have := (World.cells?_some g1).2.1
          exact ⟨this, by rw [← g4.length]; exact this⟩
        have pairOf : ∀ (i : Nat) (v : AV), vs[i]? = some v → ∃ cs, css[i]? = some cs := fun i v h1 => by
          obtain ⟨hlt, _⟩ := List.getElem?_eq_some_iff.1 h1
          exact ⟨_, List.getElem?_eq_getElem (by omega)⟩
        have hmem : ∀ v ∈ vs, ∃ (i : Nat) (cs : List Value), vs[i]? = some v ∧ css[i]? = some cs := fun v hv => by
          obtain ⟨i, hi, e⟩ := List.mem_iff_getElem.1 hv
          have h1 : vs[i]? = some v := by rw [List.getElem?_eq_getElem hi, e]
          obtain ⟨cs, h2⟩ := pairOf i v h1
          exact ⟨i, cs, h1, h2⟩
        refine ⟨.sh (P.cellsOf e) vs, .inr ⟨vs, rfl, by omega, fun v hv => ?_⟩, by simp [AV.cells, AV.one], ?_, by simp, by simp [AV.cells]⟩
        · obtain ⟨i, cs, h1, h2⟩ := hmem v hv
          exact (hall i v cs h1 h2).2.1
        · have hlen : vs.length = len := hl1
          have hj : Vs (.outer W (immK W)) true (vs.flatMap AV.cells) css.flatten := Vs.join (by omega) fun i v cs h1 h2 => (hall i v cs h1 h2).2.2.2
          have hcell : ∀ j u, css.flatten[j]? = some u → W.cell? (a.add j) = some u := by
            intro j u hju
            have hpos := hok.2
            have hq : j / P.cellsOf e < css.length ∧ ∃ c, css[j / P.cellsOf e]? = some c ∧ c[j % P.cellsOf e]? = some u := by
              have gen : ∀ (l : List (List Value)) (j : Nat), (∀ c ∈ l, c.length = P.cellsOf e) → l.flatten[j]? = some u → j / P.cellsOf e < l.length ∧ ∃ c, l[j / P.cellsOf e]? = some c ∧ c[j % P.cellsOf e]? = some u := by
                intro l
                induction l with
                | nil => intro j _ h; simp at h
                | cons c l ihl =>
                  intro j hc h
                  have hcl := hc c List.mem_cons_self
                  rw [List.flatten_cons] at h
                  rcases Nat.lt_or_ge j c.length with hlt | hge
                  · rw [List.getElem?_append_left hlt] at h
                    have e1 : j / P.cellsOf e = 0 := Nat.div_eq_of_lt (by omega)
                    have e2 : j % P.cellsOf e = j := Nat.mod_eq_of_lt (by omega)
                    rw [e1, e2]
                    exact ⟨by simp, c, by simp, h⟩
                  · rw [List.getElem?_append_right hge] at h
                    obtain ⟨g1, c', g2, g3⟩ := ihl (j - c.length) (fun c' hc' => hc c' (List.mem_cons_of_mem _ hc')) h
                    have e1 : j / P.cellsOf e = (j - c.length) / P.cellsOf e + 1 := by
                      rw [hcl, Nat.div_eq_sub_div hpos (by omega)]
                    have e2 : j % P.cellsOf e = (j - c.length) % P.cellsOf e := by
                      rw [hcl, Nat.mod_eq_sub_mod (by omega)]
                    rw [e1, e2]
                    exact ⟨by simpa using g1, c', by simpa using g2, g3⟩
              refine gen css j (fun c hc => ?_) hju
              obtain ⟨i, hi, e⟩ := List.mem_iff_getElem.1 hc
              have h2 : css[i]? = some c := by rw [List.getElem?_eq_getElem hi, e]
              have h1 : vs[i]? = some (vs[i]'(by omega)) := List.getElem?_eq_getElem _
              exact (hz i _ c h1 h2).1
            obtain ⟨hq1, c, hq2, hq3⟩ := hq
            have h1 : vs[j / P.cellsOf e]? = some (vs[j / P.cellsOf e]'(by omega)) := List.getElem?_eq_getElem _
            have h3 := (hall _ _ c h1 hq2).1
            have h4 := (World.cells?_some h3).2.2 (j % P.cellsOf e) (Nat.mod_lt _ hpos)
            rw [hq3] at h4
            rw [add_add, Nat.mul_comm, Nat.div_add_mod] at h4
            exact h4
          have hsh := V.sh (C := .outer W (immK W)) true (P.cellsOf e) vs a cap css.flatten hj (fun v hv => by
            obtain ⟨i, cs, h1, h2⟩ := hmem v hv
            exact ⟨(hz i v cs h1 h2).2, (hall i v cs h1 h2).2.2.1⟩) hcell (fun hne => by
              have hlt : 0 < len := by
                rw [← hlen]
                cases vs with
                | nil => exact absurd rfl hne
                | cons _ _ => simp
              obtain ⟨v, cs, h1, _⟩ := hR 0 hlt
              have hb := World.cells?_block h1 hok.2
              have hab : (a.add (0 * P.cellsOf e)).block = a.block := by unfold Addr.add; split <;> rfl
              rw [hab] at hb
              exact ⟨if_pos hb, hb⟩) (by omega) hcap
          rw [hlen] at hsh
          exact .cons _ _ _ _ _ hsh (.nil _)
    · rename_i fs hu
      simp only [Bool.and_eq_true, List.all_eq_true, List.contains_iff_mem, decide_eq_true_eq] at hok
      rw [hu]
      dsimp only
      obtain ⟨xs, n, hn, _, hcl, hxl, hget⟩ := DataW.trod_struct hu h
      injection hn with hn
      subst hn
      have hR : ∀ i : Nat, i < fs.size → ∃ (v : AV) (c : List Value), ∀ f : Field, fs[i]? = some f → c = (cs.drop f.offset).take (P.cellsOf f.type) ∧ Ty P fuel f.type v ∧ (∀ c ∈ v.cells, c.one = true) ∧ Vs (.outer W (immK W)) true v.cells c := fun i hi => by
        have hf : fs[i]? = some fs[i] := Array.getElem?_eq_getElem hi
        have := hget i _ hf
        rw [List.getElem?_eq_getElem (by omega)] at this
        have hmem : fs[i].type ∈ ts := hok.1 _ (Array.mem_toList_iff.2 (Array.getElem_mem hi))
        obtain ⟨v, g1, g2, g3, _⟩ := ih _ _ _ hmem this
        refine ⟨v, (cs.drop fs[i].offset).take (P.cellsOf fs[i].type), fun f hf' => ?_⟩
        rw [hf] at hf'
        injection hf' with hf'
        subst hf'
        exact ⟨rfl, g1, g2, g3⟩
      obtain ⟨vs, css, hl1, hl2, hall⟩ := choose_list hR
      have hfl : css.flatten = cs := by
        have := (contig_flatten (cs := cs) hok.2 (by simpa using hl2) fun i f c hf hc => by
          have hf' : fs[i]? = some f := by simpa using hf
          obtain ⟨hlt, _⟩ := List.getElem?_eq_some_iff.1 hc
          have h1 : vs[i]? = some (vs[i]'(by omega)) := List.getElem?_eq_getElem _
          exact (hall i _ c h1 hc f hf').1).1
        rw [this, ← hcl]
        simp
      have hfld : ∀ (i : Nat) (v : AV) (c : List Value), vs[i]? = some v → css[i]? = some c → ∃ f, fs[i]? = some f := fun i v c h1 h2 => by
        obtain ⟨hlt, _⟩ := List.getElem?_eq_some_iff.1 h1
        exact ⟨_, Array.getElem?_eq_getElem (by omega)⟩
      have hj : Vs (.outer W (immK W)) true (vs.flatMap AV.cells) css.flatten := Vs.join (by omega) fun i v c h1 h2 => by
        obtain ⟨f, hf⟩ := hfld i v c h1 h2
        exact (hall i v c h1 h2 f hf).2.2.2
      have hone : ∀ c ∈ vs.flatMap AV.cells, c.one = true := fun c hc => by
        obtain ⟨v, hv, hcv⟩ := List.mem_flatMap.1 hc
        obtain ⟨i, hi, e⟩ := List.mem_iff_getElem.1 hv
        have h1 : vs[i]? = some v := by rw [List.getElem?_eq_getElem hi, e]
        have h2 : css[i]? = some (css[i]'(by omega)) := List.getElem?_eq_getElem _
        obtain ⟨f, hf⟩ := hfld i v _ h1 h2
        exact (hall i v _ h1 h2 f hf).2.2.1 c hcv
      rw [hfl] at hj
      refine ⟨.agg (vs.flatMap AV.cells), ⟨vs, rfl, by omega, fun i f x hf hx => ?_⟩, hone, hj, fun _ => rfl, by simp⟩
      have h2 : css[i]? = some (css[i]'(by obtain ⟨hlt, _⟩ := List.getElem?_eq_some_iff.1 hx; omega)) := List.getElem?_eq_getElem _
      obtain ⟨g0, g1, _, g3⟩ := hall i x _ hx h2 f hf
      refine ⟨g1, ?_⟩
      have hxl' := g3.length
      have hq : xs[i]? = some (xs[i]'(by obtain ⟨hlt, _⟩ := List.getElem?_eq_some_iff.1 hx; omega)) := List.getElem?_eq_getElem _
      have hfo : f.offset + P.cellsOf f.type ≤ cs.length := by
        have gen : ∀ (l : List Field) (off tot i : Nat) (f : Field), contig P off l = some tot → l[i]? = some f → f.offset + P.cellsOf f.type ≤ tot := by
          intro l
          induction l with
          | nil => intro off tot i f _ h; simp at h
          | cons a l ihl =>
            intro off tot i f hc hi
            unfold contig at hc
            split at hc
            · rename_i ho
              cases i with
              | zero =>
                simp only [List.getElem?_cons_zero, Option.some.injEq] at hi
                subst hi
                have : ∀ (l : List Field) (off tot : Nat), contig P off l = some tot → off ≤ tot := by
                  intro l
                  induction l with
                  | nil => intro off tot h; simp only [contig, Option.some.injEq] at h; omega
                  | cons b l ihb =>
                    intro off tot h
                    unfold contig at h
                    split at h
                    · have := ihb _ _ h
                      omega
                    · cases h
                have := this _ _ _ hc
                omega
              | succ i => exact ihl _ _ i f hc (by simpa using hi)
            · cases hc
        rw [hcl]
        exact gen _ _ _ i f hok.2 (by simpa using hf)
      rw [← hxl', g0]
      simp
      omega
    · rename_i m e hu
      simp only [Bool.and_eq_true, List.contains_iff_mem, decide_eq_true_eq] at hok
      rw [hu]
      dsimp only
      obtain ⟨xs, n, hn, _, hcl, hxl, hget⟩ := DataW.trod_array hu h
      injection hn with hn
      subst hn
      have hR : ∀ i, i < m → ∃ (v : AV) (c : List Value), c = (cs.drop (i * P.cellsOf e)).take (P.cellsOf e) ∧ Ty P fuel e v ∧ (∀ c ∈ v.cells, c.one = true) ∧ Vs (.outer W (immK W)) true v.cells c := fun i hi => by
        have := hget i hi
        rw [List.getElem?_eq_getElem (by omega)] at this
        obtain ⟨v, g1, g2, g3, _⟩ := ih _ _ _ hok.1 this
        exact ⟨v, _, rfl, g1, g2, g3⟩
      obtain ⟨vs, css, hl1, hl2, hall⟩ := choose_list hR
      have pr : ∀ (i : Nat) (v : AV), vs[i]? = some v → ∃ c, css[i]? = some c := fun i v h1 => by
        obtain ⟨hlt, _⟩ := List.getElem?_eq_some_iff.1 h1
        exact ⟨_, List.getElem?_eq_getElem (by omega)⟩
      have hfl : css.flatten = cs := flatten_pieces (fun i c hc => by
        obtain ⟨hlt, _⟩ := List.getElem?_eq_some_iff.1 hc
        have h1 : vs[i]? = some (vs[i]'(by omega)) := List.getElem?_eq_getElem _
        exact (hall i _ c h1 hc).1) (by rw [hl2, hcl]; exact hok.2)
      have hj : Vs (.outer W (immK W)) true (vs.flatMap AV.cells) css.flatten := Vs.join (by omega) fun i v c h1 h2 => (hall i v c h1 h2).2.2.2
      have hone : ∀ c ∈ vs.flatMap AV.cells, c.one = true := fun c hc => by
        obtain ⟨v, hv, hcv⟩ := List.mem_flatMap.1 hc
        obtain ⟨i, hi, e⟩ := List.mem_iff_getElem.1 hv
        have h1 : vs[i]? = some v := by rw [List.getElem?_eq_getElem hi, e]
        obtain ⟨c', h2⟩ := pr i v h1
        exact (hall i v _ h1 h2).2.2.1 c hcv
      rw [hfl] at hj
      refine ⟨.agg (vs.flatMap AV.cells), ⟨vs, rfl, hl1, fun v hv => ?_⟩, hone, hj, fun _ => rfl, by simp⟩
      obtain ⟨i, hi, e'⟩ := List.mem_iff_getElem.1 hv
      have h1 : vs[i]? = some v := by rw [List.getElem?_eq_getElem hi, e']
      obtain ⟨c, h2⟩ := pr i v h1
      obtain ⟨g0, g1, _, g3⟩ := hall i v c h1 h2
      refine ⟨g1, ?_⟩
      have hxl' := g3.length
      rw [← hxl', g0]
      have him : i < m := by omega
      have : i * P.cellsOf e + P.cellsOf e ≤ cs.length := by
        rw [hcl, ← hok.2]
        have := Nat.mul_le_mul_right (P.cellsOf e) (Nat.succ_le_of_lt him)
        rw [Nat.succ_mul] at this
        exact this
      simp
      omega
    · cases hok

/-- An argument. -/
theorem arg_V {ts : List TypeId} (hts : ∀ t ∈ ts, tyOk P ts t = true) {t : TypeId} (ht : t ∈ ts) {r : Reach} {base : Nat} {u : Value} {d : DataW H} {ps : List MemPlace}
    (h : DataW.Trod enc P W 0 sp hd t u d ps) (hv : Value.okWide P W r base t u) : ∃ n v, Ty P n t v ∧ V (.outer W (immK W)) true v u := by
  obtain ⟨n, hn⟩ := h
  obtain ⟨v, g1, g2, g3, g4, g5⟩ := trod_V hts n t _ _ ht hn
  refine ⟨n, v, g1, ?_⟩
  have hok := hts t ht
  cases ha : aggTy P t with
  | true =>
    have : ∃ cs, u = .agg cs := by
      unfold aggTy at ha
      unfold Value.okWide at hv
      cases hu : P.underlying t with
      | none => rw [hu] at ha; cases ha
      | some d =>
        rw [hu] at ha hv
        cases d <;> first | (cases ha; done) | (obtain ⟨cs, h, _⟩ := hv; exact ⟨cs, h⟩)
    obtain ⟨cs, rfl⟩ := this
    rw [g4 ha]
    exact .agg _ _ _ g2 g3
  | false =>
    rw [g5 ha] at g3
    cases hu : u with
    | agg cs =>
      exfalso
      subst hu
      unfold aggTy at ha
      unfold Value.okWide at hv
      unfold Cell.okWide Cell.ok at hv
      cases hq : P.underlying t with
      | none => rw [hq] at hv; exact hv
      | some d =>
        rw [hq] at ha hv
        cases d <;> first | (cases ha; done) | exact hv
    | _ =>
      subst hu
      simp only [Value.cells] at g3
      cases g3 with
      | cons _ _ _ _ _ h1 _ => exact h1

end
end Go.Den
